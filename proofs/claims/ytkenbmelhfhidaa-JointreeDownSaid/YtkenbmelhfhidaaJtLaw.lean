/- Join trees: what a removal that leaves nothing shows, and what a knot rules out. No program in sight. -/
import Derived.Test.YtkenbmelhfhidaaEarLaw2
namespace Go.Proofs.Ytkenbmelhfhidaa

structure Tree (n : Nat) (p : Nat → Int) : Prop where
  rng : ∀ i, i < n → -1 ≤ p i ∧ p i < n
  rank : ∃ d : Nat → Nat, ∀ i, i < n → 0 ≤ p i → d (p i).toNat < d i
  one : ∀ i j, i < n → j < n → p i = -1 → p j = -1 → i = j
/-- The edge i is the topmost one that has the vertex. -/
def Top (E : List (BitVec 32)) (p : Nat → Int) (v i : Nat) : Prop := hv (ed E i) v ∧ (p i = -1 ∨ ¬ hv (ed E (p i).toNat) v)
/-- At most one edge is topmost for a vertex. -/
def OneTop (E : List (BitVec 32)) (p : Nat → Int) : Prop := ∀ v i j, i < E.length → j < E.length → Top E p v i → Top E p v j → i = j
def JT (E : List (BitVec 32)) (p : Nat → Int) : Prop := Tree E.length p ∧ OneTop E p

/-! ### The tree that a removal shows -/
def parOf : List Stp → Nat → Int
  | [], _ => -1
  | s :: ss, i => if parOf ss i ≠ -1 then parOf ss i else if s.kind ≠ 1 ∧ s.edge = i then s.into else -1
def TopL (L : Lt) (p : Nat → Int) (v : Nat) (x : Nat × BitVec 32) : Prop := hv x.2 v ∧ ∀ y ∈ L, p x.1 = (y.1 : Int) → ¬ hv y.2 v
structure JTL (L : Lt) (p : Nat → Int) : Prop where
  up : ∀ x ∈ L, p x.1 = -1 ∨ ∃ y ∈ L, p x.1 = (y.1 : Int)
  rank : ∃ d : Nat → Nat, ∀ x ∈ L, 0 ≤ p x.1 → d (p x.1).toNat < d x.1
  one : ∀ x ∈ L, ∀ y ∈ L, p x.1 = -1 → p y.1 = -1 → x.1 = y.1
  top : ∀ v, ∀ x ∈ L, ∀ y ∈ L, TopL L p v x → TopL L p v y → x.1 = y.1
theorem step_edge {L : Lt} {keep : BitVec 32} {s : Stp} (hs : Srt L) (h : IsStp L keep s) : ∃ x ∈ L, s.edge = (x.1 : Int) := by
  rcases h.cases hs with ⟨x, hx, _, rfl⟩ | ⟨x, hx, y, _, k, _, _, _, rfl⟩
  · exact ⟨x, hx, rfl⟩
  · exact ⟨x, hx, rfl⟩
theorem parOf_out {keep : BitVec 32} {L M : Lt} {ss : List Stp} (r : Rch keep L ss M) (hs : Srt L) (i : Nat) (hi : ∀ x ∈ L, x.1 ≠ i) : parOf ss i = -1 := by
  induction r with
  | nil => rfl
  | @cons L M s ss h r ih =>
    have h1 := ih hs.make (fun y hy => by obtain ⟨x, hx, e⟩ := make_key hy; rw [← e]; exact hi x hx)
    obtain ⟨x, hx, e⟩ := step_edge hs h
    unfold parOf
    rw [h1, if_neg (by simp), if_neg]
    rintro ⟨_, e2⟩
    exact hi x hx (by omega)
theorem mem_one {α : Type} {L : List α} (h : L.length ≤ 1) {x y : α} (hx : x ∈ L) (hy : y ∈ L) : x = y := by
  match L, h, hx, hy with
  | [a], _, hx, hy => rw [List.mem_singleton.1 hx, List.mem_singleton.1 hy]
theorem jtl_of_reach {keep : BitVec 32} {L M : Lt} {ss : List Stp} (r : Rch keep L ss M) (hs : Srt L) (hM : M.length ≤ 1) : JTL L (parOf ss) := by
  induction r with
  | nil L =>
    exact ⟨fun _ _ => .inl rfl, ⟨fun _ => 0, fun x _ h => by simp [parOf] at h⟩, fun x hx y hy _ _ => by rw [mem_one hM hx hy], fun v x hx y hy _ _ => by rw [mem_one hM hx hy]⟩
  | @cons L M s ss h r ih =>
    obtain ⟨hup, ⟨d, hd⟩, hone, htop⟩ := ih hs.make hM
    rcases h.cases hs with ⟨x, hx, hc, rfl⟩ | ⟨x, hx, y, hy, k, hne, hk, hsub, rfl⟩
    · have hp : ∀ i, parOf (⟨1, x.1, 0, cutE L keep x⟩ :: ss) i = parOf ss i := by
        intro i
        conv => lhs; unfold parOf
        split
        · rfl
        · next h => rw [if_neg (by simp)]; simpa using (Classical.not_not.1 h).symm
      have img : ∀ z ∈ L, ∃ z' ∈ makeE L ⟨1, x.1, 0, cutE L keep x⟩, z'.1 = z.1 ∧ ∀ v, ¬ hv (cutE L keep x) v → hv z.2 v → hv z'.2 v := by
        intro z hz
        by_cases e : z.1 = x.1
        · exact ⟨_, mem_make.2 ⟨z, hz, .inl ⟨by simp [e], rfl, rfl⟩⟩, rfl, fun v a b => (hv_andNot _ _ _).2 ⟨b, a⟩⟩
        · exact ⟨z, mem_make.2 ⟨z, hz, .inr ⟨by first | exact ni.1 e | exact ne_up e | exact ne_dn e, rfl⟩⟩, rfl, fun v a b => b⟩
      have pre : ∀ z' ∈ makeE L ⟨1, x.1, 0, cutE L keep x⟩, ∃ z ∈ L, z.1 = z'.1 ∧ ∀ v, hv z'.2 v → hv z.2 v := by
        intro z' hz'
        obtain ⟨z, hz, ⟨_, _, rfl⟩ | ⟨_, rfl⟩⟩ := mem_make.1 hz'
        · exact ⟨z, hz, rfl, fun v a => ((hv_andNot _ _ _).1 a).1⟩
        · exact ⟨_, hz, rfl, fun v a => a⟩
      refine ⟨fun z hz => ?_, ⟨d, fun z hz h0 => ?_⟩, fun z hz u hu a b => ?_, fun v z hz u hu a b => ?_⟩
      · obtain ⟨z', hz', e, _⟩ := img z hz
        rw [hp]
        rcases hup z' hz' with c | ⟨y', hy', c⟩
        · rw [e] at c; exact .inl c
        · obtain ⟨y, hy, e2, _⟩ := pre y' hy'
          rw [e] at c
          exact .inr ⟨y, hy, by rw [c, e2]⟩
      · obtain ⟨z', hz', e, _⟩ := img z hz
        rw [hp] at h0 ⊢
        have := hd z' hz' (by rw [e]; exact h0)
        rw [e] at this; exact this
      · obtain ⟨z', hz', e, _⟩ := img z hz
        obtain ⟨u', hu', e2, _⟩ := img u hu
        rw [hp] at a b
        have := hone z' hz' u' hu' (by rw [e]; exact a) (by rw [e2]; exact b)
        omega
      · by_cases hcv : hv (cutE L keep x) v
        · have h1 := ((hv_cut L keep x v).1 hcv).2.2
          have hz1 : z.1 = x.1 := Classical.byContradiction fun e => h1 z hz e a.1
          have hu1 : u.1 = x.1 := Classical.byContradiction fun e => h1 u hu e b.1
          omega
        · have tp : ∀ z ∈ L, TopL L (parOf (⟨1, x.1, 0, cutE L keep x⟩ :: ss)) v z → ∃ z' ∈ makeE L ⟨1, x.1, 0, cutE L keep x⟩, z'.1 = z.1 ∧ TopL (makeE L ⟨1, x.1, 0, cutE L keep x⟩) (parOf ss) v z' := by
            intro z hz a
            obtain ⟨z', hz', e, hh⟩ := img z hz
            refine ⟨z', hz', e, hh v hcv a.1, fun y' hy' c hy2 => ?_⟩
            obtain ⟨y, hy, e2, hh2⟩ := pre y' hy'
            exact a.2 y hy (by rw [hp, ← e, c, e2]) (hh2 v hy2)
          obtain ⟨z', hz', e, tz⟩ := tp z hz a
          obtain ⟨u', hu', e2, tu⟩ := tp u hu b
          have := htop v z' hz' u' hu' tz tu
          omega
    · have hmem : ∀ z, z ∈ makeE L ⟨k, x.1, y.1, 0#32⟩ ↔ z ∈ L ∧ z.1 ≠ x.1 := by
        intro z
        rw [mem_make]
        constructor
        · rintro ⟨u, hu, ⟨_, e, _⟩ | ⟨e, rfl⟩⟩
          · exact absurd e hk
          · exact ⟨hu, by first | exact ni.1 e | exact ne_up e | exact ne_dn e⟩
        · rintro ⟨hz, e⟩; exact ⟨z, hz, .inr ⟨by first | exact ni.1 e | exact ne_up e | exact ne_dn e, rfl⟩⟩
      have hx0 : parOf ss x.1 = -1 := parOf_out r hs.make x.1 fun z hz => ((hmem z).1 hz).2
      have hpx : parOf (⟨k, x.1, y.1, 0#32⟩ :: ss) x.1 = y.1 := by
        unfold parOf; rw [hx0, if_neg (by simp), if_pos ⟨hk, rfl⟩]
      have hp : ∀ i, i ≠ x.1 → parOf (⟨k, x.1, y.1, 0#32⟩ :: ss) i = parOf ss i := by
        intro i hi
        conv => lhs; unfold parOf
        split
        · rfl
        · next h => rw [if_neg (by simp; omega)]; simpa using (Classical.not_not.1 h).symm
      refine ⟨fun z hz => ?_, ⟨fun i => if i = x.1 then d y.1 + 1 else d i, fun z hz h0 => ?_⟩, fun z hz u hu a b => ?_, fun v z hz u hu a b => ?_⟩
      · by_cases e : z.1 = x.1
        · exact .inr ⟨y, hy, by rw [e, hpx]⟩
        · rw [hp _ e]
          rcases hup z ((hmem z).2 ⟨hz, e⟩) with c | ⟨w, hw, c⟩
          · exact .inl c
          · exact .inr ⟨w, ((hmem w).1 hw).1, c⟩
      · by_cases e : z.1 = x.1
        · rw [e, hpx]
          simp [Ne.symm hne]
        · rw [hp _ e] at h0 ⊢
          have h1 := hd z ((hmem z).2 ⟨hz, e⟩) h0
          rcases hup z ((hmem z).2 ⟨hz, e⟩) with c | ⟨w, hw, c⟩
          · omega
          · have h2 := ((hmem w).1 hw).2
            rw [c] at h1 ⊢
            simpa [h2, e] using h1
      · have e1 : z.1 ≠ x.1 := fun e => by rw [e, hpx] at a; omega
        have e2 : u.1 ≠ x.1 := fun e => by rw [e, hpx] at b; omega
        rw [hp _ e1] at a
        rw [hp _ e2] at b
        exact hone z ((hmem z).2 ⟨hz, e1⟩) u ((hmem u).2 ⟨hu, e2⟩) a b
      · have tp : ∀ z ∈ L, TopL L (parOf (⟨k, x.1, y.1, 0#32⟩ :: ss)) v z → z ∈ makeE L ⟨k, x.1, y.1, 0#32⟩ ∧ TopL (makeE L ⟨k, x.1, y.1, 0#32⟩) (parOf ss) v z := by
          intro z hz a
          have e : z.1 ≠ x.1 := by
            intro e
            obtain rfl := hs.uniq hz hx e
            exact a.2 y hy hpx (hsub v a.1)
          refine ⟨(hmem z).2 ⟨hz, e⟩, a.1, fun w hw c => a.2 w ((hmem w).1 hw).1 (by rw [hp _ e]; exact c)⟩
        obtain ⟨z1, tz⟩ := tp z hz a
        obtain ⟨u1, tu⟩ := tp u hu b
        exact htop v z z1 u u1 tz tu
/-- THE TREE THAT A REMOVAL SHOWS IS A JOIN TREE. -/
theorem jt_of_reach {keep : BitVec 32} {E : List (BitVec 32)} {M : Lt} {ss : List Stp} (r : Rch keep (beginE E) ss M) (hM : M.length ≤ 1) : JT E (parOf ss) := by
  obtain ⟨hup, ⟨d, hd⟩, hone, htop⟩ := jtl_of_reach r (srt_begin E) hM
  have mem : ∀ i, i < E.length → (i, ed E i) ∈ beginE E := fun i hi => mem_begin.2 ⟨hi, rfl⟩
  refine ⟨⟨fun i hi => ?_, ⟨d, fun i hi h0 => hd _ (mem i hi) h0⟩, fun i j hi hj a b => hone _ (mem i hi) _ (mem j hj) a b⟩, fun v i j hi hj a b => ?_⟩
  · rcases hup _ (mem i hi) with c | ⟨y, hy, c⟩
    · have c : parOf ss i = -1 := c; omega
    · have c : parOf ss i = (y.1 : Int) := c
      have := (mem_begin.1 hy).1; omega
  · have tp : ∀ i, i < E.length → Top E (parOf ss) v i → TopL (beginE E) (parOf ss) v (i, ed E i) := by
      intro i hi a
      refine ⟨a.1, fun y hy c hy2 => ?_⟩
      have c : parOf ss i = (y.1 : Int) := c
      rcases a.2 with h | h
      · omega
      · obtain ⟨_, e⟩ := mem_begin.1 hy
        rw [c, Int.toNat_natCast, ← e] at h
        exact h hy2
    exact htop v _ (mem i hi) _ (mem j hj) (tp i hi a) (tp j hj b)

/-! ### A knot rules a join tree out -/
def inR (R : List (BitVec 32)) (v : Nat) : Prop := ∃ a ∈ R, hv a v
structure Knot (E R : List (BitVec 32)) : Prop where
  ne : ∃ v, inR R v
  anti : ∀ i j, i < R.length → j < R.length → (∀ v, hv (ed R i) v → hv (ed R j) v) → i = j
  twice : ∀ v, inR R v → ∃ i j, i < R.length ∧ j < R.length ∧ i ≠ j ∧ hv (ed R i) v ∧ hv (ed R j) v
  edge : ∀ a ∈ R, ∃ j, j < E.length ∧ ∀ v, hv a v ↔ hv (ed E j) v ∧ inR R v
  part : ∀ j, j < E.length → ∃ i, i < R.length ∧ ∀ v, hv (ed E j) v → inR R v → hv (ed R i) v
theorem exists_max (P : Nat → Prop) (d : Nat → Nat) : ∀ n, (∃ i, i < n ∧ P i) → ∃ i, i < n ∧ P i ∧ ∀ j, j < n → P j → d j ≤ d i
  | 0, ⟨i, hi, _⟩ => by omega
  | n + 1, h => by
    by_cases h1 : ∃ i, i < n ∧ P i
    · obtain ⟨i, hi, hp, hm⟩ := exists_max P d n h1
      by_cases h2 : P n ∧ d i ≤ d n
      · refine ⟨n, by omega, h2.1, fun j hj hpj => ?_⟩
        rcases Nat.lt_or_ge j n with c | c
        · exact Nat.le_trans (hm j c hpj) h2.2
        · obtain rfl : j = n := by omega
          exact Nat.le_refl _
      · refine ⟨i, by omega, hp, fun j hj hpj => ?_⟩
        rcases Nat.lt_or_ge j n with c | c
        · exact hm j c hpj
        · obtain rfl : j = n := by omega
          rcases Nat.lt_or_ge (d j) (d i) with c2 | c2
          · omega
          · exact absurd ⟨hpj, c2⟩ h2
    · obtain ⟨i, hi, hp⟩ := h
      have hin : i = n := by
        rcases Nat.lt_or_ge i n with c | c
        · exact absurd ⟨i, c, hp⟩ h1
        · omega
      subst hin
      refine ⟨i, by omega, hp, fun j hj hpj => ?_⟩
      rcases Nat.lt_or_ge j i with c | c
      · exact absurd ⟨j, c, hpj⟩ h1
      · obtain rfl : j = i := by omega
        exact Nat.le_refl _
theorem exists_top {E : List (BitVec 32)} {p : Nat → Int} (h : Tree E.length p) {v : Nat} : ∀ i, i < E.length → hv (ed E i) v → ∃ t, t < E.length ∧ Top E p v t := by
  obtain ⟨d, hd⟩ := h.rank
  have key : ∀ m i, d i ≤ m → i < E.length → hv (ed E i) v → ∃ t, t < E.length ∧ Top E p v t := by
    intro m
    induction m with
    | zero =>
      intro i hm hi hh
      by_cases c : p i = -1 ∨ ¬ hv (ed E (p i).toNat) v
      · exact ⟨i, hi, hh, c⟩
      · have h1 := h.rng i hi
        have := hd i hi (by have : p i ≠ -1 := fun e => c (.inl e); omega)
        omega
    | succ m ih =>
      intro i hm hi hh
      by_cases c : p i = -1 ∨ ¬ hv (ed E (p i).toNat) v
      · exact ⟨i, hi, hh, c⟩
      · have h1 := h.rng i hi
        have h0 : 0 ≤ p i := by have : p i ≠ -1 := fun e => c (.inl e); omega
        have h2 := hd i hi h0
        exact ih (p i).toNat (by omega) (by omega) (Classical.byContradiction fun e => c (.inr e))
  exact fun i => key (d i) i (Nat.le_refl _)
theorem ed_getD (R : List (BitVec 32)) {a : BitVec 32} (h : a ∈ R) : ∃ i, i < R.length ∧ ed R i = a := by
  obtain ⟨i, hi, rfl⟩ := List.getElem_of_mem h
  exact ⟨i, hi, (ed_eq R i hi).symm⟩
theorem knot_no_jt {E R : List (BitVec 32)} (k : Knot E R) : ¬ ∃ p, JT E p := by
  rintro ⟨p, ht, ho⟩
  obtain ⟨d, hd⟩ := ht.rank
  obtain ⟨v0, a0, ha0, hv0⟩ := k.ne
  obtain ⟨j0, hj0, e0⟩ := k.edge a0 ha0
  obtain ⟨t0, ht0, top0⟩ := exists_top ht j0 hj0 ((e0 v0).1 hv0).1
  obtain ⟨i, hi, ⟨v, hvR, htop⟩, hmax⟩ := exists_max (fun i => ∃ v, inR R v ∧ Top E p v i) d E.length ⟨t0, ht0, v0, ⟨a0, ha0, hv0⟩, top0⟩
  have key : ∀ m k, d k ≤ m → k < E.length → hv (ed E k) v → d i ≤ d k ∧ ∀ u, inR R u → hv (ed E k) u → hv (ed E i) u := by
    intro m
    induction m with
    | zero =>
      intro k hm hk hh
      by_cases e : k = i
      · subst e; exact ⟨Nat.le_refl _, fun u _ h => h⟩
      · have hnt : ¬ Top E p v k := fun t => e (ho v k i hk hi t htop)
        have h1 := ht.rng k hk
        have h0 : p k ≠ -1 := fun c => hnt ⟨hh, .inl c⟩
        have := hd k hk (by omega)
        omega
    | succ m ih =>
      intro k hm hk hh
      by_cases e : k = i
      · subst e; exact ⟨Nat.le_refl _, fun u _ h => h⟩
      · have hnt : ¬ Top E p v k := fun t => e (ho v k i hk hi t htop)
        have h1 := ht.rng k hk
        have h0 : p k ≠ -1 := fun c => hnt ⟨hh, .inl c⟩
        have h2 := hd k hk (by omega)
        have h3 : hv (ed E (p k).toNat) v := Classical.byContradiction fun c => hnt ⟨hh, .inr c⟩
        obtain ⟨h4, h5⟩ := ih (p k).toNat (by omega) (by omega) h3
        refine ⟨by omega, fun u hu hku => h5 u hu ?_⟩
        apply Classical.byContradiction
        intro c
        have := hmax k hk ⟨u, hu, hku, .inr c⟩
        omega
  obtain ⟨a, b, ha, hb, hab, hva, hvb⟩ := k.twice v hvR
  obtain ⟨m, hm, hpart⟩ := k.part i hi
  have fin : ∀ a, a < R.length → hv (ed R a) v → a = m := by
    intro a ha hva
    obtain ⟨j, hj, e⟩ := k.edge (ed R a) (ed_mem R a ha)
    refine k.anti a m ha hm fun u hu => ?_
    obtain ⟨h1, h2⟩ := (e u).1 hu
    exact hpart u ((key (d j) j (Nat.le_refl _) hj ((e v).1 hva).1).2 u h2 h1) h2
  exact hab (by rw [fin a ha hva, fin b hb hvb])

/-! ### What is left, and join trees -/
def setsL (L : Lt) : List (BitVec 32) := L.map Prod.snd
theorem inR_sets (L : Lt) (v : Nat) : inR (setsL L) v ↔ inX L v := by
  unfold inR setsL inX
  constructor
  · rintro ⟨a, ha, h⟩
    obtain ⟨x, hx, rfl⟩ := List.mem_map.1 ha
    exact ⟨x, hx, h⟩
  · rintro ⟨x, hx, h⟩; exact ⟨x.2, List.mem_map.2 ⟨x, hx, rfl⟩, h⟩
theorem ed_sets (L : Lt) (i : Nat) (h : i < L.length) : ed (setsL L) i = L[i].2 := by
  rw [← ed_eq _ i (by simpa [setsL] using h)]
  simp [setsL]
theorem srt_idx {L : Lt} (h : Srt L) {i j : Nat} (hi : i < L.length) (hj : j < L.length) (e : L[i] = L[j]) : i = j := by
  have h1 := List.pairwise_iff_getElem.1 h
  rcases Nat.lt_trichotomy i j with c | c | c
  · have := h1 i j hi hj c; rw [e] at this; omega
  · exact c
  · have := h1 j i hj hi c; rw [e] at this; omega
theorem stuck_knot {E : List (BitVec 32)} {L : Lt} (i : InvE E L) (s : Stuck L 0#32) (h : 2 ≤ L.length) : Knot E (setsL L) := by
  have hlen : (setsL L).length = L.length := by simp [setsL]
  refine ⟨?_, fun a b ha hb hsub => ?_, fun v hvR => ?_, fun a ha => ?_, fun j hj => ?_⟩
  · have h1 : ¬ ∀ v, hv L[0].2 v → hv L[1].2 v := fun c => by
      have := srt_idx i.srt (by omega) (by omega) (s.anti i.srt (List.getElem_mem (by omega)) (List.getElem_mem (by omega)) c)
      omega
    apply Classical.byContradiction
    intro c
    exact h1 fun v hh => absurd ⟨v, (inR_sets L v).2 ⟨L[0], List.getElem_mem _, hh⟩⟩ c
  · rw [hlen] at ha hb
    rw [ed_sets L a ha, ed_sets L b hb] at hsub
    exact srt_idx i.srt ha hb (s.anti i.srt (List.getElem_mem ha) (List.getElem_mem hb) hsub)
  · obtain ⟨x, hx, hvx⟩ := (inR_sets L v).1 hvR
    obtain ⟨y, hy, hne, hvy⟩ := s.twice hx hvx (hv_zero v)
    obtain ⟨a, ha, rfl⟩ := List.getElem_of_mem hx
    obtain ⟨b, hb, rfl⟩ := List.getElem_of_mem hy
    refine ⟨a, b, by omega, by omega, fun e => hne (by subst e; rfl), by rw [ed_sets L a ha]; exact hvx, by rw [ed_sets L b hb]; exact hvy⟩
  · obtain ⟨x, hx, rfl⟩ := List.mem_map.1 ha
    obtain ⟨h1, h2⟩ := i.cut x hx
    exact ⟨x.1, h1, fun v => by rw [inR_sets]; exact h2 v⟩
  · obtain ⟨x, hx, hc⟩ := i.cov j hj
    obtain ⟨a, ha, rfl⟩ := List.getElem_of_mem hx
    exact ⟨a, by omega, fun v h1 h2 => by rw [ed_sets L a ha]; exact hc v h1 ((inR_sets L v).1 h2)⟩
/-- A GRAPH HAS A JOIN TREE JUST IF AT MOST ONE EDGE IS LEFT. -/
theorem left_iff {E : List (BitVec 32)} {M : Lt} {ss : List Stp} (r : Rch 0#32 (beginE E) ss M) (s : Stuck M 0#32) : M.length ≤ 1 ↔ ∃ p, JT E p := by
  constructor
  · intro h; exact ⟨_, jt_of_reach r h⟩
  · intro h
    rcases Nat.lt_or_ge 1 M.length with c | c
    · exact absurd h (knot_no_jt (stuck_knot (r.inv (inv_begin E)) s c))
    · exact c
theorem left_empty {M : Lt} (hs : Srt M) (s : Stuck M 0#32) : M.length ≤ 1 ↔ ∀ x ∈ M, x.2 = 0#32 := by
  constructor
  · intro h x hx
    rw [eq_zero_iff]
    intro v hvx
    obtain ⟨y, hy, hne, _⟩ := s.twice hx hvx (hv_zero v)
    exact hne (by rw [mem_one h hx hy])
  · intro h
    rcases Nat.lt_or_ge 1 M.length with c | c
    · have := srt_idx hs (i := 0) (j := 1) (by omega) (by omega) (s.anti hs (List.getElem_mem (by omega)) (List.getElem_mem (by omega)) fun v hh => by
        rw [h _ (List.getElem_mem _)] at hh; exact absurd hh (hv_zero v))
      omega
    · exact c
end Go.Proofs.Ytkenbmelhfhidaa
