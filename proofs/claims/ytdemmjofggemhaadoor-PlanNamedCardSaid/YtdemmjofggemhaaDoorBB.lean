/- Several texts in one: Bits EarLaw EarLaw2 JtLaw JtLaw2 JtLaw3 JtLaw4 JtLaw5 RootLaw. -/
import Derived.Test.YtdemmjofggemhaaDoorBA
/- Words of 32 bits as sets of vertices. Plain: no program in sight. -/
namespace Go.Proofs.YtdemmjofggemhaaDoor

/-- Has the set the vertex? -/
def hv (s : BitVec 32) (v : Nat) : Prop := s.getLsbD v = true
instance (s : BitVec 32) (v : Nat) : Decidable (hv s v) := inferInstanceAs (Decidable (_ = true))
theorem hv_lt {s : BitVec 32} {v : Nat} (h : hv s v) : v < 32 := by
  rcases Nat.lt_or_ge v 32 with c | c
  · exact c
  · unfold hv at h; rw [BitVec.getLsbD_of_ge _ _ c] at h; cases h
theorem hv_zero (v : Nat) : ¬ hv 0#32 v := by simp [hv]
theorem hv_and (a b : BitVec 32) (v : Nat) : hv (a &&& b) v ↔ hv a v ∧ hv b v := by simp [hv]
theorem hv_or (a b : BitVec 32) (v : Nat) : hv (a ||| b) v ↔ hv a v ∨ hv b v := by simp [hv]
theorem hv_andNot (a b : BitVec 32) (v : Nat) : hv (a &&& ~~~b) v ↔ hv a v ∧ ¬ hv b v := by
  constructor
  · intro h
    have hl := hv_lt h
    unfold hv at h ⊢
    rw [BitVec.getLsbD_and, BitVec.getLsbD_not, Bool.and_eq_true] at h
    refine ⟨h.1, fun c => ?_⟩
    rw [c] at h; simp at h
  · rintro ⟨h1, h2⟩
    have hl := hv_lt h1
    unfold hv at h1 h2 ⊢
    rw [BitVec.getLsbD_and, BitVec.getLsbD_not, h1, (Bool.not_eq_true _).mp h2, decide_eq_true hl]; rfl
theorem hv_ext {a b : BitVec 32} (h : ∀ v, hv a v ↔ hv b v) : a = b := by
  apply BitVec.eq_of_getLsbD_eq
  intro i _
  have := h i
  unfold hv at this
  rw [Bool.eq_iff_iff]; exact this
theorem ni {a b : Nat} : (a : Int) = (b : Int) ↔ a = b := Int.ofNat_inj
theorem ne_up {a b : Nat} (h : a ≠ b) : (a : Int) ≠ (b : Int) := fun e => h (ni.1 e)
theorem ne_dn {a b : Nat} (h : (a : Int) ≠ (b : Int)) : a ≠ b := fun e => h (ni.2 e)
/-- How many there are below n. -/
def cntB (p : Nat → Bool) : Nat → Nat
  | 0 => 0
  | n + 1 => cntB p n + if p n then 1 else 0
theorem cntB_congr {p q : Nat → Bool} : ∀ {n : Nat}, (∀ i, i < n → p i = q i) → cntB p n = cntB q n
  | 0, _ => rfl
  | n + 1, h => by
    unfold cntB
    rw [cntB_congr fun i hi => h i (by omega), h n (by omega)]
theorem cntB_le (p : Nat → Bool) : ∀ n, cntB p n ≤ n
  | 0 => Nat.le_refl _
  | n + 1 => by unfold cntB; have := cntB_le p n; split <;> omega

theorem cntB_true : ∀ n, cntB (fun _ => true) n = n
  | 0 => rfl
  | n + 1 => by unfold cntB; rw [cntB_true n]; rfl
theorem cntB_mono {p q : Nat → Bool} : ∀ {n : Nat}, (∀ i, i < n → p i = true → q i = true) → cntB p n ≤ cntB q n
  | 0, _ => Nat.le_refl _
  | n + 1, h => by
    unfold cntB
    have h1 := cntB_mono (p := p) (q := q) (n := n) fun i hi => h i (by omega)
    have h2 := h n (by omega)
    cases hp : p n
    · simp; omega
    · rw [h2 hp]; simp; omega
theorem cntB_strict {p q : Nat → Bool} {j : Nat} (hq : q j = true) (hp : p j = false) : ∀ {n : Nat}, (∀ i, i < n → p i = true → q i = true) → j < n → cntB p n < cntB q n
  | n + 1, h, hj => by
    unfold cntB
    by_cases e : n = j
    · subst e
      have h1 := cntB_mono (p := p) (q := q) (n := n) fun i hi => h i (by omega)
      rw [hq, hp]; simp; omega
    · have h1 := cntB_strict hq hp (n := n) (fun i hi => h i (by omega)) (by omega)
      have h2 := h n (by omega)
      cases hpn : p n
      · simp; omega
      · rw [h2 hpn]; simp; omega
theorem cntB_lt {p : Nat → Bool} {n j : Nat} (hj : j < n) (hp : p j = false) : cntB p n < n := by
  have := cntB_strict (q := fun _ => true) rfl hp (n := n) (fun _ _ _ => rfl) hj
  rwa [cntB_true] at this
theorem cntB_shift (p : Nat → Bool) : ∀ n, cntB p (n + 1) = (if p 0 then 1 else 0) + cntB (fun k => p (k + 1)) n
  | 0 => by simp [cntB]
  | n + 1 => by
    have h1 := cntB_shift p n
    have h2 : cntB p (n + 1 + 1) = cntB p (n + 1) + if p (n + 1) then 1 else 0 := rfl
    have h3 : cntB (fun k => p (k + 1)) (n + 1) = cntB (fun k => p (k + 1)) n + if p (n + 1) then 1 else 0 := rfl
    rw [h2, h3, h1, Nat.add_assoc]
end Go.Proofs.YtdemmjofggemhaaDoor

/- The plain law of removals: steps, what they leave, and that the order in which they are made does not count. No program in sight. -/
namespace Go.Proofs.YtdemmjofggemhaaDoor

/-! ### Steps -/
structure Stp where
  kind : Int
  edge : Int
  into : Int
  cut : BitVec 32
deriving DecidableEq
/-- Edges that are there, with their sets. -/
abbrev Lt := List (Nat × BitVec 32)
/-- The vertices of the other edges. -/
def othersE (L : Lt) (e : Nat) : BitVec 32 := L.foldl (fun s x => if x.1 = e then s else s ||| x.2) 0#32
theorem foldl_others (e : Nat) (v : Nat) : ∀ (L : Lt) (s : BitVec 32), hv (L.foldl (fun s x => if x.1 = e then s else s ||| x.2) s) v ↔ hv s v ∨ ∃ x ∈ L, x.1 ≠ e ∧ hv x.2 v
  | [], s => by simp
  | x :: L, s => by
    rw [List.foldl_cons, foldl_others e v L]
    by_cases h : x.1 = e
    · rw [if_pos h]
      constructor
      · rintro (a | ⟨y, hy, a, b⟩)
        · exact .inl a
        · exact .inr ⟨y, List.mem_cons_of_mem _ hy, a, b⟩
      · rintro (a | ⟨y, hy, a, b⟩)
        · exact .inl a
        · rcases List.mem_cons.1 hy with rfl | hy
          · exact absurd h a
          · exact .inr ⟨y, hy, a, b⟩
    · rw [if_neg h, hv_or]
      constructor
      · rintro ((a | a) | ⟨y, hy, a, b⟩)
        · exact .inl a
        · exact .inr ⟨x, List.mem_cons_self, h, a⟩
        · exact .inr ⟨y, List.mem_cons_of_mem _ hy, a, b⟩
      · rintro (a | ⟨y, hy, a, b⟩)
        · exact .inl (.inl a)
        · rcases List.mem_cons.1 hy with rfl | hy
          · exact .inl (.inr b)
          · exact .inr ⟨y, hy, a, b⟩
theorem hv_others (L : Lt) (e v : Nat) : hv (othersE L e) v ↔ ∃ x ∈ L, x.1 ≠ e ∧ hv x.2 v := by
  unfold othersE
  rw [foldl_others]
  simp [hv_zero]
/-- What a Trim would cut. -/
def cutE (L : Lt) (keep : BitVec 32) (x : Nat × BitVec 32) : BitVec 32 := (x.2 &&& ~~~keep) &&& ~~~(othersE L x.1)
theorem hv_cut (L : Lt) (keep : BitVec 32) (x : Nat × BitVec 32) (v : Nat) : hv (cutE L keep x) v ↔ hv x.2 v ∧ ¬ hv keep v ∧ ∀ y ∈ L, y.1 ≠ x.1 → ¬ hv y.2 v := by
  unfold cutE
  rw [hv_andNot, hv_andNot, hv_others]
  constructor
  · rintro ⟨⟨a, b⟩, c⟩; exact ⟨a, b, fun y hy h1 h2 => c ⟨y, hy, h1, h2⟩⟩
  · rintro ⟨a, b, c⟩; exact ⟨⟨a, b⟩, fun ⟨y, hy, h1, h2⟩ => c y hy h1 h2⟩
def trimOf (L : Lt) (keep : BitVec 32) (x : Nat × BitVec 32) : List Stp := if cutE L keep x = 0#32 then [] else [⟨1, x.1, 0, cutE L keep x⟩]
def sameOf (x y : Nat × BitVec 32) : List Stp := if x.1 < y.1 ∧ x.2 = y.2 then [⟨2, y.1, x.1, 0#32⟩] else []
def underOf (x y : Nat × BitVec 32) : List Stp := if x.2 ≠ y.2 ∧ subB x.2 y.2 = true then [⟨3, x.1, y.1, 0#32⟩] else []
def backOf (x y : Nat × BitVec 32) : List Stp := if y.1 < x.1 ∧ x.2 = y.2 then [⟨2, y.1, x.1, 0#32⟩] else []
/-- All steps that there are, those of the removal's order first. -/
def stepsE (L : Lt) (keep : BitVec 32) : List Stp :=
  (L.flatMap (trimOf L keep) ++ L.flatMap (fun x => L.flatMap (sameOf x))) ++ (L.flatMap (fun x => L.flatMap (underOf x)) ++ L.flatMap (fun x => L.flatMap (backOf x)))
/-- Is it a step? -/
def IsStp (L : Lt) (keep : BitVec 32) (s : Stp) : Prop :=
  (∃ x ∈ L, cutE L keep x ≠ 0#32 ∧ s = ⟨1, x.1, 0, cutE L keep x⟩) ∨
  (∃ x ∈ L, ∃ y ∈ L, x.1 ≠ y.1 ∧ x.2 = y.2 ∧ s = ⟨2, y.1, x.1, 0#32⟩) ∨
  (∃ x ∈ L, ∃ y ∈ L, x.2 ≠ y.2 ∧ subB x.2 y.2 = true ∧ s = ⟨3, x.1, y.1, 0#32⟩)
theorem mem_steps (L : Lt) (keep : BitVec 32) (s : Stp) : s ∈ stepsE L keep ↔ IsStp L keep s := by
  unfold stepsE IsStp trimOf sameOf underOf backOf
  simp only [List.mem_append, List.mem_flatMap]
  constructor
  · rintro ((⟨x, hx, h⟩ | ⟨x, hx, y, hy, h⟩) | (⟨x, hx, y, hy, h⟩ | ⟨x, hx, y, hy, h⟩))
    · split at h
      · cases h
      · exact .inl ⟨x, hx, ‹_›, List.mem_singleton.1 h⟩
    · split at h
      · next c => exact .inr (.inl ⟨x, hx, y, hy, by omega, c.2, List.mem_singleton.1 h⟩)
      · cases h
    · split at h
      · next c => exact .inr (.inr ⟨x, hx, y, hy, c.1, c.2, List.mem_singleton.1 h⟩)
      · cases h
    · split at h
      · next c => exact .inr (.inl ⟨x, hx, y, hy, by omega, c.2, List.mem_singleton.1 h⟩)
      · cases h
  · rintro (⟨x, hx, h, rfl⟩ | ⟨x, hx, y, hy, h1, h2, rfl⟩ | ⟨x, hx, y, hy, h1, h2, rfl⟩)
    · exact .inl (.inl ⟨x, hx, by rw [if_neg h]; exact List.mem_singleton.2 rfl⟩)
    · rcases Nat.lt_or_gt_of_ne h1 with c | c
      · exact .inl (.inr ⟨x, hx, y, hy, by rw [if_pos ⟨c, h2⟩]; exact List.mem_singleton.2 rfl⟩)
      · exact .inr (.inr ⟨x, hx, y, hy, by rw [if_pos ⟨c, h2⟩]; exact List.mem_singleton.2 rfl⟩)
    · exact .inr (.inl ⟨x, hx, y, hy, by rw [if_pos ⟨h1, h2⟩]; exact List.mem_singleton.2 rfl⟩)
/-- The edges that are there behind a step. -/
def makeOf (s : Stp) (x : Nat × BitVec 32) : Lt := if (x.1 : Int) = s.edge then (if s.kind = 1 then [(x.1, x.2 &&& ~~~s.cut)] else []) else [x]
def makeE (L : Lt) (s : Stp) : Lt := L.flatMap (makeOf s)
theorem mem_make {L : Lt} {s : Stp} {y : Nat × BitVec 32} : y ∈ makeE L s ↔ ∃ x ∈ L, (((x.1 : Int) = s.edge ∧ s.kind = 1 ∧ y = (x.1, x.2 &&& ~~~s.cut)) ∨ ((x.1 : Int) ≠ s.edge ∧ y = x)) := by
  unfold makeE makeOf
  rw [List.mem_flatMap]
  constructor
  · rintro ⟨x, hx, h⟩
    refine ⟨x, hx, ?_⟩
    split at h
    · split at h
      · exact .inl ⟨‹_›, ‹_›, List.mem_singleton.1 h⟩
      · cases h
    · exact .inr ⟨‹_›, List.mem_singleton.1 h⟩
  · rintro ⟨x, hx, ⟨a, b, c⟩ | ⟨a, c⟩⟩
    · exact ⟨x, hx, by rw [if_pos a, if_pos b]; exact List.mem_singleton.2 c⟩
    · exact ⟨x, hx, by rw [if_neg a]; exact List.mem_singleton.2 c⟩
/-- The edges' numbers rise. -/
def Srt (L : Lt) : Prop := L.Pairwise fun a b => a.1 < b.1
theorem Srt.uniq : ∀ {L : Lt}, Srt L → ∀ {x y : Nat × BitVec 32}, x ∈ L → y ∈ L → x.1 = y.1 → x = y
  | [], _, x, _, hx, _, _ => by cases hx
  | a :: L, h, x, y, hx, hy, e => by
    have h1 := List.pairwise_cons.1 h
    rcases List.mem_cons.1 hx with rfl | hx <;> rcases List.mem_cons.1 hy with rfl | hy
    · rfl
    · have := h1.1 y ‹_›; omega
    · have := h1.1 x ‹_›; omega
    · exact Srt.uniq h1.2 hx hy e
theorem make_key {L : Lt} {s : Stp} {y : Nat × BitVec 32} (h : y ∈ makeE L s) : ∃ x ∈ L, x.1 = y.1 := by
  obtain ⟨x, hx, ⟨_, _, rfl⟩ | ⟨_, rfl⟩⟩ := mem_make.1 h
  · exact ⟨x, hx, rfl⟩
  · exact ⟨_, hx, rfl⟩
theorem makeE_cons (a : Nat × BitVec 32) (L : Lt) (s : Stp) : makeE (a :: L) s = makeOf s a ++ makeE L s := by simp [makeE]
theorem makeOf_key {s : Stp} {a y : Nat × BitVec 32} (h : y ∈ makeOf s a) : y.1 = a.1 := by
  unfold makeOf at h
  split at h
  · split at h
    · rw [List.mem_singleton.1 h]
    · cases h
  · rw [List.mem_singleton.1 h]
theorem Srt.make : ∀ {L : Lt} {s : Stp}, Srt L → Srt (makeE L s)
  | [], _, _ => List.Pairwise.nil
  | a :: L, s, h => by
    have h1 := List.pairwise_cons.1 h
    rw [makeE_cons]
    refine List.pairwise_append.2 ⟨?_, Srt.make h1.2, fun x hx y hy => ?_⟩
    · unfold makeOf
      split
      · split
        · exact List.pairwise_singleton _ _
        · exact List.Pairwise.nil
      · exact List.pairwise_singleton _ _
    · obtain ⟨z, hz, e⟩ := make_key hy
      rw [makeOf_key hx, ← e]
      exact h1.1 z hz

/-! ### What stays true -/
/-- Is the vertex still there? -/
def inX (L : Lt) (v : Nat) : Prop := ∃ y ∈ L, hv y.2 v
structure InvE (E : List (BitVec 32)) (L : Lt) : Prop where
  srt : Srt L
  cut : ∀ x, x ∈ L → x.1 < E.length ∧ ∀ v, hv x.2 v ↔ hv (ed E x.1) v ∧ inX L v
  cov : ∀ j, j < E.length → ∃ x, x ∈ L ∧ ∀ v, hv (ed E j) v → inX L v → hv x.2 v
def beginE (E : List (BitVec 32)) : Lt := (List.range E.length).map fun i => (i, ed E i)
theorem mem_begin {E : List (BitVec 32)} {x : Nat × BitVec 32} : x ∈ beginE E ↔ x.1 < E.length ∧ x.2 = ed E x.1 := by
  unfold beginE
  rw [List.mem_map]
  constructor
  · rintro ⟨i, hi, rfl⟩; exact ⟨List.mem_range.1 hi, rfl⟩
  · rintro ⟨h1, h2⟩; exact ⟨x.1, List.mem_range.2 h1, by rw [← h2]⟩
theorem srt_begin (E : List (BitVec 32)) : Srt (beginE E) := by
  unfold Srt beginE
  rw [List.pairwise_map]
  exact List.pairwise_lt_range
theorem inv_begin (E : List (BitVec 32)) : InvE E (beginE E) := by
  refine ⟨srt_begin E, fun x hx => ?_, fun j hj => ⟨(j, ed E j), mem_begin.2 ⟨hj, rfl⟩, fun v h _ => h⟩⟩
  obtain ⟨h1, h2⟩ := mem_begin.1 hx
  refine ⟨h1, fun v => ⟨fun h => ⟨by rw [← h2]; exact h, x, hx, h⟩, fun h => by rw [h2]; exact h.1⟩⟩
/-- What a Trim does: of L only x has the cut's vertices. -/
theorem trim_inX {L : Lt} {keep : BitVec 32} {x : Nat × BitVec 32} (hs : Srt L) (hx : x ∈ L) (v : Nat) :
    inX (makeE L ⟨1, x.1, 0, cutE L keep x⟩) v ↔ inX L v ∧ ¬ hv (cutE L keep x) v := by
  constructor
  · rintro ⟨y, hy, hvy⟩
    obtain ⟨z, hz, ⟨e, _, rfl⟩ | ⟨e, rfl⟩⟩ := mem_make.1 hy
    · have hzx : z = x := hs.uniq hz hx (by first | exact ni.1 e | exact ne_up e | exact ne_dn e)
      subst hzx
      rw [hv_andNot] at hvy
      exact ⟨⟨z, hz, hvy.1⟩, hvy.2⟩
    · refine ⟨⟨_, hz, hvy⟩, fun hc => ?_⟩
      exact ((hv_cut L keep x v).1 hc).2.2 y hz (by first | exact ni.1 e | exact ne_up e | exact ne_dn e) hvy
  · rintro ⟨⟨y, hy, hvy⟩, hc⟩
    by_cases e : y.1 = x.1
    · have hyx : y = x := hs.uniq hy hx e
      subst hyx
      exact ⟨_, mem_make.2 ⟨y, hy, .inl ⟨rfl, rfl, rfl⟩⟩, by rw [hv_andNot]; exact ⟨hvy, hc⟩⟩
    · exact ⟨y, mem_make.2 ⟨y, hy, .inr ⟨by first | exact ni.1 e | exact ne_up e | exact ne_dn e, rfl⟩⟩, hvy⟩
/-- What taking an edge away does that is part of another one. -/
theorem gone_inX {L : Lt} {k : Int} {x y : Nat × BitVec 32} (hs : Srt L) (hk : k ≠ 1) (hx : x ∈ L) (hy : y ∈ L) (hne : x.1 ≠ y.1) (hsub : ∀ v, hv x.2 v → hv y.2 v) (v : Nat) :
    inX (makeE L ⟨k, x.1, y.1, 0#32⟩) v ↔ inX L v := by
  constructor
  · rintro ⟨z, hz, h⟩
    obtain ⟨u, hu, ⟨_, e, _⟩ | ⟨_, rfl⟩⟩ := mem_make.1 hz
    · exact absurd e hk
    · exact ⟨_, hu, h⟩
  · rintro ⟨z, hz, h⟩
    by_cases e : z.1 = x.1
    · have := hs.uniq hz hx e
      subst this
      exact ⟨y, mem_make.2 ⟨y, hy, .inr ⟨by first | exact ni.1 (Ne.symm hne) | exact ne_up (Ne.symm hne) | exact ne_dn (Ne.symm hne), rfl⟩⟩, hsub v h⟩
    · exact ⟨z, mem_make.2 ⟨z, hz, .inr ⟨by first | exact ni.1 e | exact ne_up e | exact ne_dn e, rfl⟩⟩, h⟩
theorem subB_iff (a b : BitVec 32) : subB a b = true ↔ ∀ v, hv a v → hv b v := by
  unfold subB
  rw [beq_iff_eq]
  constructor
  · intro h v ha
    apply Classical.byContradiction
    intro hb
    have : hv (a &&& ~~~b) v := (hv_andNot _ _ _).2 ⟨ha, hb⟩
    rw [h] at this
    exact hv_zero v this
  · intro h
    apply hv_ext
    intro v
    rw [hv_andNot]
    exact ⟨fun ⟨x, y⟩ => absurd (h v x) y, fun x => absurd x (hv_zero v)⟩
theorem eq_zero_iff (a : BitVec 32) : a = 0#32 ↔ ∀ v, ¬ hv a v := by
  constructor
  · rintro rfl v; exact hv_zero v
  · intro h; apply hv_ext; intro v; exact ⟨fun x => absurd x (h v), fun x => absurd x (hv_zero v)⟩
theorem ne_zero_iff (a : BitVec 32) : a ≠ 0#32 ↔ ∃ v, hv a v := by
  rw [Ne, eq_zero_iff]
  constructor
  · intro h; exact Classical.byContradiction fun c => h fun v hh => c ⟨v, hh⟩
  · rintro ⟨v, h⟩ c; exact c v h
/-- A step that takes an edge away: which, and into which. -/
theorem IsStp.cases {L : Lt} {keep : BitVec 32} {s : Stp} (hs : Srt L) (h : IsStp L keep s) :
    (∃ x ∈ L, cutE L keep x ≠ 0#32 ∧ s = ⟨1, x.1, 0, cutE L keep x⟩) ∨
    (∃ x ∈ L, ∃ y ∈ L, ∃ k : Int, x.1 ≠ y.1 ∧ k ≠ 1 ∧ (∀ v, hv x.2 v → hv y.2 v) ∧ s = ⟨k, x.1, y.1, 0#32⟩) := by
  rcases h with h | ⟨x, hx, y, hy, h1, h2, rfl⟩ | ⟨x, hx, y, hy, h1, h2, rfl⟩
  · exact .inl h
  · exact .inr ⟨y, hy, x, hx, 2, Ne.symm h1, by omega, fun v hh => by rw [h2]; exact hh, rfl⟩
  · exact .inr ⟨x, hx, y, hy, 3, fun e => h1 (by rw [hs.uniq hx hy e]), by omega, (subB_iff _ _).1 h2, rfl⟩
theorem InvE.step {E : List (BitVec 32)} {L : Lt} {keep : BitVec 32} {s : Stp} (h : InvE E L) (hs : IsStp L keep s) : InvE E (makeE L s) := by
  rcases hs.cases h.srt with ⟨x, hx, hc, rfl⟩ | ⟨x, hx, y, hy, k, hne, hk, hsub, rfl⟩
  · have hX := fun v => trim_inX (keep := keep) h.srt hx v
    refine ⟨h.srt.make, fun z hz => ?_, fun j hj => ?_⟩
    · obtain ⟨u, hu, ⟨e, _, rfl⟩ | ⟨e, rfl⟩⟩ := mem_make.1 hz
      · have hux : u = x := h.srt.uniq hu hx (by first | exact ni.1 e | exact ne_up e | exact ne_dn e)
        subst hux
        refine ⟨(h.cut u hu).1, fun v => ?_⟩
        rw [hv_andNot, hX v, (h.cut u hu).2 v]
        exact and_assoc
      · refine ⟨(h.cut z hu).1, fun v => ?_⟩
        rw [hX v, (h.cut z hu).2 v]
        constructor
        · rintro ⟨a, b⟩
          refine ⟨a, b, fun c => ?_⟩
          exact ((hv_cut L keep x v).1 c).2.2 z hu (by first | exact ni.1 e | exact ne_up e | exact ne_dn e) (((h.cut z hu).2 v).2 ⟨a, b⟩)
        · rintro ⟨a, b, _⟩; exact ⟨a, b⟩
    · obtain ⟨u, hu, hcov⟩ := h.cov j hj
      by_cases e : u.1 = x.1
      · have hux : u = x := h.srt.uniq hu hx e
        subst hux
        refine ⟨_, mem_make.2 ⟨u, hu, .inl ⟨rfl, rfl, rfl⟩⟩, fun v h1 h2 => ?_⟩
        obtain ⟨h3, h4⟩ := (hX v).1 h2
        rw [hv_andNot]
        exact ⟨hcov v h1 h3, h4⟩
      · exact ⟨u, mem_make.2 ⟨u, hu, .inr ⟨by first | exact ni.1 e | exact ne_up e | exact ne_dn e, rfl⟩⟩, fun v h1 h2 => hcov v h1 ((hX v).1 h2).1⟩
  · have hX := fun v => gone_inX (k := k) h.srt hk hx hy hne hsub v
    refine ⟨h.srt.make, fun z hz => ?_, fun j hj => ?_⟩
    · obtain ⟨u, hu, ⟨_, e, _⟩ | ⟨e, rfl⟩⟩ := mem_make.1 hz
      · exact absurd e hk
      · refine ⟨(h.cut z hu).1, fun v => ?_⟩
        rw [hX v]; exact (h.cut z hu).2 v
    · obtain ⟨u, hu, hcov⟩ := h.cov j hj
      by_cases e : u.1 = x.1
      · have hux : u = x := h.srt.uniq hu hx e
        subst hux
        exact ⟨y, mem_make.2 ⟨y, hy, .inr ⟨by first | exact ni.1 (Ne.symm hne) | exact ne_up (Ne.symm hne) | exact ne_dn (Ne.symm hne), rfl⟩⟩, fun v h1 h2 => hsub v (hcov v h1 ((hX v).1 h2))⟩
      · exact ⟨u, mem_make.2 ⟨u, hu, .inr ⟨by first | exact ni.1 e | exact ne_up e | exact ne_dn e, rfl⟩⟩, fun v h1 h2 => hcov v h1 ((hX v).1 h2)⟩

/-! ### Where no step is left -/
def Stuck (L : Lt) (keep : BitVec 32) : Prop := ∀ s, ¬ IsStp L keep s
theorem Stuck.anti {L : Lt} {keep : BitVec 32} (h : Stuck L keep) (hs : Srt L) {x y : Nat × BitVec 32} (hx : x ∈ L) (hy : y ∈ L) (hsub : ∀ v, hv x.2 v → hv y.2 v) : x = y := by
  apply Classical.byContradiction
  intro hne
  have hne1 : x.1 ≠ y.1 := fun e => hne (hs.uniq hx hy e)
  by_cases e : x.2 = y.2
  · exact h _ (.inr (.inl ⟨x, hx, y, hy, hne1, e, rfl⟩))
  · exact h _ (.inr (.inr ⟨x, hx, y, hy, e, (subB_iff _ _).2 hsub, rfl⟩))
theorem Stuck.twice {L : Lt} {keep : BitVec 32} (h : Stuck L keep) {x : Nat × BitVec 32} (hx : x ∈ L) {v : Nat} (hvx : hv x.2 v) (hk : ¬ hv keep v) : ∃ y ∈ L, y.1 ≠ x.1 ∧ hv y.2 v := by
  apply Classical.byContradiction
  intro hc
  refine h _ (.inl ⟨x, hx, (ne_zero_iff _).2 ⟨v, (hv_cut _ _ _ _).2 ⟨hvx, hk, fun y hy a b => hc ⟨y, hy, a, b⟩⟩⟩, rfl⟩)
/-- A vertex that stays where no step is left is cut by no step elsewhere. -/
theorem stay_step {E : List (BitVec 32)} {L M : Lt} {keep : BitVec 32} {s : Stp} (h1 : InvE E L) (hst : Stuck L keep) (h2 : InvE E M) (hs : IsStp M keep s) (hX : ∀ v, inX L v → inX M v) : ∀ v, inX L v → inX (makeE M s) v := by
  intro v hvL
  rcases hs.cases h2.srt with ⟨x, hx, hc, rfl⟩ | ⟨x, hx, y, hy, k, hne, hk, hsub, rfl⟩
  · rw [trim_inX h2.srt hx]
    refine ⟨hX v hvL, fun hcut => ?_⟩
    obtain ⟨c1, c2, c3⟩ := (hv_cut _ _ _ _).1 hcut
    obtain ⟨a, ha, hva⟩ := hvL
    obtain ⟨b, hb, hba, hvb⟩ := hst.twice ha hva c2
    have key : ∀ z, z ∈ L → hv z.2 v → ∀ u, hv z.2 u → hv (ed E x.1) u := by
      intro z hz hvz u hu
      obtain ⟨e1, e2⟩ := h1.cut z hz
      obtain ⟨k, hk, hcov⟩ := h2.cov z.1 e1
      have hkx : k = x := by
        apply Classical.byContradiction
        intro hne
        exact c3 k hk (fun e => hne (h2.srt.uniq hk hx e)) (hcov v ((e2 v).1 hvz).1 (hX v ⟨z, hz, hvz⟩))
      subst hkx
      exact (((h2.cut k hk).2 u).1 (hcov u ((e2 u).1 hu).1 (hX u ⟨z, hz, hu⟩))).1
    obtain ⟨m, hm, hmc⟩ := h1.cov x.1 (h2.cut x hx).1
    have am : a = m := hst.anti h1.srt ha hm fun u hu => hmc u (key a ha hva u hu) ⟨a, ha, hu⟩
    have bm : b = m := hst.anti h1.srt hb hm fun u hu => hmc u (key b hb hvb u hu) ⟨b, hb, hu⟩
    exact hba (by rw [bm, am])
  · rw [gone_inX h2.srt hk hx hy hne hsub]
    exact hX v hvL
/-- Steps that can be made one behind the other. -/
inductive Rch (keep : BitVec 32) : Lt → List Stp → Lt → Prop
  | nil (L : Lt) : Rch keep L [] L
  | cons {L M : Lt} {s : Stp} {ss : List Stp} (h : IsStp L keep s) (r : Rch keep (makeE L s) ss M) : Rch keep L (s :: ss) M
theorem Rch.inv {keep : BitVec 32} {E : List (BitVec 32)} {L M : Lt} {ss : List Stp} (r : Rch keep L ss M) (h : InvE E L) : InvE E M := by
  induction r with
  | nil => exact h
  | cons hs _ ih => exact ih (h.step hs)
theorem Rch.srt {keep : BitVec 32} {L M : Lt} {ss : List Stp} (r : Rch keep L ss M) (h : Srt L) : Srt M := by
  induction r with
  | nil => exact h
  | cons hs _ ih => exact ih h.make
theorem Rch.stay {keep : BitVec 32} {E : List (BitVec 32)} {L M N : Lt} {ss : List Stp} (r : Rch keep M ss N) (h1 : InvE E L) (hst : Stuck L keep) (h2 : InvE E M) (hX : ∀ v, inX L v → inX M v) : ∀ v, inX L v → inX N v := by
  induction r with
  | nil => exact hX
  | cons hs _ ih => exact ih (h2.step hs) (stay_step h1 hst h2 hs hX)
end Go.Proofs.YtdemmjofggemhaaDoor

/- The plain law of removals as the program makes them: seven sets, which are there; the next step; the run. No program in sight. -/
namespace Go.Proofs.YtdemmjofggemhaaDoor

def updS (S : Nat → BitVec 32) (k : Nat) (x : BitVec 32) : Nat → BitVec 32 := fun i => if i = k then x else S i
def updT (T : Nat → Bool) (k : Nat) (b : Bool) : Nat → Bool := fun i => if i = k then b else T i
/-- The kind of step that takes i into j. -/
def kindZ (S : Nat → BitVec 32) (T : Nat → Bool) (i j : Nat) : Int :=
  if i = j ∨ T i = false ∨ T j = false then 0 else if S i = S j then 2 else if subB (S i) (S j) = true then 3 else 0
/-- What a Trim would cut, as far as k. -/
def loneTo (S : Nat → BitVec 32) (T : Nat → Bool) (keep : BitVec 32) (i : Nat) : Nat → BitVec 32
  | 0 => S i &&& ~~~keep
  | k + 1 => if k ≠ i ∧ T k = true then loneTo S T keep i k &&& ~~~S k else loneTo S T keep i k
theorem loneTo_t {S : Nat → BitVec 32} {T : Nat → Bool} {keep : BitVec 32} {i k : Nat} (h1 : k ≠ i) (h2 : T k = true) : loneTo S T keep i (k + 1) = loneTo S T keep i k &&& ~~~S k := by
  show (if _ then _ else _) = _; rw [if_pos ⟨h1, h2⟩]
theorem loneTo_f {S : Nat → BitVec 32} {T : Nat → Bool} {keep : BitVec 32} {i k : Nat} (h : ¬ (k ≠ i ∧ T k = true)) : loneTo S T keep i (k + 1) = loneTo S T keep i k := by
  show (if _ then _ else _) = _; rw [if_neg h]
theorem hv_lone (S : Nat → BitVec 32) (T : Nat → Bool) (keep : BitVec 32) (i v : Nat) : ∀ k, hv (loneTo S T keep i k) v ↔ hv (S i) v ∧ ¬ hv keep v ∧ ∀ j, j < k → j ≠ i → T j = true → ¬ hv (S j) v
  | 0 => by
    unfold loneTo
    rw [hv_andNot]
    exact ⟨fun ⟨a, b⟩ => ⟨a, b, fun j hj => by omega⟩, fun ⟨a, b, _⟩ => ⟨a, b⟩⟩
  | k + 1 => by
    have ih := hv_lone S T keep i v k
    by_cases c : k ≠ i ∧ T k = true
    · rw [loneTo_t c.1 c.2, hv_andNot, ih]
      constructor
      · rintro ⟨⟨a, b, d⟩, e⟩
        refine ⟨a, b, fun j hj => ?_⟩
        rcases Nat.lt_or_ge j k with x | x
        · exact d j x
        · obtain rfl : j = k := by omega
          exact fun _ _ => e
      · rintro ⟨a, b, d⟩
        exact ⟨⟨a, b, fun j hj => d j (by omega)⟩, d k (by omega) c.1 c.2⟩
    · rw [loneTo_f c, ih]
      constructor
      · rintro ⟨a, b, d⟩
        refine ⟨a, b, fun j hj h1 h2 => ?_⟩
        rcases Nat.lt_or_ge j k with x | x
        · exact d j x h1 h2
        · obtain rfl : j = k := by omega
          exact absurd ⟨h1, h2⟩ c
      · rintro ⟨a, b, d⟩
        exact ⟨a, b, fun j hj => d j (by omega)⟩

/-- The edges that are there. -/
def leftOf (S : Nat → BitVec 32) (T : Nat → Bool) (i : Nat) : Lt := if T i = true then [(i, S i)] else []
def lefts (S : Nat → BitVec 32) (T : Nat → Bool) (n : Nat) : Lt := (List.range n).flatMap (leftOf S T)
theorem lefts_succ (S : Nat → BitVec 32) (T : Nat → Bool) (n : Nat) : lefts S T (n + 1) = lefts S T n ++ leftOf S T n := by
  unfold lefts; rw [List.range_succ, List.flatMap_append]; simp
theorem mem_lefts {S : Nat → BitVec 32} {T : Nat → Bool} {n : Nat} {x : Nat × BitVec 32} : x ∈ lefts S T n ↔ x.1 < n ∧ T x.1 = true ∧ x.2 = S x.1 := by
  unfold lefts leftOf
  rw [List.mem_flatMap]
  constructor
  · rintro ⟨i, hi, h⟩
    split at h
    · rw [List.mem_singleton.1 h]; exact ⟨List.mem_range.1 hi, ‹_›, rfl⟩
    · cases h
  · rintro ⟨h1, h2, h3⟩
    exact ⟨x.1, List.mem_range.2 h1, by rw [if_pos h2, ← h3]; exact List.mem_singleton.2 rfl⟩
theorem flatMap_lefts {α : Type} (S : Nat → BitVec 32) (T : Nat → Bool) (n : Nat) (f : Nat × BitVec 32 → List α) : (lefts S T n).flatMap f = (List.range n).flatMap fun i => if T i = true then f (i, S i) else [] := by
  unfold lefts
  rw [List.flatMap_assoc]
  congr 1
  funext i
  unfold leftOf
  split <;> simp
theorem lone_cut {S : Nat → BitVec 32} {T : Nat → Bool} {n i : Nat} (keep : BitVec 32) : loneTo S T keep i n = cutE (lefts S T n) keep (i, S i) := hv_ext fun v => by
  rw [hv_lone, hv_cut]
  constructor
  · rintro ⟨a, b, c⟩
    refine ⟨a, b, fun y hy h1 h2 => ?_⟩
    obtain ⟨e1, e2, e3⟩ := mem_lefts.1 hy
    exact c y.1 e1 h1 e2 (by rw [← e3]; exact h2)
  · rintro ⟨a, b, c⟩
    exact ⟨a, b, fun j hj h1 h2 => c (j, S j) (mem_lefts.2 ⟨hj, h2, rfl⟩) h1⟩

/-! ### The first step -/
theorem range_nil {α : Type} {f : Nat → List α} : ∀ {n : Nat}, (∀ i, i < n → f i = []) → (List.range n).flatMap f = []
  | 0, _ => rfl
  | n + 1, h => by rw [List.range_succ, List.flatMap_append, range_nil fun i hi => h i (by omega)]; simp [h n]
theorem range_head {α : Type} {f : Nat → List α} {k : Nat} {x : α} {r : List α} (h : ∀ i, i < k → f i = []) (e : f k = x :: r) : ∀ {n : Nat}, k < n → ∃ r', (List.range n).flatMap f = x :: r'
  | n + 1, hk => by
    rw [List.range_succ, List.flatMap_append]
    rcases Nat.lt_or_ge k n with c | c
    · obtain ⟨r', hr⟩ := range_head h e c
      exact ⟨_, by rw [hr]; rfl⟩
    · obtain rfl : k = n := by omega
      rw [range_nil h]
      exact ⟨r, by simp [e]⟩
section
variable {S : Nat → BitVec 32} {T : Nat → Bool} {n : Nat} {keep : BitVec 32}
/-- The next step; none if there is none. -/
def nextS (S : Nat → BitVec 32) (T : Nat → Bool) (n : Nat) (keep : BitVec 32) : Option Stp := (stepsE (lefts S T n) keep).head?
def noTrim (S : Nat → BitVec 32) (T : Nat → Bool) (n : Nat) (keep : BitVec 32) (k : Nat) : Prop := ∀ i, i < k → T i = true → loneTo S T keep i n = 0#32
def noSame (S : Nat → BitVec 32) (T : Nat → Bool) (n a : Nat) : Prop := ∀ i, a < i → i < n → kindZ S T i a ≠ 2
def noUnder (S : Nat → BitVec 32) (T : Nat → Bool) (n i : Nat) : Prop := ∀ j, j < n → kindZ S T i j ≠ 3
theorem kind_two {i j : Nat} (h1 : i ≠ j) (h2 : T i = true) (h3 : T j = true) (h4 : S i = S j) : kindZ S T i j = 2 := by
  unfold kindZ; rw [if_neg (by simp [h1, h2, h3]), if_pos h4]
theorem kind_three {i j : Nat} (h1 : i ≠ j) (h2 : T i = true) (h3 : T j = true) (h4 : S i ≠ S j) (h5 : subB (S i) (S j) = true) : kindZ S T i j = 3 := by
  unfold kindZ; rw [if_neg (by simp [h1, h2, h3]), if_neg h4, if_pos h5]
theorem kind_ne {i j : Nat} (h : kindZ S T i j ≠ 0) : i ≠ j ∧ T i = true ∧ T j = true := by
  unfold kindZ at h
  split at h
  · exact absurd rfl h
  · next c =>
    refine ⟨fun e => c (.inl e), ?_, ?_⟩
    · cases hT : T i
      · exact absurd (.inr (.inl hT)) c
      · rfl
    · cases hT : T j
      · exact absurd (.inr (.inr hT)) c
      · rfl
theorem kind_is2 {i j : Nat} (h : kindZ S T i j = 2) : i ≠ j ∧ T i = true ∧ T j = true ∧ S i = S j := by
  obtain ⟨a, b, c⟩ := kind_ne (S := S) (T := T) (i := i) (j := j) (by omega)
  refine ⟨a, b, c, ?_⟩
  unfold kindZ at h
  rw [if_neg (by simp [a, b, c])] at h
  split at h
  · assumption
  · split at h <;> omega
theorem kind_is3 {i j : Nat} (h : kindZ S T i j = 3) : i ≠ j ∧ T i = true ∧ T j = true ∧ S i ≠ S j ∧ subB (S i) (S j) = true := by
  obtain ⟨a, b, c⟩ := kind_ne (S := S) (T := T) (i := i) (j := j) (by omega)
  refine ⟨a, b, c, ?_⟩
  unfold kindZ at h
  rw [if_neg (by simp [a, b, c])] at h
  split at h
  · omega
  · next d =>
    split at h
    · exact ⟨d, ‹_›⟩
    · omega
theorem steps_eq : stepsE (lefts S T n) keep =
    ((List.range n).flatMap (fun i => if T i = true then trimOf (lefts S T n) keep (i, S i) else []) ++
     (List.range n).flatMap (fun a => if T a = true then (List.range n).flatMap (fun i => if T i = true then sameOf (a, S a) (i, S i) else []) else [])) ++
    ((List.range n).flatMap (fun i => if T i = true then (List.range n).flatMap (fun j => if T j = true then underOf (i, S i) (j, S j) else []) else []) ++
     (List.range n).flatMap (fun i => if T i = true then (List.range n).flatMap (fun j => if T j = true then backOf (i, S i) (j, S j) else []) else [])) := by
  unfold stepsE
  rw [flatMap_lefts, flatMap_lefts, flatMap_lefts, flatMap_lefts]
  simp only [flatMap_lefts]
theorem trims_nil {k : Nat} (h : noTrim S T n keep k) : ∀ i, i < k → (if T i = true then trimOf (lefts S T n) keep (i, S i) else []) = [] := by
  intro i hi
  split
  · next c => unfold trimOf; rw [if_pos]; rw [← lone_cut]; exact h i hi c
  · rfl
theorem sames_nil {a m : Nat} (h : ∀ i, a < i → i < m → kindZ S T i a ≠ 2) (ha : T a = true) : ∀ i, i < m → (if T i = true then sameOf (a, S a) (i, S i) else []) = [] := by
  intro i hi
  split
  · next c =>
    unfold sameOf
    rw [if_neg]
    rintro ⟨h1, h2⟩
    exact h i h1 hi (kind_two (by have : a < i := h1; omega) c ha (Eq.symm h2))
  · rfl
theorem unders_nil {i m : Nat} (h : ∀ j, j < m → kindZ S T i j ≠ 3) (hi : T i = true) : ∀ j, j < m → (if T j = true then underOf (i, S i) (j, S j) else []) = [] := by
  intro j hj
  split
  · next c =>
    unfold underOf
    rw [if_neg]
    rintro ⟨h1, h2⟩
    exact h j hj (kind_three (fun e => h1 (by rw [e])) hi c h1 h2)
  · rfl
theorem same_rows {a : Nat} (h : ∀ b, b < a → noSame S T n b) : ∀ b, b < a → (if T b = true then (List.range n).flatMap (fun i => if T i = true then sameOf (b, S b) (i, S i) else []) else []) = [] := by
  intro b hb
  split
  · next c => exact range_nil (sames_nil (h b hb) c)
  · rfl
theorem under_rows {a : Nat} (h : ∀ b, b < a → noUnder S T n b) : ∀ b, b < a → (if T b = true then (List.range n).flatMap (fun j => if T j = true then underOf (b, S b) (j, S j) else []) else []) = [] := by
  intro b hb
  split
  · next c => exact range_nil (unders_nil (h b hb) c)
  · rfl
theorem next_trim {k : Nat} (h : noTrim S T n keep k) (hk : k < n) (hT : T k = true) (hc : loneTo S T keep k n ≠ 0#32) : nextS S T n keep = some ⟨1, k, 0, loneTo S T keep k n⟩ := by
  unfold nextS
  rw [steps_eq]
  obtain ⟨r, e⟩ := range_head (trims_nil h) (x := (⟨1, k, 0, loneTo S T keep k n⟩ : Stp)) (r := []) (by rw [if_pos hT]; unfold trimOf; rw [← lone_cut, if_neg hc]) hk
  rw [e]; rfl
theorem next_same {a i : Nat} (h1 : noTrim S T n keep n) (h2 : ∀ b, b < a → noSame S T n b) (h3 : ∀ m, a < m → m < i → kindZ S T m a ≠ 2) (hai : a < i) (hi : i < n) (hk : kindZ S T i a = 2) : nextS S T n keep = some ⟨2, i, a, 0#32⟩ := by
  obtain ⟨k1, k2, k3, k4⟩ := kind_is2 hk
  unfold nextS
  rw [steps_eq, range_nil (trims_nil h1)]
  obtain ⟨r, e⟩ := range_head (f := fun i => if T i = true then sameOf (a, S a) (i, S i) else []) (sames_nil h3 k3) (x := (⟨2, i, a, 0#32⟩ : Stp)) (r := []) (by
    show (if T i = true then sameOf (a, S a) (i, S i) else []) = _
    rw [if_pos k2]; unfold sameOf; rw [if_pos ⟨hai, k4.symm⟩]) hi
  obtain ⟨r', e'⟩ := range_head (same_rows h2) (x := (⟨2, i, a, 0#32⟩ : Stp)) (r := r) (by rw [if_pos k3]; exact e) (by omega : a < n)
  rw [e']; rfl
theorem next_under {i j : Nat} (h1 : noTrim S T n keep n) (h2 : ∀ b, b < n → noSame S T n b) (h3 : ∀ b, b < i → noUnder S T n b) (h4 : ∀ m, m < j → kindZ S T i m ≠ 3) (hi : i < n) (hj : j < n) (hk : kindZ S T i j = 3) : nextS S T n keep = some ⟨3, i, j, 0#32⟩ := by
  obtain ⟨k1, k2, k3, k4, k5⟩ := kind_is3 hk
  unfold nextS
  rw [steps_eq, range_nil (trims_nil h1), range_nil (same_rows h2)]
  obtain ⟨r, e⟩ := range_head (f := fun j => if T j = true then underOf (i, S i) (j, S j) else []) (unders_nil h4 k2) (x := (⟨3, i, j, 0#32⟩ : Stp)) (r := []) (by
    show (if T j = true then underOf (i, S i) (j, S j) else []) = _
    rw [if_pos k3]; unfold underOf; rw [if_pos ⟨k4, k5⟩]) hj
  obtain ⟨r', e'⟩ := range_head (under_rows h3) (x := (⟨3, i, j, 0#32⟩ : Stp)) (r := r) (by rw [if_pos k2]; exact e) hi
  rw [e']; rfl
theorem next_none (h1 : noTrim S T n keep n) (h2 : ∀ b, b < n → noSame S T n b) (h3 : ∀ b, b < n → noUnder S T n b) : nextS S T n keep = none := by
  unfold nextS
  rw [steps_eq, range_nil (trims_nil h1), range_nil (same_rows h2), range_nil (under_rows h3), range_nil]
  · rfl
  · intro i hi
    split
    · next c =>
      refine range_nil fun j hj => ?_
      split
      · next d =>
        unfold backOf
        rw [if_neg]
        rintro ⟨e1, e2⟩
        exact h2 j hj i e1 hi (kind_two (by have : j < i := e1; omega) c d e2)
      · rfl
    · rfl

/-! ### Is it a step, and what it makes -/
theorem isStp_lefts (s : Stp) : s ∈ stepsE (lefts S T n) keep ↔
    (∃ i, i < n ∧ T i = true ∧ loneTo S T keep i n ≠ 0#32 ∧ s = ⟨1, i, 0, loneTo S T keep i n⟩) ∨ ∃ i j, i < n ∧ j < n ∧ kindZ S T i j ≠ 0 ∧ s = ⟨kindZ S T i j, i, j, 0#32⟩ := by
  rw [mem_steps]
  unfold IsStp
  constructor
  · rintro (⟨x, hx, h1, rfl⟩ | ⟨x, hx, y, hy, h1, h2, rfl⟩ | ⟨x, hx, y, hy, h1, h2, rfl⟩)
    · obtain ⟨a, b, c⟩ := mem_lefts.1 hx
      have e : cutE (lefts S T n) keep x = loneTo S T keep x.1 n := by rw [lone_cut, ← c]
      exact .inl ⟨x.1, a, b, by rw [← e]; exact h1, by rw [e]⟩
    · obtain ⟨a, b, c⟩ := mem_lefts.1 hx
      obtain ⟨a', b', c'⟩ := mem_lefts.1 hy
      have e := kind_two (S := S) (T := T) (Ne.symm h1) b' b (by rw [← c, ← c', h2])
      exact .inr ⟨y.1, x.1, a', a, by omega, by rw [e]⟩
    · obtain ⟨a, b, c⟩ := mem_lefts.1 hx
      obtain ⟨a', b', c'⟩ := mem_lefts.1 hy
      have e := kind_three (S := S) (T := T) (i := x.1) (j := y.1) (fun e => h1 (by rw [c, c', e])) b b' (by rw [← c, ← c']; exact h1) (by rw [← c, ← c']; exact h2)
      exact .inr ⟨x.1, y.1, a, a', by omega, by rw [e]⟩
  · rintro (⟨i, h1, h2, h3, rfl⟩ | ⟨i, j, h1, h2, h3, rfl⟩)
    · rw [lone_cut] at h3 ⊢
      exact .inl ⟨(i, S i), mem_lefts.2 ⟨h1, h2, rfl⟩, h3, rfl⟩
    · obtain ⟨a, b, c⟩ := kind_ne h3
      have hk : kindZ S T i j = 2 ∨ kindZ S T i j = 3 := by
        unfold kindZ at h3 ⊢
        split
        · next d => rw [if_pos d] at h3; exact absurd rfl h3
        · next d =>
          rw [if_neg d] at h3
          split
          · exact .inl rfl
          · next f =>
            rw [if_neg f] at h3
            split
            · exact .inr rfl
            · next g => rw [if_neg g] at h3; exact absurd rfl h3
      rcases hk with e | e
      · obtain ⟨_, _, _, d⟩ := kind_is2 e
        rw [e]
        exact .inr (.inl ⟨(j, S j), mem_lefts.2 ⟨h2, c, rfl⟩, (i, S i), mem_lefts.2 ⟨h1, b, rfl⟩, Ne.symm a, d.symm, rfl⟩)
      · obtain ⟨_, _, _, d, f⟩ := kind_is3 e
        rw [e]
        exact .inr (.inr ⟨(i, S i), mem_lefts.2 ⟨h1, b, rfl⟩, (j, S j), mem_lefts.2 ⟨h2, c, rfl⟩, d, f, rfl⟩)
/-- Is it a step? -/
def isB (S : Nat → BitVec 32) (T : Nat → Bool) (n : Nat) (keep : BitVec 32) (s : Stp) : Bool := decide (s ∈ stepsE (lefts S T n) keep)
theorem isB_out {s : Stp} (h : s.edge < 0 ∨ s.into < 0 ∨ (n : Int) ≤ s.edge ∨ (n : Int) ≤ s.into) : isB S T n keep s = false := by
  unfold isB
  rw [decide_eq_false_iff_not, isStp_lefts]
  rintro (⟨i, h1, h2, h3, rfl⟩ | ⟨i, j, h1, h2, h3, rfl⟩)
  · simp only at h; omega
  · simp only at h; omega
theorem isB_gone {s : Stp} {i : Nat} (he : s.edge = i) (h : T i = false) : isB S T n keep s = false := by
  unfold isB
  rw [decide_eq_false_iff_not, isStp_lefts]
  rintro (⟨k, h1, h2, h3, rfl⟩ | ⟨k, j, h1, h2, h3, rfl⟩)
  · obtain rfl := ni.1 he; rw [h] at h2; cases h2
  · obtain rfl := ni.1 he
    have := (kind_ne h3).2.1
    rw [h] at this; cases this
theorem kindZ_ne_one (i j : Nat) : kindZ S T i j ≠ 1 := by
  unfold kindZ
  split
  · omega
  · split
    · omega
    · split <;> omega
theorem isB_trim {s : Stp} {i : Nat} (he : s.edge = i) (hi : i < n) (hT : T i = true) (hk : s.kind = 1) : isB S T n keep s = (!(s.cut == 0#32) && decide (s = ⟨1, i, 0, loneTo S T keep i n⟩)) := by
  unfold isB
  rw [Bool.eq_iff_iff, decide_eq_true_eq, Bool.and_eq_true, decide_eq_true_eq, Bool.not_eq_true', beq_eq_false_iff_ne, isStp_lefts]
  constructor
  · rintro (⟨k, h1, h2, h3, rfl⟩ | ⟨k, j, h1, h2, h3, rfl⟩)
    · obtain rfl := ni.1 he; exact ⟨h3, rfl⟩
    · exact absurd hk (kindZ_ne_one _ _)
  · rintro ⟨h1, h2⟩
    refine .inl ⟨i, hi, hT, ?_, h2⟩
    rw [h2] at h1; exact h1
theorem isB_other {s : Stp} {i j : Nat} (he : s.edge = i) (hi : i < n) (hj : j < n) (hinto : s.into = j) (hk : s.kind ≠ 1) : isB S T n keep s = (!(kindZ S T i j == 0) && decide (s = ⟨kindZ S T i j, i, j, 0#32⟩)) := by
  unfold isB
  rw [Bool.eq_iff_iff, decide_eq_true_eq, Bool.and_eq_true, decide_eq_true_eq, Bool.not_eq_true', beq_eq_false_iff_ne, isStp_lefts]
  constructor
  · rintro (⟨k, h1, h2, h3, rfl⟩ | ⟨k, m, h1, h2, h3, rfl⟩)
    · exact absurd rfl hk
    · obtain rfl := ni.1 he
      obtain rfl := ni.1 hinto
      exact ⟨h3, rfl⟩
  · rintro ⟨h1, h2⟩
    exact .inr ⟨i, j, hi, hj, h1, h2⟩
theorem make_trim {i : Nat} {c : BitVec 32} {q : Int} (hT : T i = true) : makeE (lefts S T n) ⟨1, i, q, c⟩ = lefts (updS S i (S i &&& ~~~c)) T n := by
  unfold makeE
  rw [flatMap_lefts]
  unfold lefts
  congr 1
  funext k
  unfold leftOf makeOf updS
  by_cases e : k = i
  · subst e; simp [hT]
  · by_cases c : T k = true
    · simp [c, e]
      exact fun x => absurd (ni.1 x) e
    · simp [c]
theorem make_gone {i : Nat} {k q : Int} {c : BitVec 32} (hk : k ≠ 1) : makeE (lefts S T n) ⟨k, i, q, c⟩ = lefts S (updT T i false) n := by
  unfold makeE
  rw [flatMap_lefts]
  unfold lefts
  congr 1
  funext m
  unfold leftOf makeOf updT
  by_cases e : m = i
  · subst e; simp [hk]
  · by_cases c : T m = true
    · simp [c, e]
      exact fun x => absurd (ni.1 x) e
    · simp [c, e]
end

/-! ### The run -/
def sizeW (x : BitVec 32) : Nat := cntB (fun v => x.getLsbD v) 32
theorem sizeW_le (x : BitVec 32) : sizeW x ≤ 32 := cntB_le _ _
theorem sizeW_cut {x c : BitVec 32} {v : Nat} (h1 : hv x v) (h2 : hv c v) : sizeW (x &&& ~~~c) < sizeW x := by
  unfold sizeW
  refine cntB_strict (j := v) h1 ?_ (fun i _ h => ?_) (hv_lt h1)
  · cases h : (x &&& ~~~c).getLsbD v
    · rfl
    · exact absurd h2 ((hv_andNot x c v).1 h).2
  · exact ((hv_andNot x c i).1 h).1
/-- How many steps there can be at most. -/
def mu (L : Lt) : Nat := (L.map fun x => 1 + sizeW x.2).sum
theorem mu_make : ∀ {L : Lt} {s : Stp}, mu (makeE L s) ≤ mu L
  | [], _ => Nat.le_refl _
  | a :: L, s => by
    have ih := mu_make (L := L) (s := s)
    rw [makeE_cons]
    unfold mu at ih ⊢
    rw [List.map_append, List.sum_append, List.map_cons, List.sum_cons]
    have : ((makeOf s a).map fun x => 1 + sizeW x.2).sum ≤ 1 + sizeW a.2 := by
      unfold makeOf
      split
      · split
        · simp
          unfold sizeW
          exact cntB_mono fun i _ h => ((hv_andNot _ _ i).1 h).1
        · simp
      · simp
    omega
theorem mu_lt : ∀ {L : Lt} {s : Stp} {x : Nat × BitVec 32}, x ∈ L → s.edge = x.1 → (s.kind = 1 → ∃ v, hv x.2 v ∧ hv s.cut v) → mu (makeE L s) < mu L
  | [], _, _, h, _, _ => by cases h
  | a :: L, s, x, h, he, hc => by
    rw [makeE_cons]
    have e : ∀ l r : Lt, mu (l ++ r) = mu l + mu r := fun l r => by unfold mu; rw [List.map_append, List.sum_append]
    have e2 : mu (a :: L) = 1 + sizeW a.2 + mu L := by unfold mu; simp
    rw [e, e2]
    rcases List.mem_cons.1 h with rfl | h
    · have h1 := mu_make (L := L) (s := s)
      have : mu (makeOf s x) < 1 + sizeW x.2 := by
        unfold makeOf
        rw [if_pos he.symm]
        split
        · next k =>
          obtain ⟨v, h1, h2⟩ := hc k
          have := sizeW_cut h1 h2
          simp [mu]; omega
        · simp [mu]; omega
      omega
    · have h1 := mu_lt h he hc
      have : mu (makeOf s a) ≤ 1 + sizeW a.2 := by
        have := mu_make (L := [a]) (s := s)
        simpa [makeE, mu] using this
      omega
theorem mu_step {L : Lt} {keep : BitVec 32} {s : Stp} (hs : Srt L) (h : IsStp L keep s) : mu (makeE L s) < mu L := by
  rcases h.cases hs with ⟨x, hx, hc, rfl⟩ | ⟨x, hx, y, hy, k, hne, hk, hsub, rfl⟩
  · refine mu_lt hx rfl fun _ => ?_
    obtain ⟨v, hh⟩ := (ne_zero_iff _).1 hc
    exact ⟨v, ((hv_cut L keep x v).1 hh).1, hh⟩
  · exact mu_lt hx rfl fun e => absurd e hk
/-- The first k steps of the removal, and what they leave. -/
def runN (keep : BitVec 32) (L : Lt) : Nat → List Stp × Lt
  | 0 => ([], L)
  | k + 1 => match (stepsE (runN keep L k).2 keep).head? with
    | none => runN keep L k
    | some s => ((runN keep L k).1 ++ [s], makeE (runN keep L k).2 s)
theorem runN_none {keep : BitVec 32} {L : Lt} {k : Nat} (h : (stepsE (runN keep L k).2 keep).head? = none) : ∀ m, k ≤ m → runN keep L m = runN keep L k
  | 0, hm => by obtain rfl : k = 0 := by omega
                rfl
  | m + 1, hm => by
    rcases Nat.lt_or_ge m k with c | c
    · obtain rfl : k = m + 1 := by omega
      rfl
    · have ih := runN_none h m c
      show (match (stepsE (runN keep L m).2 keep).head? with | none => runN keep L m | some s => _) = _
      rw [ih, h]
theorem runN_some {keep : BitVec 32} {L : Lt} {k : Nat} {s : Stp} (h : (stepsE (runN keep L k).2 keep).head? = some s) : runN keep L (k + 1) = ((runN keep L k).1 ++ [s], makeE (runN keep L k).2 s) := by
  show (match (stepsE (runN keep L k).2 keep).head? with | none => runN keep L k | some s => _) = _
  rw [h]
theorem Rch.snoc {keep : BitVec 32} {L M : Lt} {ss : List Stp} {s : Stp} (r : Rch keep L ss M) (h : IsStp M keep s) : Rch keep L (ss ++ [s]) (makeE M s) := by
  induction r with
  | nil => exact .cons h (.nil _)
  | cons h' _ ih => exact .cons h' (ih h)
theorem head_mem {α : Type} {l : List α} {x : α} (h : l.head? = some x) : x ∈ l := by
  cases l with
  | nil => cases h
  | cons a r =>
    injection h with h
    rw [h]; exact List.mem_cons_self
theorem runN_rch (keep : BitVec 32) (L : Lt) : ∀ k, Rch keep L (runN keep L k).1 (runN keep L k).2
  | 0 => .nil L
  | k + 1 => by
    cases h : (stepsE (runN keep L k).2 keep).head? with
    | none => rw [runN_none h (k + 1) (by omega)]; exact runN_rch keep L k
    | some s =>
      rw [runN_some h]
      exact (runN_rch keep L k).snoc ((mem_steps _ _ _).1 (head_mem h))
theorem runN_mu {keep : BitVec 32} {L : Lt} (hs : Srt L) : ∀ k, (stepsE (runN keep L k).2 keep).head? = none ∨ mu (runN keep L k).2 + k ≤ mu L
  | 0 => .inr (Nat.le_refl _)
  | k + 1 => by
    cases h : (stepsE (runN keep L k).2 keep).head? with
    | none => left; rw [runN_none h (k + 1) (by omega)]; exact h
    | some s =>
      right
      rcases runN_mu hs k with c | c
      · rw [h] at c; cases c
      · rw [runN_some h]
        have := mu_step ((runN_rch keep L k).srt hs) ((mem_steps _ _ _).1 (head_mem h))
        show mu (makeE _ s) + (k + 1) ≤ _
        omega
theorem mu_begin (E : List (BitVec 32)) (h : E.length ≤ 7) : mu (beginE E) ≤ 231 := by
  have key : ∀ L : Lt, mu L ≤ 33 * L.length := by
    intro L
    induction L with
    | nil => exact Nat.le_refl _
    | cons a L ih =>
      have e : mu (a :: L) = 1 + sizeW a.2 + mu L := by unfold mu; simp
      have := sizeW_le a.2
      rw [e, List.length_cons]; omega
  have := key (beginE E)
  have e : (beginE E).length = E.length := by simp [beginE]
  omega
/-- The removal. -/
def runE (E : List (BitVec 32)) (keep : BitVec 32) : List Stp × Lt := runN keep (beginE E) 232
theorem runE_stuck {E : List (BitVec 32)} (keep : BitVec 32) (h : E.length ≤ 7) : (stepsE (runE E keep).2 keep).head? = none := by
  rcases runN_mu (keep := keep) (srt_begin E) 232 with c | c
  · exact c
  · have := mu_begin E h; omega
theorem runE_eq {E : List (BitVec 32)} {keep : BitVec 32} (h : E.length ≤ 7) {k : Nat} (hk : (stepsE (runN keep (beginE E) k).2 keep).head? = none) : runN keep (beginE E) k = runE E keep := by
  rcases Nat.le_total k 232 with c | c
  · exact (runN_none hk 232 c).symm
  · exact runN_none (runE_stuck keep h) k c
theorem runE_rch (E : List (BitVec 32)) (keep : BitVec 32) : Rch keep (beginE E) (runE E keep).1 (runE E keep).2 := runN_rch _ _ _
theorem runN_len (keep : BitVec 32) (L : Lt) : ∀ k, (runN keep L k).1.length ≤ k
  | 0 => Nat.le_refl _
  | k + 1 => by
    have ih := runN_len keep L k
    cases h : (stepsE (runN keep L k).2 keep).head? with
    | none => rw [runN_none h (k + 1) (by omega)]; omega
    | some s => rw [runN_some h]; simp; omega
theorem make_len : ∀ (L : Lt) (s : Stp), (makeE L s).length ≤ L.length
  | [], _ => Nat.le_refl _
  | a :: L, s => by
    have := make_len L s
    rw [makeE_cons, List.length_append]
    have : (makeOf s a).length ≤ 1 := by unfold makeOf; split <;> (try split) <;> simp
    simp; omega
theorem Rch.len {keep : BitVec 32} {L M : Lt} {ss : List Stp} (r : Rch keep L ss M) : M.length ≤ L.length := by
  induction r with
  | nil => exact Nat.le_refl _
  | cons _ _ ih => exact Nat.le_trans ih (make_len _ _)
theorem begin_len (E : List (BitVec 32)) : (beginE E).length = E.length := by simp [beginE]
theorem begin_lefts (E : List (BitVec 32)) : beginE E = lefts (ed E) (fun i => decide (i < E.length)) E.length := by
  unfold beginE lefts
  have : ∀ n, n ≤ E.length → (List.range n).map (fun i => (i, ed E i)) = (List.range n).flatMap (leftOf (ed E) fun i => decide (i < E.length)) := by
    intro n
    induction n with
    | zero => intro _; rfl
    | succ n ih =>
      intro hn
      rw [List.range_succ, List.map_append, List.flatMap_append, ih (by omega)]
      simp [leftOf, show n < E.length by omega]
  exact this _ (Nat.le_refl _)
end Go.Proofs.YtdemmjofggemhaaDoor

/- Join trees: what a removal that leaves nothing shows, and what a knot rules out. No program in sight. -/
namespace Go.Proofs.YtdemmjofggemhaaDoor

structure Tree (n : Nat) (p : Nat → Int) : Prop where
  rng : ∀ i, i < n → -1 ≤ p i ∧ p i < n
  rank : ∃ d : Nat → Nat, ∀ i, i < n → 0 ≤ p i → d (p i).toNat < d i
  one : ∀ i j, i < n → j < n → p i = -1 → p j = -1 → i = j
/-- The edge i is the topmost one that has the vertex. -/
def Top (E : List (BitVec 32)) (p : Nat → Int) (v i : Nat) : Prop := hv (ed E i) v ∧ (p i = -1 ∨ ¬ hv (ed E (p i).toNat) v)
/-! ### The tree that a removal shows -/
def TopL (L : Lt) (p : Nat → Int) (v : Nat) (x : Nat × BitVec 32) : Prop := hv x.2 v ∧ ∀ y ∈ L, p x.1 = (y.1 : Int) → ¬ hv y.2 v
structure JTL (L : Lt) (p : Nat → Int) : Prop where
  up : ∀ x ∈ L, p x.1 = -1 ∨ ∃ y ∈ L, p x.1 = (y.1 : Int)
  rank : ∃ d : Nat → Nat, ∀ x ∈ L, 0 ≤ p x.1 → d (p x.1).toNat < d x.1
  one : ∀ x ∈ L, ∀ y ∈ L, p x.1 = -1 → p y.1 = -1 → x.1 = y.1
  top : ∀ v, ∀ x ∈ L, ∀ y ∈ L, TopL L p v x → TopL L p v y → x.1 = y.1
/-! ### A knot rules a join tree out -/
def inR (R : List (BitVec 32)) (v : Nat) : Prop := ∃ a ∈ R, hv a v
structure Knot (E R : List (BitVec 32)) : Prop where
  ne : ∃ v, inR R v
  anti : ∀ i j, i < R.length → j < R.length → (∀ v, hv (ed R i) v → hv (ed R j) v) → i = j
  twice : ∀ v, inR R v → ∃ i j, i < R.length ∧ j < R.length ∧ i ≠ j ∧ hv (ed R i) v ∧ hv (ed R j) v
  edge : ∀ a ∈ R, ∃ j, j < E.length ∧ ∀ v, hv a v ↔ hv (ed E j) v ∧ inR R v
  part : ∀ j, j < E.length → ∃ i, i < R.length ∧ ∀ v, hv (ed E j) v → inR R v → hv (ed R i) v
/-! ### What is left, and join trees -/
def setsL (L : Lt) : List (BitVec 32) := L.map Prod.snd
theorem ed_sets (L : Lt) (i : Nat) (h : i < L.length) : ed (setsL L) i = L[i].2 := by
  rw [← ed_eq _ i (by simpa [setsL] using h)]
  simp [setsL]
theorem srt_idx {L : Lt} (h : Srt L) {i j : Nat} (hi : i < L.length) (hj : j < L.length) (e : L[i] = L[j]) : i = j := by
  have h1 := List.pairwise_iff_getElem.1 h
  rcases Nat.lt_trichotomy i j with c | c | c
  · have := h1 i j hi hj c; rw [e] at this; omega
  · exact c
  · have := h1 j i hj hi c; rw [e] at this; omega
end Go.Proofs.YtdemmjofggemhaaDoor

/- Trees told by parents: how the root is reached; a tree turned to another root. No program in sight. -/
namespace Go.Proofs.YtdemmjofggemhaaDoor

/-! ### Up to the root -/
def up (p : Nat → Int) : Nat → Int → Int
  | 0, i => i
  | k + 1, i => if i < 0 then i else up p k (p i.toNat)
theorem up_neg (p : Nat → Int) {i : Int} (h : i < 0) : ∀ k, up p k i = i
  | 0 => rfl
  | k + 1 => by unfold up; rw [if_pos h]
theorem up_nat (p : Nat → Int) (k i : Nat) : up p (k + 1) (i : Int) = up p k (p i) := by
  conv => lhs; unfold up
  rw [if_neg (by omega), Int.toNat_natCast]
theorem up_more {p : Nat → Int} : ∀ {k : Nat} {i : Int}, up p k i < 0 → ∀ m, k ≤ m → up p m i = up p k i
  | 0, i, h, m, _ => up_neg p h m
  | k + 1, i, h, 0, hm => by omega
  | k + 1, i, h, m + 1, hm => by
    unfold up at h ⊢
    split
    · rfl
    · next c => rw [if_neg c] at h; exact up_more h m (by omega)
/-- A tree's rank below the number of its edges. -/
theorem Tree.low {n : Nat} {p : Nat → Int} (h : Tree n p) : ∃ d : Nat → Nat, (∀ i, i < n → d i < n) ∧ ∀ i, i < n → 0 ≤ p i → d (p i).toNat < d i := by
  obtain ⟨d, hd⟩ := h.rank
  refine ⟨fun i => cntB (fun j => decide (d j < d i)) n, fun i hi => cntB_lt hi (by simp), fun i hi h0 => ?_⟩
  have h1 := hd i hi h0
  have h2 := (h.rng i hi).2
  exact cntB_strict (j := (p i).toNat) (by simpa using h1) (by simp) (fun k _ hk => by
    have : d k < d (p i).toNat := by simpa using hk
    simp; omega) (by omega)
theorem Tree.reach {n : Nat} {p : Nat → Int} (h : Tree n p) (i : Nat) (hi : i < n) : up p n i = -1 := by
  obtain ⟨d, hlt, hd⟩ := h.low
  have key : ∀ m i, i < n → d i ≤ m → up p (m + 1) (i : Int) = -1 := by
    intro m
    induction m with
    | zero =>
      intro i hi hm
      have h1 := h.rng i hi
      by_cases c : p i = -1
      · rw [up_nat, c]; rfl
      · have := hd i hi (by omega); omega
    | succ m ih =>
      intro i hi hm
      have h1 := h.rng i hi
      by_cases c : p i = -1
      · rw [up_nat, c]; exact up_neg p (by omega) _
      · have h2 := hd i hi (by omega)
        have h3 := ih (p i).toNat (by omega) (by omega)
        rw [up_nat]
        rw [Int.toNat_of_nonneg (by omega)] at h3
        exact h3
  have h1 := hlt i hi
  have h2 := key (n - 1) i hi (by omega)
  rwa [Nat.sub_add_cancel (by omega)] at h2
theorem Tree.root {n : Nat} {p : Nat → Int} (h : Tree n p) (hn : 0 < n) : ∃ r, r < n ∧ p r = -1 := by
  obtain ⟨d, hd⟩ := h.rank
  have key : ∀ m i, d i ≤ m → i < n → ∃ r, r < n ∧ p r = -1 := by
    intro m
    induction m with
    | zero =>
      intro i hm hi
      have h1 := h.rng i hi
      by_cases c : p i = -1
      · exact ⟨i, hi, c⟩
      · have := hd i hi (by omega); omega
    | succ m ih =>
      intro i hm hi
      have h1 := h.rng i hi
      by_cases c : p i = -1
      · exact ⟨i, hi, c⟩
      · have h2 := hd i hi (by omega)
        exact ih (p i).toNat (by omega) (by omega)
  exact key _ 0 (Nat.le_refl _) hn

/-! ### One step of turning -/
/-- c, a child of the root r, becomes the root. -/
def sw (q : Nat → Int) (c r : Nat) : Nat → Int := fun i => if i = c then -1 else if i = r then (c : Int) else q i
/-! ### The way to the root, and the tree turned -/
def turned (p : Nat → Int) : List Nat → Nat → Int
  | [] => p
  | [_] => p
  | a :: b :: l => sw (turned p (b :: l)) a b
end Go.Proofs.YtdemmjofggemhaaDoor

/- Trees and join trees as the functions look for them: truth values that the walks reckon. No program in sight. -/
namespace Go.Proofs.YtdemmjofggemhaaDoor

/-- The i-th parent. -/
def pz (P : List Int) (i : Nat) : Int := P.getD i 0
theorem pz_eq (P : List Int) (i : Nat) (h : i < P.length) : P[i] = pz P i := by simp [pz, h]
/-! ### Join trees: the vertices at which a tree is entered -/
/-! ### All trees -/
def updI (f : Nat → Int) (i : Nat) (x : Int) : Nat → Int := fun j => if j = i then x else f j
end Go.Proofs.YtdemmjofggemhaaDoor

/- Ways in a tree, what lies between two edges, and the sum of sizes. No program in sight. -/
namespace Go.Proofs.YtdemmjofggemhaaDoor

def wayF (p : Nat → Int) : Nat → Int → List Nat
  | 0, _ => []
  | f + 1, i => if i < 0 then [] else i.toNat :: wayF p f (p i.toNat)
theorem wayF_neg (p : Nat → Int) {i : Int} (h : i < 0) : ∀ f, wayF p f i = []
  | 0 => rfl
  | f + 1 => by unfold wayF; rw [if_pos h]
theorem wayF_more {p : Nat → Int} : ∀ {f : Nat} {i : Int}, up p f i < 0 → ∀ m, f ≤ m → wayF p m i = wayF p f i
  | 0, i, h, m, _ => by rw [wayF_neg p (show i < 0 from h) m]; rfl
  | f + 1, i, h, 0, hm => by omega
  | f + 1, i, h, m + 1, hm => by
    unfold wayF
    split
    · rfl
    · next c =>
      unfold up at h
      rw [if_neg c] at h
      rw [wayF_more h m (by omega)]
/-- The edges from i to the root, both in. -/
def way (n : Nat) (p : Nat → Int) (i : Nat) : List Nat := wayF p n i
theorem Tree.way_eq {n : Nat} {p : Nat → Int} (h : Tree n p) {i : Nat} (hi : i < n) : way n p i = i :: (if p i = -1 then [] else way n p (p i).toNat) := by
  unfold way
  obtain ⟨m, rfl⟩ : ∃ m, n = m + 1 := ⟨n - 1, by omega⟩
  have h1 := h.reach i hi
  rw [up_nat] at h1
  conv => lhs; unfold wayF
  rw [if_neg (by omega), Int.toNat_natCast]
  congr 1
  have h2 := h.rng i hi
  split
  · next c => rw [c]; exact wayF_neg p (by omega) _
  · next c =>
    rw [← wayF_more (f := m) (by rw [h1]; omega) (m + 1) (by omega), Int.toNat_of_nonneg (by omega)]
theorem Tree.way_ind {n : Nat} {p : Nat → Int} (h : Tree n p) {Q : Nat → Prop} (h0 : ∀ i, i < n → p i = -1 → Q i) (h1 : ∀ i, i < n → 0 ≤ p i → (p i).toNat < n → Q (p i).toNat → Q i) : ∀ i, i < n → Q i := by
  obtain ⟨d, hd⟩ := h.rank
  have key : ∀ m i, d i ≤ m → i < n → Q i := by
    intro m
    induction m with
    | zero =>
      intro i hm hi
      have h2 := h.rng i hi
      by_cases c : p i = -1
      · exact h0 i hi c
      · have := hd i hi (by omega); omega
    | succ m ih =>
      intro i hm hi
      have h2 := h.rng i hi
      by_cases c : p i = -1
      · exact h0 i hi c
      · have h3 := hd i hi (by omega)
        exact h1 i hi (by omega) (by omega) (ih _ (by omega) (by omega))
  exact fun i => key _ i (Nat.le_refl _)
section
variable {n : Nat} {p : Nat → Int} (h : Tree n p)
include h
theorem Tree.mem_way {i : Nat} (hi : i < n) {k : Nat} : k ∈ way n p i ↔ k = i ∨ (0 ≤ p i ∧ k ∈ way n p (p i).toNat) := by
  rw [h.way_eq hi, List.mem_cons]
  have := h.rng i hi
  split
  · next c => simp; intro h; omega
  · next c =>
    constructor
    · rintro (a | a)
      · exact .inl a
      · exact .inr ⟨by omega, a⟩
    · rintro (a | a)
      · exact .inl a
      · exact .inr a.2
theorem Tree.way_self {i : Nat} (hi : i < n) : i ∈ way n p i := (h.mem_way hi).2 (.inl rfl)
theorem Tree.way_lt : ∀ i, i < n → ∀ k, k ∈ way n p i → k < n := by
  refine h.way_ind (fun i hi c k hk => ?_) (fun i hi c hl ih k hk => ?_)
  · rcases (h.mem_way hi).1 hk with a | ⟨a, _⟩
    · omega
    · omega
  · rcases (h.mem_way hi).1 hk with a | ⟨_, a⟩
    · omega
    · exact ih k a
theorem Tree.way_rank {d : Nat → Nat} (hd : ∀ i, i < n → 0 ≤ p i → d (p i).toNat < d i) : ∀ i, i < n → ∀ k, k ∈ way n p i → k = i ∨ d k < d i := by
  refine h.way_ind (fun i hi c k hk => ?_) (fun i hi c hl ih k hk => ?_)
  · rcases (h.mem_way hi).1 hk with a | ⟨a, _⟩
    · exact .inl a
    · omega
  · rcases (h.mem_way hi).1 hk with a | ⟨_, a⟩
    · exact .inl a
    · have := hd i hi c
      rcases ih k a with e | e
      · subst e; exact .inr this
      · exact .inr (by omega)
theorem Tree.way_anti {i k : Nat} (hi : i < n) (hk : k < n) (a : k ∈ way n p i) (b : i ∈ way n p k) : k = i := by
  obtain ⟨d, hd⟩ := h.rank
  rcases h.way_rank hd i hi k a with e | e
  · exact e
  · rcases h.way_rank hd k hk i b with e2 | e2
    · exact e2.symm
    · omega
/-- Of two edges on one way one lies above the other. -/
theorem Tree.way_comp : ∀ i, i < n → ∀ k m, k ∈ way n p i → m ∈ way n p i → m ∈ way n p k ∨ k ∈ way n p m := by
  refine h.way_ind (fun i hi c k m hk hm => ?_) (fun i hi c hl ih k m hk hm => ?_)
  · rcases (h.mem_way hi).1 hk with a | ⟨a, _⟩
    · subst a; exact .inl hm
    · omega
  · rcases (h.mem_way hi).1 hk with a | ⟨_, a⟩
    · subst a; exact .inl hm
    · rcases (h.mem_way hi).1 hm with b | ⟨_, b⟩
      · subst b; exact .inr hk
      · exact ih k m a b
theorem Tree.way_take (m : Nat) : ∀ i, i < n → m ∈ way n p i → ∀ k, k ∈ (way n p i).takeWhile (fun x => x != m) ↔ k ∈ way n p i ∧ m ∈ way n p k ∧ k ≠ m := by
  refine h.way_ind (fun i hi c hm k => ?_) (fun i hi c hl ih hm k => ?_)
  · have hmi : m = i := by
      rcases (h.mem_way hi).1 hm with a | ⟨a, _⟩
      · exact a
      · omega
    subst hmi
    rw [h.way_eq hi, if_pos c]
    simp
    exact fun a _ => a
  · by_cases e : m = i
    · subst e
      rw [h.way_eq hi]
      simp only [List.takeWhile_cons, bne_self_eq_false, Bool.false_eq_true, if_false, List.not_mem_nil, false_iff]
      rintro ⟨a, b, c2⟩
      rw [← h.way_eq hi] at a
      exact c2 (h.way_anti hi (h.way_lt m hi k a) a b)
    · have hm' : m ∈ way n p (p i).toNat := by
        rcases (h.mem_way hi).1 hm with a | ⟨_, a⟩
        · exact absurd a e
        · exact a
      have e1 : (way n p i).takeWhile (fun x => x != m) = i :: (way n p (p i).toNat).takeWhile (fun x => x != m) := by
        rw [h.way_eq hi, if_neg (by omega), List.takeWhile_cons, if_pos (by simpa using Ne.symm e)]
      rw [e1, List.mem_cons, ih hm' k, h.mem_way hi]
      constructor
      · rintro (a | ⟨a, b, c2⟩)
        · subst a; exact ⟨.inl rfl, hm, Ne.symm e⟩
        · exact ⟨.inr ⟨c, a⟩, b, c2⟩
      · rintro ⟨a | ⟨_, a⟩, b, c2⟩
        · exact .inl a
        · exact .inr ⟨a, b, c2⟩
end

/-! ### Between -/
def meetOf (a b : List Nat) : Int := match a.find? (fun x => b.contains x) with | some x => x | none => -1
theorem Tree.way_root {n : Nat} {p : Nat → Int} (h : Tree n p) : ∀ i, i < n → ∃ r, r ∈ way n p i ∧ p r = -1 := by
  refine h.way_ind (fun i hi c => ⟨i, h.way_self hi, c⟩) (fun i hi c hl ih => ?_)
  obtain ⟨r, a, b⟩ := ih
  exact ⟨r, (h.mem_way hi).2 (.inr ⟨c, a⟩), b⟩
theorem Tree.meet {n : Nat} {p : Nat → Int} (h : Tree n p) {i j : Nat} (hi : i < n) (hj : j < n) : ∃ m : Nat, meetOf (way n p i) (way n p j) = m ∧ m < n ∧ m ∈ way n p i ∧ m ∈ way n p j ∧ ∀ y, y ∈ way n p i → y ∈ way n p j → y ∈ way n p m := by
  unfold meetOf
  obtain ⟨r, hr, hpr⟩ := h.way_root i hi
  obtain ⟨r', hr', hpr'⟩ := h.way_root j hj
  have hrr : r = r' := h.one r r' (h.way_lt i hi r hr) (h.way_lt j hj r' hr') hpr hpr'
  subst hrr
  cases hf : (way n p i).find? (fun x => (way n p j).contains x) with
  | none =>
    have := List.find?_eq_none.1 hf r hr
    simp [hr'] at this
  | some m =>
    obtain ⟨hm, l1, bs, hab, hno⟩ := List.find?_eq_some_iff_append.1 hf
    have hmi : m ∈ way n p i := by rw [hab]; simp
    have hmj : m ∈ way n p j := by simpa using hm
    refine ⟨m, rfl, h.way_lt i hi m hmi, hmi, hmj, fun y hy1 hy2 => ?_⟩
    have hmn := h.way_lt i hi m hmi
    rcases h.way_comp i hi m y hmi hy1 with c | c
    · exact c
    · by_cases e : y = m
      · subst e; exact h.way_self hmn
      · have h1 := (h.way_take m i hi hmi y).2 ⟨hy1, c, e⟩
        have h2 : (way n p i).takeWhile (fun x => x != m) = l1.takeWhile (fun x => x != m) := by
          rw [hab]
          have key : ∀ l1 : List Nat, (l1 ++ m :: bs).takeWhile (fun x => x != m) = l1.takeWhile (fun x => x != m) := by
            intro l1
            induction l1 with
            | nil => simp
            | cons a l1 ih =>
              rw [List.cons_append, List.takeWhile_cons, List.takeWhile_cons, ih]
          rw [key]
        rw [h2] at h1
        have h3 : y ∈ l1 := by
          have h4 : y ∈ l1.takeWhile (fun x => x != m) := by simpa using h1
          exact (List.takeWhile_sublist _).subset h4
        have := hno y h3
        simp [hy2] at this
/-! ### Sizes -/
end Go.Proofs.YtdemmjofggemhaaDoor

/- How the document's answer finds a tree: round by round, who comes to a root. No program in sight. -/
namespace Go.Proofs.YtdemmjofggemhaaDoor

theorem rank_of_reach {n K : Nat} {p : Nat → Int} (_rng : ∀ i, i < n → -1 ≤ p i ∧ p i < n) (h : ∀ i : Nat, i < n → up p K i < 0) : ∃ d : Nat → Nat, ∀ i, i < n → 0 ≤ p i → d (p i).toNat < d i := by
  refine ⟨fun i => cntB (fun k => decide (0 ≤ up p k i)) K, fun i hi h0 => ?_⟩
  have h1 := h i hi
  have e1 : cntB (fun k => decide (0 ≤ up p k (i : Int))) (K + 1) = cntB (fun k => decide (0 ≤ up p k (i : Int))) K := by
    show _ + _ = _
    rw [if_neg (by simp; omega)]; rfl
  have e2 := cntB_shift (fun k => decide (0 ≤ up p k (i : Int))) K
  rw [e1, if_pos (by simp [up])] at e2
  have e3 : cntB (fun k => decide (0 ≤ up p (k + 1) (i : Int))) K = cntB (fun k => decide (0 ≤ up p k ((p i).toNat : Int))) K := by
    refine cntB_congr fun k _ => ?_
    rw [up_nat, Int.toNat_of_nonneg h0]
  rw [e3] at e2
  show cntB (fun k => decide (0 ≤ up p k ((p i).toNat : Int))) K < cntB (fun k => decide (0 ≤ up p k (i : Int))) K
  omega
theorem bound_all {n : Nat} {Q : Nat → Nat → Prop} (mono : ∀ i k m, k ≤ m → Q i k → Q i m) (h : ∀ i, i < n → ∃ k, Q i k) : ∃ K, ∀ i, i < n → Q i K := by
  induction n with
  | zero => exact ⟨0, fun i hi => by omega⟩
  | succ n ih =>
    obtain ⟨K, hK⟩ := ih fun i hi => h i (by omega)
    obtain ⟨k, hk⟩ := h n (by omega)
    refine ⟨K + k, fun i hi => ?_⟩
    rcases Nat.lt_or_ge i n with c | c
    · exact mono i K _ (by omega) (hK i c)
    · obtain rfl : i = n := by omega
      exact mono i k _ (by omega) hk
/-- Where all come to a root, they do so in n steps. -/
theorem reach_all {n : Nat} {p : Nat → Int} (rng : ∀ i, i < n → -1 ≤ p i ∧ p i < n) (h : ∀ i : Nat, i < n → ∃ k, up p k i = -1) : ∀ i : Nat, i < n → up p n i = -1 := by
  obtain ⟨K, hK⟩ := bound_all (n := n) (Q := fun i k => up p k (i : Int) = -1) (fun i k m hm hq => by rw [up_more (by rw [hq]; omega) m hm]; exact hq) h
  obtain ⟨d, hd⟩ := rank_of_reach rng (K := K) fun i hi => by rw [hK i hi]; omega
  have hlt : ∀ i, i < n → cntB (fun j => decide (d j < d i)) n < n := fun i hi => cntB_lt hi (by simp)
  have hd' : ∀ i, i < n → 0 ≤ p i → cntB (fun j => decide (d j < d (p i).toNat)) n < cntB (fun j => decide (d j < d i)) n := fun i hi h0 => by
    have h1 := hd i hi h0
    have h2 := (rng i hi).2
    exact cntB_strict (j := (p i).toNat) (by simpa using h1) (by simp) (fun k _ hk => by
      have : d k < d (p i).toNat := by simpa using hk
      simp; omega) (by omega)
  have key : ∀ m i, i < n → cntB (fun j => decide (d j < d i)) n ≤ m → up p (m + 1) (i : Int) = -1 := by
    intro m
    induction m with
    | zero =>
      intro i hi hm
      have h1 := rng i hi
      by_cases c : p i = -1
      · rw [up_nat, c]; rfl
      · have := hd' i hi (by omega); omega
    | succ m ih =>
      intro i hi hm
      have h1 := rng i hi
      by_cases c : p i = -1
      · rw [up_nat, c]; exact up_neg p (by omega) _
      · have h2 := hd' i hi (by omega)
        have h3 := ih (p i).toNat (by omega) (by omega)
        rw [up_nat]
        rw [Int.toNat_of_nonneg (by omega)] at h3
        exact h3
  intro i hi
  have h1 := hlt i hi
  have h2 := key (n - 1) i hi (by omega)
  rwa [Nat.sub_add_cancel (by omega)] at h2

/-- After r rounds: who is in comes to a root; who comes to one in r steps is in. -/
structure GR (n : Nat) (p : Nat → Int) (r : Nat) (b : Nat → Bool) : Prop where
  sub : ∀ i : Nat, i < n → b i = true → ∃ k, up p k i = -1
  low : ∀ i : Nat, i < n → up p r i = -1 → b i = true
/-- In the midst of a round, at j. -/
structure GRM (n : Nat) (p : Nat → Int) (r j : Nat) (b : Nat → Bool) : Prop where
  sub : ∀ i : Nat, i < n → b i = true → ∃ k, up p k i = -1
  low : ∀ i : Nat, i < n → up p r i = -1 → b i = true
  done : ∀ i : Nat, i < n → i < j → up p (r + 1) i = -1 → b i = true
theorem GR.start (n : Nat) (p : Nat → Int) : GR n p 0 (fun _ => false) := ⟨(fun _ _ h => by cases h), fun i _ h => by have h : (i : Int) = -1 := h; omega⟩
theorem GRM.skip {n r j : Nat} {p : Nat → Int} {b : Nat → Bool} (h : GRM n p r j b) (rng : ∀ i, i < n → -1 ≤ p i ∧ p i < n) (hj : j < n) (hc : b j = true ∨ (p j ≠ -1 ∧ b (p j).toNat = false)) : GRM n p r (j + 1) b := by
  refine ⟨h.sub, h.low, fun i hi hij hu => ?_⟩
  rcases Nat.lt_or_ge i j with c | c
  · exact h.done i hi c hu
  · obtain rfl : i = j := by omega
    rcases hc with c | ⟨c1, c2⟩
    · exact c
    · have h1 := rng i hi
      rw [up_nat] at hu
      have := h.low (p i).toNat (by omega) (by rw [Int.toNat_of_nonneg (by omega)]; exact hu)
      rw [c2] at this; cases this
theorem GRM.come {n r j : Nat} {p : Nat → Int} {b : Nat → Bool} (h : GRM n p r j b) (rng : ∀ i, i < n → -1 ≤ p i ∧ p i < n) (hj : j < n) (hc : p j = -1 ∨ b (p j).toNat = true) : GRM n p r (j + 1) (updT b j true) := by
  have up_ : ∀ i, b i = true → updT b j true i = true := fun i hi => by unfold updT; split <;> first | rfl | exact hi
  refine ⟨fun i hi hb => ?_, fun i hi hu => up_ i (h.low i hi hu), fun i hi hij hu => ?_⟩
  · by_cases e : i = j
    · subst e
      have h1 := rng i hi
      by_cases c : p i = -1
      · exact ⟨1, by rw [up_nat, c]; rfl⟩
      · rcases hc with d | d
        · exact absurd d c
        · obtain ⟨k, hk⟩ := h.sub (p i).toNat (by omega) d
          rw [Int.toNat_of_nonneg (by omega)] at hk
          exact ⟨k + 1, by rw [up_nat]; exact hk⟩
    · unfold updT at hb; rw [if_neg e] at hb; exact h.sub i hi hb
  · rcases Nat.lt_or_ge i j with c | c
    · exact up_ i (h.done i hi c hu)
    · obtain rfl : i = j := by omega
      unfold updT; rw [if_pos rfl]
theorem cntB_all {p : Nat → Bool} {n : Nat} : cntB p n = n ↔ ∀ i, i < n → p i = true := by
  constructor
  · intro h i hi
    cases hp : p i
    · have := cntB_lt hi hp; omega
    · rfl
  · intro h
    rw [cntB_congr (q := fun _ => true) h, cntB_true]
theorem GR.all {n : Nat} {p : Nat → Int} {b : Nat → Bool} (h : GR n p n b) (rng : ∀ i, i < n → -1 ≤ p i ∧ p i < n) : cntB b n = n ↔ ∀ i : Nat, i < n → up p n i = -1 := by
  rw [cntB_all]
  constructor
  · intro ha; exact reach_all rng fun i hi => h.sub i hi (ha i hi)
  · intro ha i hi; exact h.low i hi (ha i hi)
end Go.Proofs.YtdemmjofggemhaaDoor

/- Rerooting as the program and the reference make it, step by step; that it turns a tree, and back again. No program in sight. -/
namespace Go.Proofs.YtdemmjofggemhaaDoor

end Go.Proofs.YtdemmjofggemhaaDoor
