/- The plain law of a plan's growth: a removal's steps as nodes of a forest. No program in sight. -/
import Derived.Test.YtbgbjodehbcgiaaGreatDoorConnLaw
namespace Go.Proofs.YtbgbjodehbcgiaaGreatDoor

/-- A node of the forest: kind 1 a leaf, 2 a trim, 3 a meet. -/
structure GN where
  kind : Nat
  atom : Nat
  set : BitVec 32
  src : Nat
  side : Nat
deriving DecidableEq
def gn (N : List GN) (i : Nat) : GN := N.getD i ⟨0, 0, 0#32, 0, 0⟩
theorem gn_eq (N : List GN) (i : Nat) (h : i < N.length) : N[i] = gn N i := by simp [gn, h]
theorem gn_old {N : List GN} {m : GN} {i : Nat} (h : i < N.length) : gn (N ++ [m]) i = gn N i := by
  simp [gn, List.getElem?_append_left h]
theorem gn_new (N : List GN) (m : GN) : gn (N ++ [m]) N.length = m := by simp [gn]
/-- Is k right below i? -/
def Ch (N : List GN) (i k : Nat) : Prop := ((gn N i).kind = 2 ∨ (gn N i).kind = 3) ∧ (gn N i).src = k ∨ (gn N i).kind = 3 ∧ (gn N i).side = k
def setAt (L : Lt) (e : Nat) : BitVec 32 := ((L.find? fun x => x.1 == e).map Prod.snd).getD 0#32
theorem setAt_eq {L : Lt} (hs : Srt L) {x : Nat × BitVec 32} (hx : x ∈ L) : setAt L x.1 = x.2 := by
  unfold setAt
  cases h : L.find? fun y => y.1 == x.1 with
  | none =>
    have := List.find?_eq_none.1 h x hx
    simp at this
  | some y =>
    have h1 := List.mem_of_find?_eq_some h
    have h2 := List.find?_some h
    have : y = x := hs.uniq h1 hx (by simpa using h2)
    rw [this]; rfl
def upN (p : Nat → Nat) (e k : Nat) : Nat → Nat := fun i => if i = e then k else p i
theorem upN_eq (p : Nat → Nat) (e k : Nat) : upN p e k e = k := by simp [upN]
theorem upN_ne (p : Nat → Nat) {e i : Nat} (k : Nat) (h : i ≠ e) : upN p e k i = p i := by simp [upN, h]
/-- The node that a step adds. -/
def nodeG (L : Lt) (p : Nat → Nat) (s : Stp) : GN :=
  if s.kind = 1 then ⟨2, 0, setAt L s.edge.toNat &&& ~~~s.cut, p s.edge.toNat, 0⟩ else ⟨3, 0, setAt L s.into.toNat, p s.into.toNat, p s.edge.toNat⟩
def atG (s : Stp) : Nat := if s.kind = 1 then s.edge.toNat else s.into.toNat
structure Gr where
  nodes : List GN
  at_ : Nat → Nat
def stepG (L : Lt) (g : Gr) (s : Stp) : Gr := ⟨g.nodes ++ [nodeG L g.at_ s], upN g.at_ (atG s) g.nodes.length⟩
/-- All steps, one behind another. -/
def growG : Lt → Gr → List Stp → Gr
  | _, g, [] => g
  | L, g, s :: ss => growG (makeE L s) (stepG L g s) ss
def leafG (E : List (BitVec 32)) : List GN := (List.range E.length).map fun i => ⟨1, i, ed E i, 0, 0⟩
theorem leafG_length (E : List (BitVec 32)) : (leafG E).length = E.length := by simp [leafG]
theorem leafG_at {E : List (BitVec 32)} {i : Nat} (h : i < E.length) : gn (leafG E) i = ⟨1, i, ed E i, 0, 0⟩ := by
  simp [gn, leafG, h]
def NodeOk (N : List GN) (i : Nat) : Prop :=
  ((gn N i).kind = 2 ∧ (gn N i).atom = 0 ∧ (gn N i).side = 0 ∧ (gn N i).src < i ∧ (∀ v, hv (gn N i).set v → hv (gn N (gn N i).src).set v) ∧ ∃ v, hv (gn N (gn N i).src).set v ∧ ¬ hv (gn N i).set v) ∨
  ((gn N i).kind = 3 ∧ (gn N i).atom = 0 ∧ (gn N i).src < i ∧ (gn N i).side < i ∧ (gn N i).src ≠ (gn N i).side ∧ (gn N i).set = (gn N (gn N i).src).set ∧ ∀ v, hv (gn N (gn N i).side).set v → hv (gn N i).set v)
theorem NodeOk.below {N : List GN} {i k : Nat} (h : NodeOk N i) (c : Ch N i k) : k < i := by
  rcases h with ⟨h1, _, _, h2, _⟩ | ⟨h1, _, h2, h3, _⟩ <;> rcases c with ⟨_, c2⟩ | ⟨c1, c2⟩ <;> omega
/-- What the forest keeps while it grows. -/
structure GInv (E : List (BitVec 32)) (L : Lt) (g : Gr) : Prop where
  srt : Srt L
  pl : ∀ x ∈ L, g.at_ x.1 < g.nodes.length
  ps : ∀ x ∈ L, (gn g.nodes (g.at_ x.1)).set = x.2
  inj : ∀ x ∈ L, ∀ y ∈ L, g.at_ x.1 = g.at_ y.1 → x.1 = y.1
  len : E.length ≤ g.nodes.length
  leaf : ∀ i, i < E.length → gn g.nodes i = ⟨1, i, ed E i, 0, 0⟩
  node : ∀ i, E.length ≤ i → i < g.nodes.length → NodeOk g.nodes i
  free : ∀ x ∈ L, ∀ i, i < g.nodes.length → ¬ Ch g.nodes i (g.at_ x.1)
  par : ∀ k, k < g.nodes.length → (∃ x ∈ L, g.at_ x.1 = k) ∨ ∃ i, i < g.nodes.length ∧ Ch g.nodes i k
  uniq : ∀ i j k, i < g.nodes.length → j < g.nodes.length → Ch g.nodes i k → Ch g.nodes j k → i = j
  stay : ∀ v, inX L v → ∀ i k, i < g.nodes.length → Ch g.nodes i k → hv (gn g.nodes k).set v → hv (gn g.nodes i).set v
  once : ∀ v i k j m, i < g.nodes.length → j < g.nodes.length → Ch g.nodes i k → Ch g.nodes j m → hv (gn g.nodes k).set v → ¬ hv (gn g.nodes i).set v → hv (gn g.nodes m).set v → ¬ hv (gn g.nodes j).set v → k = m
theorem ch_old {N : List GN} {m : GN} {i k : Nat} (h : i < N.length) : Ch (N ++ [m]) i k ↔ Ch N i k := by
  unfold Ch; rw [gn_old h]
theorem ch_leaf {E : List (BitVec 32)} {i k : Nat} (h : i < E.length) : ¬ Ch (leafG E) i k := by
  unfold Ch; rw [leafG_at h]; simp
theorem GInv.chlt {E : List (BitVec 32)} {L : Lt} {g : Gr} (h : GInv E L g) {i k : Nat} (hi : i < g.nodes.length) (c : Ch g.nodes i k) : k < i := by
  rcases Nat.lt_or_ge i E.length with d | d
  · unfold Ch at c; rw [h.leaf i d] at c; simp at c
  · exact (h.node i d hi).below c
theorem ginv_begin (E : List (BitVec 32)) : GInv E (beginE E) ⟨leafG E, id⟩ := by
  have hl := leafG_length E
  refine ⟨srt_begin E, fun x hx => ?_, fun x hx => ?_, fun x _ y _ h => h, Nat.le_of_eq hl.symm, fun i hi => leafG_at hi, fun i h1 h2 => ?_, fun x hx i hi c => ?_, fun k hk => ?_, fun i j k hi hj c d => ?_, fun v _ i k hi c => ?_, fun v i k j m hi hj c => ?_⟩
  · have := (mem_begin.1 hx).1; show id x.1 < _; simp only [id]; omega
  · obtain ⟨h1, h2⟩ := mem_begin.1 hx
    show (gn (leafG E) x.1).set = x.2
    rw [leafG_at h1, h2]
  · exact absurd h2 (by show ¬ i < (leafG E).length; omega)
  · exact ch_leaf (by rw [← hl]; exact hi) c
  · exact .inl ⟨(k, ed E k), mem_begin.2 ⟨by rw [← hl]; exact hk, rfl⟩, rfl⟩
  · exact absurd c (ch_leaf (by rw [← hl]; exact hi))
  · exact absurd c (ch_leaf (by rw [← hl]; exact hi))
  · exact absurd c (ch_leaf (by rw [← hl]; exact hi))
/-- A node is added over some of the present ones. -/
theorem GInv.grow {E : List (BitVec 32)} {L M : Lt} {g : Gr} (h : GInv E L g) (m : GN) (e : Nat) (hM : Srt M)
    (h1 : ∀ y ∈ M, y.1 ≠ e → ∃ x ∈ L, x = y ∧ ¬ Ch (g.nodes ++ [m]) g.nodes.length (g.at_ x.1))
    (h2 : ∃ y ∈ M, y.1 = e) (h2s : ∀ y ∈ M, y.1 = e → y.2 = m.set)
    (h3 : ∀ k, Ch (g.nodes ++ [m]) g.nodes.length k → ∃ x ∈ L, g.at_ x.1 = k)
    (h4 : ∀ x ∈ L, (∃ y ∈ M, y.1 ≠ e ∧ x = y) ∨ Ch (g.nodes ++ [m]) g.nodes.length (g.at_ x.1))
    (h5 : NodeOk (g.nodes ++ [m]) g.nodes.length)
    (h6 : ∀ v, inX M v → inX L v)
    (h7 : ∀ v, inX M v → ∀ k, Ch (g.nodes ++ [m]) g.nodes.length k → hv (gn g.nodes k).set v → hv m.set v)
    (h8 : ∀ v k l, Ch (g.nodes ++ [m]) g.nodes.length k → Ch (g.nodes ++ [m]) g.nodes.length l → hv (gn g.nodes k).set v → ¬ hv m.set v → hv (gn g.nodes l).set v → ¬ hv m.set v → k = l) :
    GInv E M ⟨g.nodes ++ [m], upN g.at_ e g.nodes.length⟩ := by
  have hn : (g.nodes ++ [m]).length = g.nodes.length + 1 := by simp
  have split : ∀ {i}, i < (g.nodes ++ [m]).length → i < g.nodes.length ∨ i = g.nodes.length := fun hi => by omega
  have old : ∀ y ∈ M, y.1 ≠ e → y ∈ L ∧ upN g.at_ e g.nodes.length y.1 = g.at_ y.1 ∧ ¬ Ch (g.nodes ++ [m]) g.nodes.length (g.at_ y.1) := fun y hy hne => by
    obtain ⟨x, hx, rfl, q⟩ := h1 y hy hne
    exact ⟨hx, upN_ne _ _ hne, q⟩
  have klt : ∀ {i k}, i < (g.nodes ++ [m]).length → Ch (g.nodes ++ [m]) i k → k < g.nodes.length := fun hi c => by
    rcases split hi with d | rfl
    · exact Nat.lt_trans (h.chlt d ((ch_old d).1 c)) d
    · obtain ⟨x, hx, rfl⟩ := h3 _ c; exact h.pl x hx
  refine ⟨hM, fun y hy => ?_, fun y hy => ?_, fun y hy z hz q => ?_, by have := h.len; show _ ≤ (g.nodes ++ [m]).length; omega, fun i hi => ?_, fun i hi hi2 => ?_, fun y hy i hi c => ?_, fun k hk => ?_, fun i j k hi hj c d => ?_, fun v hv' i k hi c hk => ?_, fun v i k j l hi hj c d a1 a2 a3 a4 => ?_⟩
  · show upN _ _ _ _ < (g.nodes ++ [m]).length
    by_cases d : y.1 = e
    · rw [d, upN_eq]; omega
    · obtain ⟨q1, q2, _⟩ := old y hy d
      rw [q2]; have := h.pl y q1; omega
  · show (gn (g.nodes ++ [m]) (upN _ _ _ _)).set = y.2
    by_cases d : y.1 = e
    · rw [d, upN_eq, gn_new]; exact (h2s y hy d).symm
    · obtain ⟨q1, q2, _⟩ := old y hy d
      rw [q2, gn_old (h.pl y q1)]; exact h.ps y q1
  · have q' : upN g.at_ e g.nodes.length y.1 = upN g.at_ e g.nodes.length z.1 := q
    by_cases d : y.1 = e <;> by_cases d' : z.1 = e
    · omega
    · obtain ⟨q1, q2, _⟩ := old z hz d'
      rw [d, upN_eq, q2] at q'
      have := h.pl z q1; omega
    · obtain ⟨q1, q2, _⟩ := old y hy d
      rw [d', upN_eq, q2] at q'
      have := h.pl y q1; omega
    · obtain ⟨q1, q2, _⟩ := old y hy d
      obtain ⟨r1, r2, _⟩ := old z hz d'
      rw [q2, r2] at q'
      exact h.inj y q1 z r1 q'
  · show gn (g.nodes ++ [m]) i = _
    rw [gn_old (by have := h.len; omega)]; exact h.leaf i hi
  · show NodeOk (g.nodes ++ [m]) i
    rcases split hi2 with d | rfl
    · have q := h.node i hi d
      unfold NodeOk at q ⊢
      rw [gn_old d]
      rcases q with ⟨q1, q2, q3, q4, q5⟩ | ⟨q1, q2, q3, q4, q5⟩
      · rw [gn_old (Nat.lt_trans q4 d)]; exact .inl ⟨q1, q2, q3, q4, q5⟩
      · rw [gn_old (Nat.lt_trans q3 d), gn_old (Nat.lt_trans q4 d)]; exact .inr ⟨q1, q2, q3, q4, q5⟩
    · exact h5
  · have c' : Ch (g.nodes ++ [m]) i (upN g.at_ e g.nodes.length y.1) := c
    by_cases d : y.1 = e
    · rw [d, upN_eq] at c'
      exact Nat.lt_irrefl _ (klt hi c')
    · obtain ⟨q1, q2, q3⟩ := old y hy d
      rw [q2] at c'
      rcases split hi with b | rfl
      · exact h.free y q1 i b ((ch_old b).1 c')
      · exact q3 c'
  · show (∃ x ∈ M, upN _ _ _ _ = k) ∨ ∃ i, i < (g.nodes ++ [m]).length ∧ Ch (g.nodes ++ [m]) i k
    rcases split hk with d | rfl
    · rcases h.par k d with ⟨x, hx, rfl⟩ | ⟨i, hi, c⟩
      · rcases h4 x hx with ⟨y, hy, hne, rfl⟩ | c
        · exact .inl ⟨x, hy, upN_ne _ _ hne⟩
        · exact .inr ⟨_, by omega, c⟩
      · exact .inr ⟨i, by omega, (ch_old hi).2 c⟩
    · obtain ⟨y, hy, rfl⟩ := h2
      exact .inl ⟨y, hy, upN_eq _ _ _⟩
  · have c' : Ch (g.nodes ++ [m]) i k := c
    have d' : Ch (g.nodes ++ [m]) j k := d
    rcases split hi with a | rfl <;> rcases split hj with b | rfl
    · exact h.uniq i j k a b ((ch_old a).1 c') ((ch_old b).1 d')
    · obtain ⟨x, hx, rfl⟩ := h3 _ d'
      exact absurd ((ch_old a).1 c') (h.free x hx i a)
    · obtain ⟨x, hx, rfl⟩ := h3 _ c'
      exact absurd ((ch_old b).1 d') (h.free x hx j b)
    · rfl
  · have c' : Ch (g.nodes ++ [m]) i k := c
    have hk' : hv (gn (g.nodes ++ [m]) k).set v := hk
    show hv (gn (g.nodes ++ [m]) i).set v
    rw [gn_old (klt hi c')] at hk'
    rcases split hi with a | rfl
    · rw [gn_old a]; exact h.stay v (h6 v hv') i k a ((ch_old a).1 c') hk'
    · rw [gn_new]; exact h7 v hv' k c' hk'
  · have c' : Ch (g.nodes ++ [m]) i k := c
    have d' : Ch (g.nodes ++ [m]) j l := d
    have a1' : hv (gn (g.nodes ++ [m]) k).set v := a1
    have a2' : ¬ hv (gn (g.nodes ++ [m]) i).set v := a2
    have a3' : hv (gn (g.nodes ++ [m]) l).set v := a3
    have a4' : ¬ hv (gn (g.nodes ++ [m]) j).set v := a4
    rw [gn_old (klt hi c')] at a1'
    rw [gn_old (klt hj d')] at a3'
    have inL : ∀ {q}, Ch (g.nodes ++ [m]) g.nodes.length q → hv (gn g.nodes q).set v → inX L v := fun {q} cq hq => by
      obtain ⟨x, hx, rfl⟩ := h3 _ cq
      rw [h.ps x hx] at hq
      exact ⟨x, hx, hq⟩
    rcases split hi with a | rfl <;> rcases split hj with b | rfl
    · rw [gn_old a] at a2'
      rw [gn_old b] at a4'
      exact h.once v i k j l a b ((ch_old a).1 c') ((ch_old b).1 d') a1' a2' a3' a4'
    · rw [gn_old a] at a2'
      exact absurd (h.stay v (inL d' a3') i k a ((ch_old a).1 c') a1') a2'
    · rw [gn_old b] at a4'
      exact absurd (h.stay v (inL c' a1') j l b ((ch_old b).1 d') a3') a4'
    · rw [gn_new] at a2'
      exact h8 v k l c' d' a1' a2' a3' a2'
theorem GInv.step {E : List (BitVec 32)} {L : Lt} {g : Gr} {keep : BitVec 32} {s : Stp} (h : GInv E L g) (hs : IsStp L keep s) : GInv E (makeE L s) (stepG L g s) := by
  rcases hs.cases h.srt with ⟨x, hx, hc, rfl⟩ | ⟨x, hx, y, hy, k, hne, hk, hsub, rfl⟩
  · have hm : nodeG L g.at_ ⟨1, x.1, 0, cutE L keep x⟩ = ⟨2, 0, x.2 &&& ~~~cutE L keep x, g.at_ x.1, 0⟩ := by
      unfold nodeG
      rw [if_pos rfl]
      show GN.mk 2 0 (setAt L x.1 &&& _) (g.at_ x.1) 0 = _
      rw [setAt_eq h.srt hx]
    have hch : ∀ k, Ch (g.nodes ++ [nodeG L g.at_ ⟨1, x.1, 0, cutE L keep x⟩]) g.nodes.length k ↔ k = g.at_ x.1 := fun k => by
      unfold Ch; rw [gn_new, hm]; simp [eq_comm]
    have hmem : ∀ y, y ∈ makeE L ⟨1, x.1, 0, cutE L keep x⟩ ↔ y = (x.1, x.2 &&& ~~~cutE L keep x) ∨ (y ∈ L ∧ y.1 ≠ x.1) := fun y => by
      rw [mem_make]
      constructor
      · rintro ⟨z, hz, ⟨a, _, rfl⟩ | ⟨a, rfl⟩⟩
        · have : z = x := h.srt.uniq hz hx (Int.ofNat.inj a)
          subst this; exact .inl rfl
        · exact .inr ⟨hz, fun e => a (congrArg Int.ofNat e)⟩
      · rintro (rfl | ⟨a, b⟩)
        · exact ⟨x, hx, .inl ⟨rfl, rfl, rfl⟩⟩
        · exact ⟨y, a, .inr ⟨fun e => b (Int.ofNat.inj e), rfl⟩⟩
    obtain ⟨u, hu⟩ := (ne_zero_iff _).1 hc
    have hu' := (hv_cut L keep x u).1 hu
    refine h.grow _ x.1 h.srt.make (fun y hy hne => ?_) ⟨_, (hmem _).2 (.inl rfl), rfl⟩ (fun y hy e => ?_) (fun k c => ⟨x, hx, ((hch k).1 c).symm⟩) (fun z hz => ?_) ?_ (fun v => ?_) (fun v hv' k c => ?_) (fun v k l c d _ _ _ _ => by rw [(hch k).1 c, (hch l).1 d])
    · rcases (hmem y).1 hy with rfl | ⟨a, b⟩
      · exact absurd rfl hne
      · exact ⟨y, a, rfl, fun c => hne (h.inj y a x hx ((hch _).1 c))⟩
    · rw [hm]
      rcases (hmem y).1 hy with rfl | ⟨a, b⟩
      · rfl
      · exact absurd e b
    · by_cases e : z.1 = x.1
      · exact .inr ((hch _).2 (by rw [e]))
      · exact .inl ⟨z, (hmem z).2 (.inr ⟨hz, e⟩), e, rfl⟩
    · left
      rw [gn_new, hm]
      refine ⟨rfl, rfl, rfl, h.pl x hx, fun v hv' => ?_, u, ?_, ?_⟩
      · show hv (gn (g.nodes ++ [_]) (g.at_ x.1)).set v
        rw [gn_old (h.pl x hx), h.ps x hx]; exact ((hv_andNot _ _ _).1 hv').1
      · show hv (gn (g.nodes ++ [_]) (g.at_ x.1)).set u
        rw [gn_old (h.pl x hx), h.ps x hx]; exact hu'.1
      · exact fun a => ((hv_andNot _ _ _).1 a).2 hu
    · rintro ⟨y, hy, hh⟩
      rcases (hmem y).1 hy with rfl | ⟨a, b⟩
      · exact ⟨x, hx, ((hv_andNot _ _ _).1 hh).1⟩
      · exact ⟨y, a, hh⟩
    · rw [(hch k).1 c, h.ps x hx, hm]
      intro hh
      refine (hv_andNot _ _ _).2 ⟨hh, fun a => ?_⟩
      obtain ⟨b1, b2, b3⟩ := (hv_cut L keep x v).1 a
      obtain ⟨y, hy, hyv⟩ := hv'
      rcases (hmem y).1 hy with rfl | ⟨c1, c2⟩
      · exact ((hv_andNot _ _ _).1 hyv).2 a
      · exact b3 y c1 c2 hyv
  · have hm : nodeG L g.at_ ⟨k, x.1, y.1, 0#32⟩ = ⟨3, 0, y.2, g.at_ y.1, g.at_ x.1⟩ := by
      unfold nodeG
      rw [if_neg hk]
      show GN.mk 3 0 (setAt L y.1) (g.at_ y.1) (g.at_ x.1) = _
      rw [setAt_eq h.srt hy]
    have hat : atG ⟨k, x.1, y.1, 0#32⟩ = y.1 := by unfold atG; rw [if_neg hk]; rfl
    have hch : ∀ j, Ch (g.nodes ++ [nodeG L g.at_ ⟨k, x.1, y.1, 0#32⟩]) g.nodes.length j ↔ j = g.at_ y.1 ∨ j = g.at_ x.1 := fun j => by
      unfold Ch; rw [gn_new, hm]; simp [eq_comm]
    have hmem : ∀ z, z ∈ makeE L ⟨k, x.1, y.1, 0#32⟩ ↔ z ∈ L ∧ z.1 ≠ x.1 := fun z => by
      rw [mem_make]
      constructor
      · rintro ⟨w, hw, ⟨_, a, _⟩ | ⟨a, rfl⟩⟩
        · exact absurd a hk
        · exact ⟨hw, fun e => a (congrArg Int.ofNat e)⟩
      · rintro ⟨a, b⟩
        exact ⟨z, a, .inr ⟨fun e => b (Int.ofNat.inj e), rfl⟩⟩
    unfold stepG
    rw [hat]
    have hpn : g.at_ y.1 ≠ g.at_ x.1 := fun e => hne (h.inj y hy x hx e).symm
    refine h.grow _ y.1 h.srt.make (fun z hz hz2 => ?_) ⟨y, (hmem y).2 ⟨hy, Ne.symm hne⟩, rfl⟩ (fun z hz e => ?_) (fun j c => ?_) (fun z hz => ?_) ?_ (fun v => ?_) (fun v hv' j c => ?_) (fun v j l c d a1 a2 a3 a4 => ?_)
    · obtain ⟨a, b⟩ := (hmem z).1 hz
      refine ⟨z, a, rfl, fun c => ?_⟩
      rcases (hch _).1 c with e | e
      · exact hz2 (h.inj z a y hy e)
      · exact b (h.inj z a x hx e)
    · obtain ⟨a, b⟩ := (hmem z).1 hz
      rw [hm, h.srt.uniq a hy e]
    · rcases (hch _).1 c with e | e
      · exact ⟨y, hy, e.symm⟩
      · exact ⟨x, hx, e.symm⟩
    · by_cases e : z.1 = x.1
      · exact .inr ((hch _).2 (.inr (by rw [e])))
      · by_cases e2 : z.1 = y.1
        · exact .inr ((hch _).2 (.inl (by rw [e2])))
        · exact .inl ⟨z, (hmem z).2 ⟨hz, e⟩, e2, rfl⟩
    · right
      rw [gn_new, hm]
      refine ⟨rfl, rfl, h.pl y hy, h.pl x hx, hpn, ?_, fun v hh => ?_⟩
      · show y.2 = (gn (g.nodes ++ [_]) (g.at_ y.1)).set
        rw [gn_old (h.pl y hy), h.ps y hy]
      · have hh' : hv (gn (g.nodes ++ [_]) (g.at_ x.1)).set v := hh
        rw [gn_old (h.pl x hx), h.ps x hx] at hh'
        exact hsub v hh'
    · rintro ⟨z, hz, hh⟩
      exact ⟨z, ((hmem z).1 hz).1, hh⟩
    · rw [hm]
      rcases (hch _).1 c with rfl | rfl
      · rw [h.ps y hy]; exact fun a => a
      · rw [h.ps x hx]; exact hsub v
    · rw [hm] at a2
      exfalso
      rcases (hch _).1 c with rfl | rfl
      · rw [h.ps y hy] at a1; exact a2 a1
      · rw [h.ps x hx] at a1; exact a2 (hsub v a1)
theorem GInv.run {E : List (BitVec 32)} {keep : BitVec 32} {L M : Lt} {ss : List Stp} (r : Rch keep L ss M) {g : Gr} (h : GInv E L g) : GInv E M (growG L g ss) := by
  induction r generalizing g with
  | nil => exact h
  | cons hs _ ih => exact ih (h.step hs)
/-- The edges that are left are numbered anew. -/
theorem GInv.renum {E : List (BitVec 32)} {L : Lt} {g : Gr} (h : GInv E L g) (q : Nat → Nat) (hq : ∀ i (hi : i < L.length), q i = g.at_ L[i].1) : GInv E (beginE (setsL L)) ⟨g.nodes, q⟩ := by
  have hl : (setsL L).length = L.length := by simp [setsL]
  have back : ∀ x ∈ beginE (setsL L), ∃ hi : x.1 < L.length, L[x.1].2 = x.2 ∧ q x.1 = g.at_ L[x.1].1 := fun x hx => by
    obtain ⟨h1, h2⟩ := mem_begin.1 hx
    have hi : x.1 < L.length := by omega
    exact ⟨hi, by rw [h2, ed_sets L x.1 hi], hq _ hi⟩
  refine ⟨srt_begin _, fun x hx => ?_, fun x hx => ?_, fun x hx y hy e => ?_, h.len, h.leaf, h.node, fun x hx i hi c => ?_, fun k hk => ?_, h.uniq, fun v hv' => ?_, h.once⟩
  · obtain ⟨hi, h1, h2⟩ := back x hx
    show q x.1 < _
    rw [h2]; exact h.pl _ (List.getElem_mem hi)
  · obtain ⟨hi, h1, h2⟩ := back x hx
    show (gn _ (q x.1)).set = _
    rw [h2, h.ps _ (List.getElem_mem hi), h1]
  · obtain ⟨hi, h1, h2⟩ := back x hx
    obtain ⟨hj, k1, k2⟩ := back y hy
    have e' : q x.1 = q y.1 := e
    rw [h2, k2] at e'
    exact srt_idx h.srt hi hj (h.srt.uniq (List.getElem_mem hi) (List.getElem_mem hj) (h.inj _ (List.getElem_mem hi) _ (List.getElem_mem hj) e'))
  · obtain ⟨hj, h1, h2⟩ := back x hx
    have c' : Ch g.nodes i (q x.1) := c
    rw [h2] at c'
    exact h.free _ (List.getElem_mem hj) i hi c'
  · rcases h.par k hk with ⟨x, hx, e⟩ | c
    · obtain ⟨j, hj, rfl⟩ := List.getElem_of_mem hx
      exact .inl ⟨(j, L[j].2), mem_begin.2 ⟨by show j < _; omega, by show _ = ed _ j; rw [ed_sets L j hj]⟩, by show q j = k; rw [hq j hj, e]⟩
    · exact .inr c
  · refine h.stay v ?_
    obtain ⟨x, hx, hh⟩ := hv'
    obtain ⟨hi, h1, _⟩ := back x hx
    exact ⟨L[x.1], List.getElem_mem hi, by rw [h1]; exact hh⟩
end Go.Proofs.YtbgbjodehbcgiaaGreatDoor
