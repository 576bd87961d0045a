/- Several texts in one: ConnLaw PGrow ReplLaw PFit PRun OrderLaw PTree PCount. -/
import Derived.Test.YtdemmjofggemhaaDoorBG
import Derived.Test.YtdemmjofggemhaaDoorBE
import Derived.Test.YtdemmjofggemhaaDoorBD
import Derived.Test.YtdemmjofggemhaaDoorPDefs
import Derived.Test.YtdemmjofggemhaaDoorBB
/- The plain law of the first phase: the removal that keeps the head's vertices ends with sets of the head alone just if the extended graph has a join tree. No program in sight. -/
namespace Go.Proofs.YtdemmjofggemhaaDoor

theorem Rch.trans {keep : BitVec 32} {L M N : Lt} {ss tt : List Stp} (r : Rch keep L ss M) (q : Rch keep M tt N) : Rch keep L (ss ++ tt) N := by
  induction r with
  | nil => exact q
  | cons h _ ih => exact .cons h (ih q)
end Go.Proofs.YtdemmjofggemhaaDoor

/- The plain law of a plan's growth: a removal's steps as nodes of a forest. No program in sight. -/
namespace Go.Proofs.YtdemmjofggemhaaDoor

/-- A node of the forest: kind 1 a leaf, 2 a trim, 3 a meet. -/
structure GN where
  kind : Nat
  atom : Nat
  set : BitVec 32
  src : Nat
  side : Nat
deriving DecidableEq
def gn (N : List GN) (i : Nat) : GN := N.getD i ⟨0, 0, 0#32, 0, 0⟩
theorem gn_eq (N : List GN) (i : Nat) (h : i < N.length) : N[i] = gn N i := by simp [gn, h]
theorem gn_old {N : List GN} {m : GN} {i : Nat} (h : i < N.length) : gn (N ++ [m]) i = gn N i := by
  simp [gn, List.getElem?_append_left h]
theorem gn_new (N : List GN) (m : GN) : gn (N ++ [m]) N.length = m := by simp [gn]
/-- Is k right below i? -/
def Ch (N : List GN) (i k : Nat) : Prop := ((gn N i).kind = 2 ∨ (gn N i).kind = 3) ∧ (gn N i).src = k ∨ (gn N i).kind = 3 ∧ (gn N i).side = k
def setAt (L : Lt) (e : Nat) : BitVec 32 := ((L.find? fun x => x.1 == e).map Prod.snd).getD 0#32
theorem setAt_eq {L : Lt} (hs : Srt L) {x : Nat × BitVec 32} (hx : x ∈ L) : setAt L x.1 = x.2 := by
  unfold setAt
  cases h : L.find? fun y => y.1 == x.1 with
  | none =>
    have := List.find?_eq_none.1 h x hx
    simp at this
  | some y =>
    have h1 := List.mem_of_find?_eq_some h
    have h2 := List.find?_some h
    have : y = x := hs.uniq h1 hx (by simpa using h2)
    rw [this]; rfl
def upN (p : Nat → Nat) (e k : Nat) : Nat → Nat := fun i => if i = e then k else p i
theorem upN_eq (p : Nat → Nat) (e k : Nat) : upN p e k e = k := by simp [upN]
theorem upN_ne (p : Nat → Nat) {e i : Nat} (k : Nat) (h : i ≠ e) : upN p e k i = p i := by simp [upN, h]
/-- The node that a step adds. -/
def nodeG (L : Lt) (p : Nat → Nat) (s : Stp) : GN :=
  if s.kind = 1 then ⟨2, 0, setAt L s.edge.toNat &&& ~~~s.cut, p s.edge.toNat, 0⟩ else ⟨3, 0, setAt L s.into.toNat, p s.into.toNat, p s.edge.toNat⟩
def atG (s : Stp) : Nat := if s.kind = 1 then s.edge.toNat else s.into.toNat
structure Gr where
  nodes : List GN
  at_ : Nat → Nat
def stepG (L : Lt) (g : Gr) (s : Stp) : Gr := ⟨g.nodes ++ [nodeG L g.at_ s], upN g.at_ (atG s) g.nodes.length⟩
/-- All steps, one behind another. -/
def growG : Lt → Gr → List Stp → Gr
  | _, g, [] => g
  | L, g, s :: ss => growG (makeE L s) (stepG L g s) ss
def leafG (E : List (BitVec 32)) : List GN := (List.range E.length).map fun i => ⟨1, i, ed E i, 0, 0⟩
theorem leafG_length (E : List (BitVec 32)) : (leafG E).length = E.length := by simp [leafG]
theorem leafG_at {E : List (BitVec 32)} {i : Nat} (h : i < E.length) : gn (leafG E) i = ⟨1, i, ed E i, 0, 0⟩ := by
  simp [gn, leafG, h]
def NodeOk (N : List GN) (i : Nat) : Prop :=
  ((gn N i).kind = 2 ∧ (gn N i).atom = 0 ∧ (gn N i).side = 0 ∧ (gn N i).src < i ∧ (∀ v, hv (gn N i).set v → hv (gn N (gn N i).src).set v) ∧ ∃ v, hv (gn N (gn N i).src).set v ∧ ¬ hv (gn N i).set v) ∨
  ((gn N i).kind = 3 ∧ (gn N i).atom = 0 ∧ (gn N i).src < i ∧ (gn N i).side < i ∧ (gn N i).src ≠ (gn N i).side ∧ (gn N i).set = (gn N (gn N i).src).set ∧ ∀ v, hv (gn N (gn N i).side).set v → hv (gn N i).set v)
theorem NodeOk.below {N : List GN} {i k : Nat} (h : NodeOk N i) (c : Ch N i k) : k < i := by
  rcases h with ⟨h1, _, _, h2, _⟩ | ⟨h1, _, h2, h3, _⟩ <;> rcases c with ⟨_, c2⟩ | ⟨c1, c2⟩ <;> omega
/-- What the forest keeps while it grows. -/
structure GInv (E : List (BitVec 32)) (L : Lt) (g : Gr) : Prop where
  srt : Srt L
  pl : ∀ x ∈ L, g.at_ x.1 < g.nodes.length
  ps : ∀ x ∈ L, (gn g.nodes (g.at_ x.1)).set = x.2
  inj : ∀ x ∈ L, ∀ y ∈ L, g.at_ x.1 = g.at_ y.1 → x.1 = y.1
  len : E.length ≤ g.nodes.length
  leaf : ∀ i, i < E.length → gn g.nodes i = ⟨1, i, ed E i, 0, 0⟩
  node : ∀ i, E.length ≤ i → i < g.nodes.length → NodeOk g.nodes i
  free : ∀ x ∈ L, ∀ i, i < g.nodes.length → ¬ Ch g.nodes i (g.at_ x.1)
  par : ∀ k, k < g.nodes.length → (∃ x ∈ L, g.at_ x.1 = k) ∨ ∃ i, i < g.nodes.length ∧ Ch g.nodes i k
  uniq : ∀ i j k, i < g.nodes.length → j < g.nodes.length → Ch g.nodes i k → Ch g.nodes j k → i = j
  stay : ∀ v, inX L v → ∀ i k, i < g.nodes.length → Ch g.nodes i k → hv (gn g.nodes k).set v → hv (gn g.nodes i).set v
  once : ∀ v i k j m, i < g.nodes.length → j < g.nodes.length → Ch g.nodes i k → Ch g.nodes j m → hv (gn g.nodes k).set v → ¬ hv (gn g.nodes i).set v → hv (gn g.nodes m).set v → ¬ hv (gn g.nodes j).set v → k = m
theorem ch_old {N : List GN} {m : GN} {i k : Nat} (h : i < N.length) : Ch (N ++ [m]) i k ↔ Ch N i k := by
  unfold Ch; rw [gn_old h]
theorem ch_leaf {E : List (BitVec 32)} {i k : Nat} (h : i < E.length) : ¬ Ch (leafG E) i k := by
  unfold Ch; rw [leafG_at h]; simp
theorem GInv.chlt {E : List (BitVec 32)} {L : Lt} {g : Gr} (h : GInv E L g) {i k : Nat} (hi : i < g.nodes.length) (c : Ch g.nodes i k) : k < i := by
  rcases Nat.lt_or_ge i E.length with d | d
  · unfold Ch at c; rw [h.leaf i d] at c; simp at c
  · exact (h.node i d hi).below c
theorem ginv_begin (E : List (BitVec 32)) : GInv E (beginE E) ⟨leafG E, id⟩ := by
  have hl := leafG_length E
  refine ⟨srt_begin E, fun x hx => ?_, fun x hx => ?_, fun x _ y _ h => h, Nat.le_of_eq hl.symm, fun i hi => leafG_at hi, fun i h1 h2 => ?_, fun x hx i hi c => ?_, fun k hk => ?_, fun i j k hi hj c d => ?_, fun v _ i k hi c => ?_, fun v i k j m hi hj c => ?_⟩
  · have := (mem_begin.1 hx).1; show id x.1 < _; simp only [id]; omega
  · obtain ⟨h1, h2⟩ := mem_begin.1 hx
    show (gn (leafG E) x.1).set = x.2
    rw [leafG_at h1, h2]
  · exact absurd h2 (by show ¬ i < (leafG E).length; omega)
  · exact ch_leaf (by rw [← hl]; exact hi) c
  · exact .inl ⟨(k, ed E k), mem_begin.2 ⟨by rw [← hl]; exact hk, rfl⟩, rfl⟩
  · exact absurd c (ch_leaf (by rw [← hl]; exact hi))
  · exact absurd c (ch_leaf (by rw [← hl]; exact hi))
  · exact absurd c (ch_leaf (by rw [← hl]; exact hi))
/-- A node is added over some of the present ones. -/
theorem GInv.grow {E : List (BitVec 32)} {L M : Lt} {g : Gr} (h : GInv E L g) (m : GN) (e : Nat) (hM : Srt M)
    (h1 : ∀ y ∈ M, y.1 ≠ e → ∃ x ∈ L, x = y ∧ ¬ Ch (g.nodes ++ [m]) g.nodes.length (g.at_ x.1))
    (h2 : ∃ y ∈ M, y.1 = e) (h2s : ∀ y ∈ M, y.1 = e → y.2 = m.set)
    (h3 : ∀ k, Ch (g.nodes ++ [m]) g.nodes.length k → ∃ x ∈ L, g.at_ x.1 = k)
    (h4 : ∀ x ∈ L, (∃ y ∈ M, y.1 ≠ e ∧ x = y) ∨ Ch (g.nodes ++ [m]) g.nodes.length (g.at_ x.1))
    (h5 : NodeOk (g.nodes ++ [m]) g.nodes.length)
    (h6 : ∀ v, inX M v → inX L v)
    (h7 : ∀ v, inX M v → ∀ k, Ch (g.nodes ++ [m]) g.nodes.length k → hv (gn g.nodes k).set v → hv m.set v)
    (h8 : ∀ v k l, Ch (g.nodes ++ [m]) g.nodes.length k → Ch (g.nodes ++ [m]) g.nodes.length l → hv (gn g.nodes k).set v → ¬ hv m.set v → hv (gn g.nodes l).set v → ¬ hv m.set v → k = l) :
    GInv E M ⟨g.nodes ++ [m], upN g.at_ e g.nodes.length⟩ := by
  have hn : (g.nodes ++ [m]).length = g.nodes.length + 1 := by simp
  have split : ∀ {i}, i < (g.nodes ++ [m]).length → i < g.nodes.length ∨ i = g.nodes.length := fun hi => by omega
  have old : ∀ y ∈ M, y.1 ≠ e → y ∈ L ∧ upN g.at_ e g.nodes.length y.1 = g.at_ y.1 ∧ ¬ Ch (g.nodes ++ [m]) g.nodes.length (g.at_ y.1) := fun y hy hne => by
    obtain ⟨x, hx, rfl, q⟩ := h1 y hy hne
    exact ⟨hx, upN_ne _ _ hne, q⟩
  have klt : ∀ {i k}, i < (g.nodes ++ [m]).length → Ch (g.nodes ++ [m]) i k → k < g.nodes.length := fun hi c => by
    rcases split hi with d | rfl
    · exact Nat.lt_trans (h.chlt d ((ch_old d).1 c)) d
    · obtain ⟨x, hx, rfl⟩ := h3 _ c; exact h.pl x hx
  refine ⟨hM, fun y hy => ?_, fun y hy => ?_, fun y hy z hz q => ?_, by have := h.len; show _ ≤ (g.nodes ++ [m]).length; omega, fun i hi => ?_, fun i hi hi2 => ?_, fun y hy i hi c => ?_, fun k hk => ?_, fun i j k hi hj c d => ?_, fun v hv' i k hi c hk => ?_, fun v i k j l hi hj c d a1 a2 a3 a4 => ?_⟩
  · show upN _ _ _ _ < (g.nodes ++ [m]).length
    by_cases d : y.1 = e
    · rw [d, upN_eq]; omega
    · obtain ⟨q1, q2, _⟩ := old y hy d
      rw [q2]; have := h.pl y q1; omega
  · show (gn (g.nodes ++ [m]) (upN _ _ _ _)).set = y.2
    by_cases d : y.1 = e
    · rw [d, upN_eq, gn_new]; exact (h2s y hy d).symm
    · obtain ⟨q1, q2, _⟩ := old y hy d
      rw [q2, gn_old (h.pl y q1)]; exact h.ps y q1
  · have q' : upN g.at_ e g.nodes.length y.1 = upN g.at_ e g.nodes.length z.1 := q
    by_cases d : y.1 = e <;> by_cases d' : z.1 = e
    · omega
    · obtain ⟨q1, q2, _⟩ := old z hz d'
      rw [d, upN_eq, q2] at q'
      have := h.pl z q1; omega
    · obtain ⟨q1, q2, _⟩ := old y hy d
      rw [d', upN_eq, q2] at q'
      have := h.pl y q1; omega
    · obtain ⟨q1, q2, _⟩ := old y hy d
      obtain ⟨r1, r2, _⟩ := old z hz d'
      rw [q2, r2] at q'
      exact h.inj y q1 z r1 q'
  · show gn (g.nodes ++ [m]) i = _
    rw [gn_old (by have := h.len; omega)]; exact h.leaf i hi
  · show NodeOk (g.nodes ++ [m]) i
    rcases split hi2 with d | rfl
    · have q := h.node i hi d
      unfold NodeOk at q ⊢
      rw [gn_old d]
      rcases q with ⟨q1, q2, q3, q4, q5⟩ | ⟨q1, q2, q3, q4, q5⟩
      · rw [gn_old (Nat.lt_trans q4 d)]; exact .inl ⟨q1, q2, q3, q4, q5⟩
      · rw [gn_old (Nat.lt_trans q3 d), gn_old (Nat.lt_trans q4 d)]; exact .inr ⟨q1, q2, q3, q4, q5⟩
    · exact h5
  · have c' : Ch (g.nodes ++ [m]) i (upN g.at_ e g.nodes.length y.1) := c
    by_cases d : y.1 = e
    · rw [d, upN_eq] at c'
      exact Nat.lt_irrefl _ (klt hi c')
    · obtain ⟨q1, q2, q3⟩ := old y hy d
      rw [q2] at c'
      rcases split hi with b | rfl
      · exact h.free y q1 i b ((ch_old b).1 c')
      · exact q3 c'
  · show (∃ x ∈ M, upN _ _ _ _ = k) ∨ ∃ i, i < (g.nodes ++ [m]).length ∧ Ch (g.nodes ++ [m]) i k
    rcases split hk with d | rfl
    · rcases h.par k d with ⟨x, hx, rfl⟩ | ⟨i, hi, c⟩
      · rcases h4 x hx with ⟨y, hy, hne, rfl⟩ | c
        · exact .inl ⟨x, hy, upN_ne _ _ hne⟩
        · exact .inr ⟨_, by omega, c⟩
      · exact .inr ⟨i, by omega, (ch_old hi).2 c⟩
    · obtain ⟨y, hy, rfl⟩ := h2
      exact .inl ⟨y, hy, upN_eq _ _ _⟩
  · have c' : Ch (g.nodes ++ [m]) i k := c
    have d' : Ch (g.nodes ++ [m]) j k := d
    rcases split hi with a | rfl <;> rcases split hj with b | rfl
    · exact h.uniq i j k a b ((ch_old a).1 c') ((ch_old b).1 d')
    · obtain ⟨x, hx, rfl⟩ := h3 _ d'
      exact absurd ((ch_old a).1 c') (h.free x hx i a)
    · obtain ⟨x, hx, rfl⟩ := h3 _ c'
      exact absurd ((ch_old b).1 d') (h.free x hx j b)
    · rfl
  · have c' : Ch (g.nodes ++ [m]) i k := c
    have hk' : hv (gn (g.nodes ++ [m]) k).set v := hk
    show hv (gn (g.nodes ++ [m]) i).set v
    rw [gn_old (klt hi c')] at hk'
    rcases split hi with a | rfl
    · rw [gn_old a]; exact h.stay v (h6 v hv') i k a ((ch_old a).1 c') hk'
    · rw [gn_new]; exact h7 v hv' k c' hk'
  · have c' : Ch (g.nodes ++ [m]) i k := c
    have d' : Ch (g.nodes ++ [m]) j l := d
    have a1' : hv (gn (g.nodes ++ [m]) k).set v := a1
    have a2' : ¬ hv (gn (g.nodes ++ [m]) i).set v := a2
    have a3' : hv (gn (g.nodes ++ [m]) l).set v := a3
    have a4' : ¬ hv (gn (g.nodes ++ [m]) j).set v := a4
    rw [gn_old (klt hi c')] at a1'
    rw [gn_old (klt hj d')] at a3'
    have inL : ∀ {q}, Ch (g.nodes ++ [m]) g.nodes.length q → hv (gn g.nodes q).set v → inX L v := fun {q} cq hq => by
      obtain ⟨x, hx, rfl⟩ := h3 _ cq
      rw [h.ps x hx] at hq
      exact ⟨x, hx, hq⟩
    rcases split hi with a | rfl <;> rcases split hj with b | rfl
    · rw [gn_old a] at a2'
      rw [gn_old b] at a4'
      exact h.once v i k j l a b ((ch_old a).1 c') ((ch_old b).1 d') a1' a2' a3' a4'
    · rw [gn_old a] at a2'
      exact absurd (h.stay v (inL d' a3') i k a ((ch_old a).1 c') a1') a2'
    · rw [gn_old b] at a4'
      exact absurd (h.stay v (inL c' a1') j l b ((ch_old b).1 d') a3') a4'
    · rw [gn_new] at a2'
      exact h8 v k l c' d' a1' a2' a3' a2'
theorem GInv.step {E : List (BitVec 32)} {L : Lt} {g : Gr} {keep : BitVec 32} {s : Stp} (h : GInv E L g) (hs : IsStp L keep s) : GInv E (makeE L s) (stepG L g s) := by
  rcases hs.cases h.srt with ⟨x, hx, hc, rfl⟩ | ⟨x, hx, y, hy, k, hne, hk, hsub, rfl⟩
  · have hm : nodeG L g.at_ ⟨1, x.1, 0, cutE L keep x⟩ = ⟨2, 0, x.2 &&& ~~~cutE L keep x, g.at_ x.1, 0⟩ := by
      unfold nodeG
      rw [if_pos rfl]
      show GN.mk 2 0 (setAt L x.1 &&& _) (g.at_ x.1) 0 = _
      rw [setAt_eq h.srt hx]
    have hch : ∀ k, Ch (g.nodes ++ [nodeG L g.at_ ⟨1, x.1, 0, cutE L keep x⟩]) g.nodes.length k ↔ k = g.at_ x.1 := fun k => by
      unfold Ch; rw [gn_new, hm]; simp [eq_comm]
    have hmem : ∀ y, y ∈ makeE L ⟨1, x.1, 0, cutE L keep x⟩ ↔ y = (x.1, x.2 &&& ~~~cutE L keep x) ∨ (y ∈ L ∧ y.1 ≠ x.1) := fun y => by
      rw [mem_make]
      constructor
      · rintro ⟨z, hz, ⟨a, _, rfl⟩ | ⟨a, rfl⟩⟩
        · have : z = x := h.srt.uniq hz hx (Int.ofNat.inj a)
          subst this; exact .inl rfl
        · exact .inr ⟨hz, fun e => a (congrArg Int.ofNat e)⟩
      · rintro (rfl | ⟨a, b⟩)
        · exact ⟨x, hx, .inl ⟨rfl, rfl, rfl⟩⟩
        · exact ⟨y, a, .inr ⟨fun e => b (Int.ofNat.inj e), rfl⟩⟩
    obtain ⟨u, hu⟩ := (ne_zero_iff _).1 hc
    have hu' := (hv_cut L keep x u).1 hu
    refine h.grow _ x.1 h.srt.make (fun y hy hne => ?_) ⟨_, (hmem _).2 (.inl rfl), rfl⟩ (fun y hy e => ?_) (fun k c => ⟨x, hx, ((hch k).1 c).symm⟩) (fun z hz => ?_) ?_ (fun v => ?_) (fun v hv' k c => ?_) (fun v k l c d _ _ _ _ => by rw [(hch k).1 c, (hch l).1 d])
    · rcases (hmem y).1 hy with rfl | ⟨a, b⟩
      · exact absurd rfl hne
      · exact ⟨y, a, rfl, fun c => hne (h.inj y a x hx ((hch _).1 c))⟩
    · rw [hm]
      rcases (hmem y).1 hy with rfl | ⟨a, b⟩
      · rfl
      · exact absurd e b
    · by_cases e : z.1 = x.1
      · exact .inr ((hch _).2 (by rw [e]))
      · exact .inl ⟨z, (hmem z).2 (.inr ⟨hz, e⟩), e, rfl⟩
    · left
      rw [gn_new, hm]
      refine ⟨rfl, rfl, rfl, h.pl x hx, fun v hv' => ?_, u, ?_, ?_⟩
      · show hv (gn (g.nodes ++ [_]) (g.at_ x.1)).set v
        rw [gn_old (h.pl x hx), h.ps x hx]; exact ((hv_andNot _ _ _).1 hv').1
      · show hv (gn (g.nodes ++ [_]) (g.at_ x.1)).set u
        rw [gn_old (h.pl x hx), h.ps x hx]; exact hu'.1
      · exact fun a => ((hv_andNot _ _ _).1 a).2 hu
    · rintro ⟨y, hy, hh⟩
      rcases (hmem y).1 hy with rfl | ⟨a, b⟩
      · exact ⟨x, hx, ((hv_andNot _ _ _).1 hh).1⟩
      · exact ⟨y, a, hh⟩
    · rw [(hch k).1 c, h.ps x hx, hm]
      intro hh
      refine (hv_andNot _ _ _).2 ⟨hh, fun a => ?_⟩
      obtain ⟨b1, b2, b3⟩ := (hv_cut L keep x v).1 a
      obtain ⟨y, hy, hyv⟩ := hv'
      rcases (hmem y).1 hy with rfl | ⟨c1, c2⟩
      · exact ((hv_andNot _ _ _).1 hyv).2 a
      · exact b3 y c1 c2 hyv
  · have hm : nodeG L g.at_ ⟨k, x.1, y.1, 0#32⟩ = ⟨3, 0, y.2, g.at_ y.1, g.at_ x.1⟩ := by
      unfold nodeG
      rw [if_neg hk]
      show GN.mk 3 0 (setAt L y.1) (g.at_ y.1) (g.at_ x.1) = _
      rw [setAt_eq h.srt hy]
    have hat : atG ⟨k, x.1, y.1, 0#32⟩ = y.1 := by unfold atG; rw [if_neg hk]; rfl
    have hch : ∀ j, Ch (g.nodes ++ [nodeG L g.at_ ⟨k, x.1, y.1, 0#32⟩]) g.nodes.length j ↔ j = g.at_ y.1 ∨ j = g.at_ x.1 := fun j => by
      unfold Ch; rw [gn_new, hm]; simp [eq_comm]
    have hmem : ∀ z, z ∈ makeE L ⟨k, x.1, y.1, 0#32⟩ ↔ z ∈ L ∧ z.1 ≠ x.1 := fun z => by
      rw [mem_make]
      constructor
      · rintro ⟨w, hw, ⟨_, a, _⟩ | ⟨a, rfl⟩⟩
        · exact absurd a hk
        · exact ⟨hw, fun e => a (congrArg Int.ofNat e)⟩
      · rintro ⟨a, b⟩
        exact ⟨z, a, .inr ⟨fun e => b (Int.ofNat.inj e), rfl⟩⟩
    unfold stepG
    rw [hat]
    have hpn : g.at_ y.1 ≠ g.at_ x.1 := fun e => hne (h.inj y hy x hx e).symm
    refine h.grow _ y.1 h.srt.make (fun z hz hz2 => ?_) ⟨y, (hmem y).2 ⟨hy, Ne.symm hne⟩, rfl⟩ (fun z hz e => ?_) (fun j c => ?_) (fun z hz => ?_) ?_ (fun v => ?_) (fun v hv' j c => ?_) (fun v j l c d a1 a2 a3 a4 => ?_)
    · obtain ⟨a, b⟩ := (hmem z).1 hz
      refine ⟨z, a, rfl, fun c => ?_⟩
      rcases (hch _).1 c with e | e
      · exact hz2 (h.inj z a y hy e)
      · exact b (h.inj z a x hx e)
    · obtain ⟨a, b⟩ := (hmem z).1 hz
      rw [hm, h.srt.uniq a hy e]
    · rcases (hch _).1 c with e | e
      · exact ⟨y, hy, e.symm⟩
      · exact ⟨x, hx, e.symm⟩
    · by_cases e : z.1 = x.1
      · exact .inr ((hch _).2 (.inr (by rw [e])))
      · by_cases e2 : z.1 = y.1
        · exact .inr ((hch _).2 (.inl (by rw [e2])))
        · exact .inl ⟨z, (hmem z).2 ⟨hz, e⟩, e2, rfl⟩
    · right
      rw [gn_new, hm]
      refine ⟨rfl, rfl, h.pl y hy, h.pl x hx, hpn, ?_, fun v hh => ?_⟩
      · show y.2 = (gn (g.nodes ++ [_]) (g.at_ y.1)).set
        rw [gn_old (h.pl y hy), h.ps y hy]
      · have hh' : hv (gn (g.nodes ++ [_]) (g.at_ x.1)).set v := hh
        rw [gn_old (h.pl x hx), h.ps x hx] at hh'
        exact hsub v hh'
    · rintro ⟨z, hz, hh⟩
      exact ⟨z, ((hmem z).1 hz).1, hh⟩
    · rw [hm]
      rcases (hch _).1 c with rfl | rfl
      · rw [h.ps y hy]; exact fun a => a
      · rw [h.ps x hx]; exact hsub v
    · rw [hm] at a2
      exfalso
      rcases (hch _).1 c with rfl | rfl
      · rw [h.ps y hy] at a1; exact a2 a1
      · rw [h.ps x hx] at a1; exact a2 (hsub v a1)
theorem GInv.run {E : List (BitVec 32)} {keep : BitVec 32} {L M : Lt} {ss : List Stp} (r : Rch keep L ss M) {g : Gr} (h : GInv E L g) : GInv E M (growG L g ss) := by
  induction r generalizing g with
  | nil => exact h
  | cons hs _ ih => exact ih (h.step hs)
/-- The edges that are left are numbered anew. -/
theorem GInv.renum {E : List (BitVec 32)} {L : Lt} {g : Gr} (h : GInv E L g) (q : Nat → Nat) (hq : ∀ i (hi : i < L.length), q i = g.at_ L[i].1) : GInv E (beginE (setsL L)) ⟨g.nodes, q⟩ := by
  have hl : (setsL L).length = L.length := by simp [setsL]
  have back : ∀ x ∈ beginE (setsL L), ∃ hi : x.1 < L.length, L[x.1].2 = x.2 ∧ q x.1 = g.at_ L[x.1].1 := fun x hx => by
    obtain ⟨h1, h2⟩ := mem_begin.1 hx
    have hi : x.1 < L.length := by omega
    exact ⟨hi, by rw [h2, ed_sets L x.1 hi], hq _ hi⟩
  refine ⟨srt_begin _, fun x hx => ?_, fun x hx => ?_, fun x hx y hy e => ?_, h.len, h.leaf, h.node, fun x hx i hi c => ?_, fun k hk => ?_, h.uniq, fun v hv' => ?_, h.once⟩
  · obtain ⟨hi, h1, h2⟩ := back x hx
    show q x.1 < _
    rw [h2]; exact h.pl _ (List.getElem_mem hi)
  · obtain ⟨hi, h1, h2⟩ := back x hx
    show (gn _ (q x.1)).set = _
    rw [h2, h.ps _ (List.getElem_mem hi), h1]
  · obtain ⟨hi, h1, h2⟩ := back x hx
    obtain ⟨hj, k1, k2⟩ := back y hy
    have e' : q x.1 = q y.1 := e
    rw [h2, k2] at e'
    exact srt_idx h.srt hi hj (h.srt.uniq (List.getElem_mem hi) (List.getElem_mem hj) (h.inj _ (List.getElem_mem hi) _ (List.getElem_mem hj) e'))
  · obtain ⟨hj, h1, h2⟩ := back x hx
    have c' : Ch g.nodes i (q x.1) := c
    rw [h2] at c'
    exact h.free _ (List.getElem_mem hj) i hi c'
  · rcases h.par k hk with ⟨x, hx, e⟩ | c
    · obtain ⟨j, hj, rfl⟩ := List.getElem_of_mem hx
      exact .inl ⟨(j, L[j].2), mem_begin.2 ⟨by show j < _; omega, by show _ = ed _ j; rw [ed_sets L j hj]⟩, by show q j = k; rw [hq j hj, e]⟩
    · exact .inr c
  · refine h.stay v ?_
    obtain ⟨x, hx, hh⟩ := hv'
    obtain ⟨hi, h1, _⟩ := back x hx
    exact ⟨L[x.1], List.getElem_mem hi, by rw [h1]; exact hh⟩
end Go.Proofs.YtdemmjofggemhaaDoor

/- The plain law of steps that are made one after another, whatever they are: as far as they are steps. -/
namespace Go.Proofs.YtdemmjofggemhaaDoor

/-- What is there after the first k steps. -/
def mkTo (L : Lt) (ss : List Stp) : Nat → Lt
  | 0 => L
  | k + 1 => makeE (mkTo L ss k) (stp ss k)
def legalTo (keep : BitVec 32) (L : Lt) (ss : List Stp) (k : Nat) : Prop := ∀ i, i < k → stp ss i ∈ stepsE (mkTo L ss i) keep
theorem mkTo_len (L : Lt) (ss : List Stp) : ∀ k, (mkTo L ss k).length ≤ L.length
  | 0 => Nat.le_refl _
  | k + 1 => Nat.le_trans (make_len _ _) (mkTo_len L ss k)
theorem mkTo_srt {L : Lt} (h : Srt L) (ss : List Stp) : ∀ k, Srt (mkTo L ss k)
  | 0 => h
  | k + 1 => (mkTo_srt h ss k).make
theorem mkTo_congr {L : Lt} {ss tt : List Stp} : ∀ {k : Nat}, (∀ i, i < k → stp ss i = stp tt i) → mkTo L ss k = mkTo L tt k
  | 0, _ => rfl
  | k + 1, h => by
    show makeE (mkTo L ss k) (stp ss k) = makeE (mkTo L tt k) (stp tt k)
    rw [mkTo_congr (k := k) fun i hi => h i (by omega), h k (by omega)]
/-- What Replay answers. -/
def ReplIs (V : Int) (E : List (BitVec 32)) (keep : BitVec 32) (ss : List Stp) (L : Lt) (n code : Int) : Prop :=
  (validB V E = false ∧ L = [] ∧ n = 0 ∧ code = 140) ∨
  (validB V E = true ∧ code = 0 ∧ ∃ k : Nat, n = k ∧ k ≤ ss.length ∧ L = mkTo (beginE E) ss k ∧ legalTo keep (beginE E) ss k ∧ (k = ss.length ∨ stp ss k ∉ stepsE (mkTo (beginE E) ss k) keep))
end Go.Proofs.YtdemmjofggemhaaDoor

/- A plan's builder and the forest agree; the plan as the document makes it. No program in sight. -/
namespace Go.Proofs.YtdemmjofggemhaaDoor

def GN.p (m : GN) : PNd := ⟨m.kind, m.atom, lst m.set, m.src, m.side, -1, false⟩
structure Fit (L : Lt) (b : PB) (g : Gr) : Prop where
  nodes : b.nodes = g.nodes.map GN.p
  key : ∀ x ∈ L, x.1 < b.sets.length ∧ x.1 < b.pres.length
  set : ∀ x ∈ L, ed b.sets x.1 = x.2
  pres : ∀ x ∈ L, pz b.pres x.1 = (g.at_ x.1 : Nat)
def startPB (E : List (BitVec 32)) : PB := ⟨(leafG E).map GN.p, E, (List.range E.length).map Int.ofNat⟩
theorem pz_range {n i : Nat} (h : i < n) : pz ((List.range n).map Int.ofNat) i = i := by
  simp [pz, h]
theorem fit_begin (E : List (BitVec 32)) : Fit (beginE E) (startPB E) ⟨leafG E, id⟩ := by
  refine ⟨rfl, fun x hx => ?_, fun x hx => ?_, fun x hx => ?_⟩
  · have := (mem_begin.1 hx).1
    exact ⟨this, by show _ < ((List.range E.length).map Int.ofNat).length; simp; exact this⟩
  · exact (mem_begin.1 hx).2.symm
  · exact pz_range (mem_begin.1 hx).1
theorem ed_set_eq {S : List (BitVec 32)} {i : Nat} (h : i < S.length) (x : BitVec 32) : ed (S.set i x) i = x := by simp [ed, h]
theorem ed_set_ne {S : List (BitVec 32)} {i j : Nat} (h : i ≠ j) (x : BitVec 32) : ed (S.set i x) j = ed S j := by simp [ed, h]
theorem pz_set_eq {S : List Int} {i : Nat} (h : i < S.length) (x : Int) : pz (S.set i x) i = x := by simp [pz, h]
theorem pz_set_ne {S : List Int} {i j : Nat} (h : i ≠ j) (x : Int) : pz (S.set i x) j = pz S j := by simp [pz, h]
theorem Fit.step {L : Lt} {b : PB} {g : Gr} {keep : BitVec 32} {s : Stp} (hs : Srt L) (h : Fit L b g) (st : IsStp L keep s) : Fit (makeE L s) (stepPB b s) (stepG L g s) := by
  have hlen : b.nodes.length = g.nodes.length := by rw [h.nodes]; simp
  rcases st.cases hs with ⟨x, hx, hc, rfl⟩ | ⟨x, hx, y, hy, k, hne, hk, hsub, rfl⟩
  · have e1 : stepPB b ⟨1, x.1, 0, cutE L keep x⟩ = ⟨b.nodes ++ [⟨2, 0, lst (ed b.sets x.1 &&& ~~~cutE L keep x), pz b.pres x.1, 0, -1, false⟩], b.sets.set x.1 (ed b.sets x.1 &&& ~~~cutE L keep x), b.pres.set x.1 b.nodes.length⟩ := by
      unfold stepPB; rw [if_pos rfl]; rfl
    have e2 : stepG L g ⟨1, x.1, 0, cutE L keep x⟩ = ⟨g.nodes ++ [⟨2, 0, x.2 &&& ~~~cutE L keep x, g.at_ x.1, 0⟩], upN g.at_ x.1 g.nodes.length⟩ := by
      unfold stepG nodeG atG; rw [if_pos rfl, if_pos rfl]
      show Gr.mk (g.nodes ++ [⟨2, 0, setAt L x.1 &&& _, g.at_ x.1, 0⟩]) _ = _
      rw [setAt_eq hs hx]; rfl
    obtain ⟨k1, k2⟩ := h.key x hx
    have hmem : ∀ y ∈ makeE L ⟨1, x.1, 0, cutE L keep x⟩, y = (x.1, x.2 &&& ~~~cutE L keep x) ∨ (y ∈ L ∧ x.1 ≠ y.1) := fun y hy => by
      obtain ⟨z, hz, ⟨a, _, rfl⟩ | ⟨a, rfl⟩⟩ := mem_make.1 hy
      · have : z = x := hs.uniq hz hx (Int.ofNat.inj a)
        subst this; exact .inl rfl
      · exact .inr ⟨hz, fun e => a (by show (y.1 : Int) = x.1; omega)⟩
    rw [e1, e2, h.set x hx, h.pres x hx]
    refine ⟨?_, fun y hy => ?_, fun y hy => ?_, fun y hy => ?_⟩
    · show b.nodes ++ _ = (g.nodes ++ _).map GN.p
      rw [List.map_append, ← h.nodes]; rfl
    · show _ < (b.sets.set _ _).length ∧ _ < (b.pres.set _ _).length
      rw [List.length_set, List.length_set]
      rcases hmem y hy with rfl | ⟨a, _⟩
      · exact ⟨k1, k2⟩
      · exact h.key y a
    · show ed (b.sets.set _ _) _ = _
      rcases hmem y hy with rfl | ⟨a, c⟩
      · exact ed_set_eq k1 _
      · rw [ed_set_ne c]; exact h.set y a
    · show pz (b.pres.set _ _) _ = (upN _ _ _ _ : Nat)
      rcases hmem y hy with rfl | ⟨a, c⟩
      · rw [pz_set_eq k2, upN_eq, hlen]
      · rw [pz_set_ne c, upN_ne _ _ (Ne.symm c)]; exact h.pres y a
  · have e1 : stepPB b ⟨k, x.1, y.1, 0#32⟩ = ⟨b.nodes ++ [⟨3, 0, lst (ed b.sets y.1), pz b.pres y.1, pz b.pres x.1, -1, false⟩], b.sets, b.pres.set y.1 b.nodes.length⟩ := by
      unfold stepPB; rw [if_neg hk]; rfl
    have e2 : stepG L g ⟨k, x.1, y.1, 0#32⟩ = ⟨g.nodes ++ [⟨3, 0, y.2, g.at_ y.1, g.at_ x.1⟩], upN g.at_ y.1 g.nodes.length⟩ := by
      unfold stepG nodeG atG; rw [if_neg hk, if_neg hk]
      show Gr.mk (g.nodes ++ [⟨3, 0, setAt L y.1, g.at_ y.1, g.at_ x.1⟩]) _ = _
      rw [setAt_eq hs hy]; rfl
    obtain ⟨k1, k2⟩ := h.key y hy
    have hmem : ∀ z ∈ makeE L ⟨k, x.1, y.1, 0#32⟩, z ∈ L := fun z hz => by
      obtain ⟨w, hw, ⟨_, a, _⟩ | ⟨_, rfl⟩⟩ := mem_make.1 hz
      · exact absurd a hk
      · exact hw
    rw [e1, e2, h.set y hy, h.pres x hx, h.pres y hy]
    refine ⟨?_, fun z hz => ?_, fun z hz => h.set z (hmem z hz), fun z hz => ?_⟩
    · show b.nodes ++ _ = (g.nodes ++ _).map GN.p
      rw [List.map_append, ← h.nodes]; rfl
    · show _ ∧ _ < (b.pres.set _ _).length
      rw [List.length_set]; exact h.key z (hmem z hz)
    · show pz (b.pres.set _ _) _ = (upN _ _ _ _ : Nat)
      by_cases c : z.1 = y.1
      · rw [c, pz_set_eq k2, upN_eq, hlen]
      · rw [pz_set_ne (Ne.symm c), upN_ne _ _ c]; exact h.pres z (hmem z hz)
theorem Fit.run {keep : BitVec 32} {L M : Lt} {ss : List Stp} (r : Rch keep L ss M) (hs : Srt L) {b : PB} {g : Gr} (h : Fit L b g) : Fit M (ss.foldl stepPB b) (growG L g ss) := by
  induction r generalizing b g with
  | nil => exact h
  | cons st _ ih => exact ih hs.make (h.step hs st)
/-- The present nodes of the edges that are left, by their new numbers. -/
def at2 (L : Lt) (g : Gr) : Nat → Nat := fun i => g.at_ (lft L i).1
def pres2 (L : Lt) (P : List Int) : List Int := L.map fun x => pz P x.1
theorem fit_second {L : Lt} {b : PB} {g : Gr} (h : Fit L b g) : Fit (beginE (setsL L)) ⟨b.nodes, setsL L, pres2 L b.pres⟩ ⟨g.nodes, at2 L g⟩ := by
  have hl : (setsL L).length = L.length := by simp [setsL]
  refine ⟨h.nodes, fun x hx => ?_, fun x hx => ?_, fun x hx => ?_⟩
  · have := (mem_begin.1 hx).1
    exact ⟨this, by show _ < (L.map _).length; rw [List.length_map]; omega⟩
  · exact (mem_begin.1 hx).2.symm
  · have := (mem_begin.1 hx).1
    have hi : x.1 < L.length := by omega
    show pz (L.map _) x.1 = ((g.at_ (lft L x.1).1 : Nat) : Int)
    rw [← h.pres (lft L x.1) (by rw [← lft_eq L x.1 hi]; exact List.getElem_mem _)]
    simp [pz, hi, lft]
end Go.Proofs.YtdemmjofggemhaaDoor

/- A removal's steps, as far as some of them. No program in sight. -/
namespace Go.Proofs.YtdemmjofggemhaaDoor

theorem mkTo_cons (L : Lt) (s : Stp) (ss : List Stp) : ∀ n, mkTo L (s :: ss) (n + 1) = mkTo (makeE L s) ss n
  | 0 => rfl
  | n + 1 => by
    show makeE (mkTo L (s :: ss) (n + 1)) (stp (s :: ss) (n + 1)) = makeE (mkTo (makeE L s) ss n) (stp ss n)
    rw [mkTo_cons L s ss n]; rfl
theorem Rch.stp_at {keep : BitVec 32} {L M : Lt} {ss : List Stp} (r : Rch keep L ss M) : ∀ n, n < ss.length → IsStp (mkTo L ss n) keep (stp ss n) := by
  induction r with
  | nil => intro n hn; simp at hn
  | cons h _ ih =>
    intro n hn
    cases n with
    | zero => exact h
    | succ n =>
      rw [mkTo_cons]
      exact ih n (by simpa using hn)
theorem take_stp {ss : List Stp} {n : Nat} (h : n < ss.length) : ss.take (n + 1) = ss.take n ++ [stp ss n] := by
  rw [← stp_eq ss n h]; simp
theorem Rch.take {keep : BitVec 32} {L M : Lt} {ss : List Stp} (r : Rch keep L ss M) : ∀ n, n ≤ ss.length → Rch keep L (ss.take n) (mkTo L ss n)
  | 0, _ => .nil L
  | n + 1, hn => by
    rw [take_stp (by omega)]
    exact (r.take n (by omega)).snoc (r.stp_at n (by omega))
theorem stp_take {ss : List Stp} {n k : Nat} (h : k < n) : stp (ss.take n) k = stp ss k := by
  unfold stp
  simp only [List.getD_eq_getElem?_getD]
  rw [List.getElem?_take_of_lt h]
/-- What Replay tells of the first steps of a removal. -/
theorem repl_take {V : Int} {E : List (BitVec 32)} {keep : BitVec 32} {M L : Lt} {ss : List Stp} {m code : Int} {n : Nat} (r : Rch keep (beginE E) ss M) (hv : validB V E = true) (hn : n ≤ ss.length) (h : ReplIs V E keep (ss.take n) L m code) :
    L = mkTo (beginE E) ss n := by
  rcases h with ⟨c, _⟩ | ⟨_, _, k, _, hk, rfl, _, hend⟩
  · rw [hv] at c; cases c
  · have hl : (ss.take n).length = n := by rw [List.length_take]; omega
    rw [hl] at hk hend
    have e : ∀ j, j ≤ n → mkTo (beginE E) (ss.take n) j = mkTo (beginE E) ss j := fun j hj => mkTo_congr fun i hi => stp_take (by omega)
    rw [e k hk] at hend ⊢
    rcases hend with c | c
    · rw [c]
    · rcases Nat.lt_or_ge k n with d | d
      · rw [stp_take d] at c
        exact absurd ((mem_steps _ _ _).2 (r.stp_at k (by omega))) c
      · have : k = n := by omega
        rw [this]
theorem runE_len (E : List (BitVec 32)) (keep : BitVec 32) : (runE E keep).1.length ≤ 232 := runN_len _ _ _
theorem Fit.take {keep : BitVec 32} {L M : Lt} {ss : List Stp} (r : Rch keep L ss M) (hs : Srt L) {b : PB} {g : Gr} (h : Fit L b g) {n : Nat} (hn : n ≤ ss.length) : Fit (mkTo L ss n) ((ss.take n).foldl stepPB b) (growG L g (ss.take n)) := Fit.run (r.take n hn) hs h
theorem GInv.take {E : List (BitVec 32)} {keep : BitVec 32} {L M : Lt} {ss : List Stp} (r : Rch keep L ss M) {g : Gr} (h : GInv E L g) {n : Nat} (hn : n ≤ ss.length) : GInv E (mkTo L ss n) (growG L g (ss.take n)) := h.run (r.take n hn)
theorem stepPB_len (b : PB) (s : Stp) : (stepPB b s).nodes.length = b.nodes.length + 1 ∧ (stepPB b s).sets.length = b.sets.length ∧ (stepPB b s).pres.length = b.pres.length := by
  unfold stepPB; split <;> simp
theorem foldPB_len (ss : List Stp) : ∀ b : PB, (ss.foldl stepPB b).nodes.length = b.nodes.length + ss.length ∧ (ss.foldl stepPB b).sets.length = b.sets.length ∧ (ss.foldl stepPB b).pres.length = b.pres.length := by
  induction ss with
  | nil => intro b; simp
  | cons s ss ih =>
    intro b
    obtain ⟨h1, h2, h3⟩ := ih (stepPB b s)
    obtain ⟨k1, k2, k3⟩ := stepPB_len b s
    rw [List.foldl_cons]
    refine ⟨by rw [h1, k1, List.length_cons]; omega, by rw [h2, k2], by rw [h3, k3]⟩
end Go.Proofs.YtdemmjofggemhaaDoor

/- The list of a tree's edges, each behind its parent and right ahead of what hangs below it. No program in sight. -/
namespace Go.Proofs.YtdemmjofggemhaaDoor

/-- The fuel is enough. -/
def Deep (n : Nat) (d : Nat → Nat) (m : Nat) (a : Int) : Prop := (a = -1 ∧ n + 1 < m) ∨ (0 ≤ a ∧ a < n ∧ n - d a.toNat < m)
theorem Deep.child {n : Nat} {p : Nat → Int} {d : Nat → Nat} {m : Nat} {a : Int} (hd : ∀ i, i < n → 0 ≤ p i → d (p i).toNat < d i) (hlt : ∀ i, i < n → d i < n) (h : Deep n d (m + 1) a) {i : Nat} (hi : i < n) (hp : p i = a) : Deep n d m (i : Int) := by
  right
  rw [Int.toNat_natCast]
  have h1 := hlt i hi
  rcases h with ⟨e, h⟩ | ⟨e1, e2, h⟩
  · exact ⟨by omega, by omega, by omega⟩
  · have h2 := hd i hi (by omega)
    rw [hp] at h2
    exact ⟨by omega, by omega, by omega⟩
theorem Deep.pos {n : Nat} {d : Nat → Nat} {a : Int} (h : Deep n d 0 a) : False := by
  rcases h with ⟨_, h⟩ | ⟨_, _, h⟩ <;> omega
/-! ### Each behind the one ahead of it, or behind one above that -/
end Go.Proofs.YtdemmjofggemhaaDoor

/- The trees that a plan's nodes make, plain: what hangs below a node, and how much there is. No program in sight. -/
namespace Go.Proofs.YtdemmjofggemhaaDoor

/-- j hangs below i, in some steps. -/
inductive Dsc (N : List PNd) (i : Nat) : Nat → Prop
  | refl : Dsc N i i
  | step {k j : Nat} : Dsc N i k → k < N.length → (j : Int) ∈ chl (nd N k) → Dsc N i j
structure Forest (N : List PNd) : Prop where
  below : ∀ i, i < N.length → ∀ x ∈ chl (nd N i), ∃ k : Nat, x = k ∧ k < i
  uniq : ∀ i j x, i < N.length → j < N.length → x ∈ chl (nd N i) → x ∈ chl (nd N j) → i = j
  two : ∀ i, i < N.length → (chl (nd N i)).Nodup
section
variable {N : List PNd}
theorem Forest.lt (h : Forest N) {i j : Nat} (hi : i < N.length) (hj : (j : Int) ∈ chl (nd N i)) : j < i := by
  obtain ⟨m, e, hm⟩ := h.below _ hi _ hj
  have := Int.ofNat.inj e
  omega
theorem Dsc.le (h : Forest N) {i k : Nat} (d : Dsc N i k) : k ≤ i := by
  induction d with
  | refl => exact Nat.le_refl _
  | step _ hk hj ih => have := h.lt hk hj; omega
theorem Dsc.top {i a k : Nat} (hi : i < N.length) (ha : (a : Int) ∈ chl (nd N i)) (d : Dsc N a k) : Dsc N i k := by
  induction d with
  | refl => exact .step .refl hi ha
  | step _ hk hj ih => exact .step ih hk hj
theorem Dsc.line (h : Forest N) {a b k : Nat} (d : Dsc N a k) : Dsc N b k → Dsc N a b ∨ Dsc N b a := by
  induction d with
  | refl => exact fun e => .inr e
  | step d hk hj ih =>
    intro e
    cases e with
    | refl => exact .inl (.step d hk hj)
    | step e hk2 hj2 =>
      have q := h.uniq _ _ _ hk2 hk hj2 hj
      subst q
      exact ih e
theorem Dsc.apart (h : Forest N) {i a b k : Nat} (hi : i < N.length) (ha : (a : Int) ∈ chl (nd N i)) (hb : (b : Int) ∈ chl (nd N i)) (hne : a ≠ b) (d : Dsc N a k) (e : Dsc N b k) : False := by
  have key : ∀ {a b : Nat}, (a : Int) ∈ chl (nd N i) → (b : Int) ∈ chl (nd N i) → a ≠ b → ¬ Dsc N a b := fun {a b} ha hb hne d => by
    cases d with
    | refl => exact hne rfl
    | step d hk hj =>
      have q := h.uniq _ _ _ hi hk hb hj
      subst q
      have h1 := d.le h
      have h2 := h.lt hi ha
      omega
  rcases d.line h e with c | c
  · exact key ha hb hne c
  · exact key hb ha (Ne.symm hne) c
theorem ordF_dsc (h : Forest N) : ∀ (f i : Nat), i < N.length → ∀ x ∈ ordF N f i, ∃ k : Nat, x = k ∧ Dsc N i k ∧ k < N.length ∧ (nd N k).top = true
  | 0, i, _, x, hx => by simp [ordF] at hx
  | f + 1, i, hi, x, hx => by
    unfold ordF at hx
    rw [Int.toNat_natCast] at hx
    by_cases ht : (nd N i).top = true
    · rw [if_pos ht] at hx
      rcases List.mem_cons.1 hx with rfl | hx
      · exact ⟨i, rfl, .refl, hi, ht⟩
      · obtain ⟨c, hc, hx⟩ := List.mem_flatMap.1 hx
        obtain ⟨a, rfl, ha⟩ := h.below i hi c hc
        obtain ⟨k, rfl, d, q⟩ := ordF_dsc h f a (by omega) x hx
        exact ⟨k, rfl, d.top hi hc, q⟩
    · rw [if_neg ht] at hx; cases hx
theorem ordF_nodup (h : Forest N) : ∀ (f i : Nat), i < N.length → (ordF N f i).Nodup
  | 0, i, _ => by simp [ordF]
  | f + 1, i, hi => by
    unfold ordF
    rw [Int.toNat_natCast]
    by_cases ht : (nd N i).top = true
    · rw [if_pos ht]
      refine List.nodup_cons.2 ⟨fun c => ?_, ?_⟩
      · obtain ⟨c, hc, hx⟩ := List.mem_flatMap.1 c
        obtain ⟨a, rfl, ha⟩ := h.below i hi c hc
        obtain ⟨k, e, d, _⟩ := ordF_dsc h f a (by omega) _ hx
        have e' : i = k := Int.ofNat.inj e
        have := d.le h
        omega
      · refine List.pairwise_flatMap.2 ⟨fun c hc => ?_, (h.two i hi).imp_of_mem fun {c c'} hc hc' hne x hx y hy e => ?_⟩
        · obtain ⟨a, rfl, ha⟩ := h.below i hi c hc
          exact ordF_nodup h f a (by omega)
        · subst e
          obtain ⟨a, rfl, ha⟩ := h.below i hi c hc
          obtain ⟨b, rfl, hb⟩ := h.below i hi c' hc'
          obtain ⟨k, e1, d1, _⟩ := ordF_dsc h f a (by omega) _ hx
          obtain ⟨m, e2, d2, _⟩ := ordF_dsc h f b (by omega) _ hy
          have e3 : k = m := Int.ofNat.inj (e1.symm.trans e2)
          subst e3
          exact d1.apart h hi hc hc' (fun e => hne (by rw [e])) d2
    · rw [if_neg ht]; exact List.nodup_nil
end
/-- Numbers below n that have p, none twice, are at most as many as there are. -/
theorem nodup_count (p : Nat → Bool) : ∀ (n : Nat) {l : List Nat}, l.Nodup → (∀ x ∈ l, x < n ∧ p x = true) → l.length ≤ (List.range n).countP p
  | 0, l, _, h => by
    cases l with
    | nil => exact Nat.zero_le _
    | cons a l => exact absurd (h a List.mem_cons_self).1 (by omega)
  | n + 1, l, hn, h => by
    have h1 := nodup_count p n (l := l.filter (· != n)) (hn.filter _) fun x hx => by
      have h2 := List.mem_filter.1 hx
      have := h x h2.1
      have : x ≠ n := by simpa using h2.2
      exact ⟨by omega, (h x h2.1).2⟩
    have h2 : l.length ≤ (l.filter (· != n)).length + if n ∈ l then 1 else 0 := by
      clear h h1
      induction l with
      | nil => simp
      | cons a l ih =>
        have hn' := List.nodup_cons.1 hn
        have ih := ih hn'.2
        by_cases c : a = n
        · subst c
          rw [if_neg hn'.1] at ih
          rw [List.filter_cons_of_neg (by simp), if_pos List.mem_cons_self, List.length_cons]
          omega
        · rw [List.filter_cons_of_pos (by simpa using c), List.length_cons, List.length_cons]
          have e : (n ∈ a :: l) ↔ n ∈ l := by simp [Ne.symm c]
          simp only [e]
          omega
    rw [List.range_succ, List.countP_append, List.countP_singleton]
    by_cases c : n ∈ l
    · rw [if_pos c] at h2
      rw [if_pos (h n c).2]; omega
    · rw [if_neg c] at h2
      split <;> omega
theorem ordF_len (N : List PNd) (h : Forest N) (f i : Nat) (hi : i < N.length) : (ordF N f i).length ≤ (List.range N.length).countP fun k => (nd N k).top := by
  have h1 : ((ordF N f i).map Int.toNat).Nodup := List.pairwise_map.2 ((ordF_nodup h f i hi).imp_of_mem fun {a b} ha hb hne e => hne (by
    obtain ⟨k, rfl, _⟩ := ordF_dsc h f i hi a ha
    obtain ⟨m, rfl, _⟩ := ordF_dsc h f i hi b hb
    rw [Int.toNat_natCast, Int.toNat_natCast] at e
    rw [e]))
  have h2 := nodup_count (fun k => (nd N k).top) N.length h1 fun x hx => by
    obtain ⟨a, ha, rfl⟩ := List.mem_map.1 hx
    obtain ⟨k, rfl, _, h3, h4⟩ := ordF_dsc h f i hi a ha
    rw [Int.toNat_natCast]; exact ⟨h3, h4⟩
  rwa [List.length_map] at h2
theorem ordF_any (N : List PNd) (h : Forest N) (f : Nat) (i : Int) : (ordF N f i).length ≤ N.length := by
  cases f with
  | zero => simp [ordF]
  | succ f =>
    have e : (ordF N (f + 1) i).length = (ordF N (f + 1) (i.toNat : Nat)).length := by
      unfold ordF
      rw [Int.toNat_natCast]
      split <;> simp
    rw [e]
    rcases Nat.lt_or_ge i.toNat N.length with c | c
    · refine Nat.le_trans (ordF_len N h (f + 1) i.toNat c) ?_
      have := List.countP_le_length (p := fun k => (nd N k).top) (l := List.range N.length)
      rwa [List.length_range] at this
    · have : (nd N i.toNat).top = false := by unfold nd; rw [List.getD_eq_getElem?_getD, List.getElem?_eq_none c]; rfl
      unfold ordF
      rw [Int.toNat_natCast, this]; simp
theorem count_split (n : Nat) (p q : Nat → Bool) : (List.range n).countP (fun i => p i || q i) ≤ (List.range n).countP p + (List.range n).countP q := by
  induction n with
  | zero => simp
  | succ n ih =>
    rw [List.range_succ, List.countP_append, List.countP_append, List.countP_append, List.countP_singleton, List.countP_singleton, List.countP_singleton]
    cases p n <;> cases q n <;> simp <;> omega
theorem count_low (low : Nat) : ∀ n, (List.range n).countP (fun (i : Nat) => decide (low ≤ i)) = n - low
  | 0 => by simp
  | n + 1 => by
    rw [List.range_succ, List.countP_append, count_low low n, List.countP_singleton]
    by_cases c : low ≤ n
    · simp [c]; omega
    · simp [c]; omega
theorem count_at (a : Int) : ∀ n, (List.range n).countP (fun (i : Nat) => decide ((i : Int) = a)) ≤ 1
  | 0 => by simp
  | n + 1 => by
    rw [List.range_succ, List.countP_append, List.countP_singleton]
    by_cases c : (n : Int) = a
    · have : (List.range n).countP (fun (i : Nat) => decide ((i : Int) = a)) = 0 := by
        rw [List.countP_eq_zero]
        intro x hx
        have := List.mem_range.1 hx
        simp; omega
      rw [this]; simp [c]
    · have := count_at a n
      simp [c]; exact this
theorem count_mem (n : Nat) : ∀ P : List Int, (List.range n).countP (fun (i : Nat) => decide ((i : Int) ∈ P)) ≤ P.length
  | [] => by simp
  | a :: P => by
    have h1 := count_split n (fun (i : Nat) => decide ((i : Int) = a)) (fun (i : Nat) => decide ((i : Int) ∈ P))
    have h2 := count_at a n
    have h3 := count_mem n P
    have e : (fun i : Nat => decide ((i : Int) ∈ a :: P)) = fun i : Nat => decide ((i : Int) = a) || decide ((i : Int) ∈ P) := by
      funext i
      rw [Bool.eq_iff_iff]
      simp
    rw [e, List.length_cons]; omega
end Go.Proofs.YtdemmjofggemhaaDoor

/- The plain law of a removal's length: how many steps of each kind there are. No program in sight. -/
namespace Go.Proofs.YtdemmjofggemhaaDoor

theorem make_far {s : Stp} : ∀ {L : Lt}, (∀ y ∈ L, (y.1 : Int) ≠ s.edge) → makeE L s = L
  | [], _ => rfl
  | a :: L, h => by
    rw [makeE_cons, make_far fun y hy => h y (List.mem_cons_of_mem _ hy)]
    have := h a (List.mem_cons_self ..)
    simp [makeOf, this]
theorem makeE_app (L M : Lt) (s : Stp) : makeE (L ++ M) s = makeE L s ++ makeE M s := by simp [makeE]
/-- An edge parts the list; the others have other numbers. -/
theorem srt_part {L : Lt} (hs : Srt L) {x : Nat × BitVec 32} (hx : x ∈ L) : ∃ A B, L = A ++ x :: B ∧ (∀ y ∈ A, y.1 ≠ x.1) ∧ ∀ y ∈ B, y.1 ≠ x.1 := by
  obtain ⟨A, B, rfl⟩ := List.append_of_mem hx
  unfold Srt at hs
  rw [List.pairwise_append] at hs
  obtain ⟨_, h2, h3⟩ := hs
  refine ⟨A, B, rfl, fun y hy => ?_, fun y hy => ?_⟩
  · have := h3 y hy x (List.mem_cons_self ..); omega
  · have := (List.pairwise_cons.1 h2).1 y hy; omega
theorem make_trim_part {A B : Lt} {x : Nat × BitVec 32} {c : BitVec 32} {q : Int} (hA : ∀ y ∈ A, y.1 ≠ x.1) (hB : ∀ y ∈ B, y.1 ≠ x.1) : makeE (A ++ x :: B) ⟨1, x.1, q, c⟩ = A ++ (x.1, x.2 &&& ~~~c) :: B := by
  rw [makeE_app, makeE_cons, make_far (L := A) (fun y hy => by have := hA y hy; show (y.1 : Int) ≠ x.1; omega), make_far (L := B) (fun y hy => by have := hB y hy; show (y.1 : Int) ≠ x.1; omega)]
  simp [makeOf]
theorem make_gone_part {A B : Lt} {x : Nat × BitVec 32} {k q : Int} {c : BitVec 32} (hk : k ≠ 1) (hA : ∀ y ∈ A, y.1 ≠ x.1) (hB : ∀ y ∈ B, y.1 ≠ x.1) : makeE (A ++ x :: B) ⟨k, x.1, q, c⟩ = A ++ B := by
  rw [makeE_app, makeE_cons, make_far (L := A) (fun y hy => by have := hA y hy; show (y.1 : Int) ≠ x.1; omega), make_far (L := B) (fun y hy => by have := hB y hy; show (y.1 : Int) ≠ x.1; omega)]
  simp [makeOf, hk]
/-- How many edges have lonely vertices that are not kept. -/
def phiE (L : Lt) (keep : BitVec 32) : Nat := L.countP fun x => !(cutE L keep x == 0#32)
theorem phi_le (L : Lt) (keep : BitVec 32) : phiE L keep ≤ L.length := List.countP_le_length
def trims (ss : List Stp) : Nat := ss.countP fun s => s.kind == 1
theorem count_one {p q : Nat × BitVec 32 → Bool} {e : Nat} : ∀ {L : Lt}, Srt L → (∀ z ∈ L, z.1 ≠ e → q z = true → p z = true) → L.countP q ≤ L.countP p + 1
  | [], _, _ => by simp
  | a :: L, hs, h => by
    have ih := count_one (L := L) (List.pairwise_cons.1 hs).2 fun z hz => h z (List.mem_cons_of_mem _ hz)
    rw [List.countP_cons, List.countP_cons]
    by_cases c : a.1 = e
    · have hm : L.countP q ≤ L.countP p := List.countP_mono_left fun z hz hq => h z (List.mem_cons_of_mem _ hz) (by
        have := (List.pairwise_cons.1 hs).1 z hz; omega) hq
      by_cases d : q a = true
      · rw [if_pos d]; omega
      · rw [if_neg d]; omega
    · have ha := h a (List.mem_cons_self ..) c
      by_cases d : q a = true
      · simp only [d, ha d, if_true]; omega
      · rw [if_neg d]; omega
theorem phi_trim {L : Lt} {keep : BitVec 32} (hs : Srt L) {x : Nat × BitVec 32} (hx : x ∈ L) (hc : cutE L keep x ≠ 0#32) : phiE (makeE L ⟨1, x.1, 0, cutE L keep x⟩) keep + 1 ≤ phiE L keep := by
  obtain ⟨A, B, rfl, hA, hB⟩ := srt_part hs hx
  rw [make_trim_part hA hB]
  have hp : (!(cutE (A ++ x :: B) keep x == 0#32)) = true := by simpa using hc
  have same : ∀ z, (z ∈ A ∨ z ∈ B) → cutE (A ++ (x.1, x.2 &&& ~~~cutE (A ++ x :: B) keep x) :: B) keep z = cutE (A ++ x :: B) keep z := fun z hz => hv_ext fun v => by
    have hzL : z ∈ A ++ x :: B := by rcases hz with h | h <;> simp [h]
    have hzx : z.1 ≠ x.1 := hz.elim (hA z) (hB z)
    rw [hv_cut, hv_cut]
    refine and_congr_right fun a => and_congr_right fun _ => ⟨fun h y hy hne => ?_, fun h y hy hne => ?_⟩
    · rcases List.mem_append.1 hy with b | b
      · exact h y (List.mem_append_left _ b) hne
      · rcases List.mem_cons.1 b with rfl | b
        · intro hyv
          refine h (y.1, y.2 &&& ~~~cutE (A ++ y :: B) keep y) (by simp) hne ((hv_andNot _ _ _).2 ⟨hyv, fun d => ?_⟩)
          exact ((hv_cut _ _ _ _).1 d).2.2 z hzL hzx a
        · exact h y (List.mem_append_right _ (List.mem_cons_of_mem _ b)) hne
    · rcases List.mem_append.1 hy with b | b
      · exact h y (List.mem_append_left _ b) hne
      · rcases List.mem_cons.1 b with rfl | b
        · exact fun hyv => h x (by simp) hne ((hv_andNot _ _ _).1 hyv).1
        · exact h y (List.mem_append_right _ (List.mem_cons_of_mem _ b)) hne
  have gone : cutE (A ++ (x.1, x.2 &&& ~~~cutE (A ++ x :: B) keep x) :: B) keep (x.1, x.2 &&& ~~~cutE (A ++ x :: B) keep x) = 0#32 := (eq_zero_iff _).2 fun v h => by
    obtain ⟨a, b, c⟩ := (hv_cut _ _ _ _).1 h
    obtain ⟨a1, a2⟩ := (hv_andNot _ _ _).1 a
    refine a2 ((hv_cut _ _ _ _).2 ⟨a1, b, fun y hy hne => ?_⟩)
    rcases List.mem_append.1 hy with d | d
    · exact c y (List.mem_append_left _ d) hne
    · rcases List.mem_cons.1 d with rfl | d
      · exact absurd rfl hne
      · exact c y (List.mem_append_right _ (List.mem_cons_of_mem _ d)) hne
  unfold phiE
  rw [List.countP_append, List.countP_append, List.countP_cons, List.countP_cons, if_pos hp, gone]
  have e1 : A.countP (fun z => !(cutE (A ++ (x.1, x.2 &&& ~~~cutE (A ++ x :: B) keep x) :: B) keep z == 0#32)) = A.countP fun z => !(cutE (A ++ x :: B) keep z == 0#32) := List.countP_congr fun z hz => by rw [same z (.inl hz)]
  have e2 : B.countP (fun z => !(cutE (A ++ (x.1, x.2 &&& ~~~cutE (A ++ x :: B) keep x) :: B) keep z == 0#32)) = B.countP fun z => !(cutE (A ++ x :: B) keep z == 0#32) := List.countP_congr fun z hz => by rw [same z (.inr hz)]
  rw [e1, e2]
  simp; omega
theorem phi_gone {L : Lt} {keep : BitVec 32} (hs : Srt L) {k : Int} (hk : k ≠ 1) {x y : Nat × BitVec 32} (hx : x ∈ L) (hy : y ∈ L) (hne : x.1 ≠ y.1) (hsub : ∀ v, hv x.2 v → hv y.2 v) : phiE (makeE L ⟨k, x.1, y.1, 0#32⟩) keep ≤ phiE L keep + 1 ∧ (makeE L ⟨k, x.1, y.1, 0#32⟩).length + 1 = L.length := by
  have hM : Srt (makeE L ⟨k, x.1, y.1, 0#32⟩) := hs.make
  obtain ⟨A, B, rfl, hA, hB⟩ := srt_part hs hx
  rw [make_gone_part hk hA hB] at hM ⊢
  refine ⟨?_, by simp; omega⟩
  have h1 : (A ++ B).countP (fun z => !(cutE (A ++ B) keep z == 0#32)) ≤ (A ++ B).countP (fun z => !(cutE (A ++ x :: B) keep z == 0#32)) + 1 := count_one (e := y.1) hM fun z hz hzy hq => by
    simp only [Bool.not_eq_true', beq_eq_false_iff_ne] at hq ⊢
    obtain ⟨v, hh⟩ := (ne_zero_iff _).1 hq
    refine (ne_zero_iff _).2 ⟨v, ?_⟩
    obtain ⟨a, b, c⟩ := (hv_cut _ _ _ _).1 hh
    refine (hv_cut _ _ _ _).2 ⟨a, b, fun w hw hwz => ?_⟩
    rcases List.mem_append.1 hw with d | d
    · exact c w (List.mem_append_left _ d) hwz
    · rcases List.mem_cons.1 d with rfl | d
      · intro hwv
        refine c y ?_ (Ne.symm hzy) (hsub v hwv)
        rcases List.mem_append.1 hy with f | f
        · exact List.mem_append_left _ f
        · rcases List.mem_cons.1 f with rfl | f
          · exact absurd rfl hne
          · exact List.mem_append_right _ f
      · exact c w (List.mem_append_right _ d) hwz
  have h2 : (A ++ B).countP (fun z => !(cutE (A ++ x :: B) keep z == 0#32)) ≤ (A ++ x :: B).countP (fun z => !(cutE (A ++ x :: B) keep z == 0#32)) := by
    rw [List.countP_append, List.countP_append, List.countP_cons]; omega
  unfold phiE; omega
theorem make_trim_len {L : Lt} (hs : Srt L) {x : Nat × BitVec 32} (hx : x ∈ L) (c : BitVec 32) (q : Int) : (makeE L ⟨1, x.1, q, c⟩).length = L.length := by
  obtain ⟨A, B, rfl, hA, hB⟩ := srt_part hs hx
  rw [make_trim_part hA hB]; simp
/-- Trims are at most the edges and the merges; each merge takes one edge off. -/
theorem rch_count {keep : BitVec 32} {L M : Lt} {ss : List Stp} (r : Rch keep L ss M) (hs : Srt L) : ss.length + M.length = trims ss + L.length ∧ 2 * trims ss + phiE M keep ≤ phiE L keep + ss.length := by
  induction r with
  | nil L => simp [trims]
  | @cons L M s ss h _ ih =>
    obtain ⟨h1, h2⟩ := ih hs.make
    rcases h.cases hs with ⟨x, hx, hc, rfl⟩ | ⟨x, hx, y, hy, k, hne, hk, hsub, rfl⟩
    · have a := phi_trim hs hx hc
      have b := make_trim_len hs hx (cutE L keep x) 0
      have e : trims (⟨1, x.1, 0, cutE L keep x⟩ :: ss) = trims ss + 1 := by simp [trims]
      rw [e, List.length_cons]; omega
    · obtain ⟨a, b⟩ := phi_gone (keep := keep) hs hk hx hy hne hsub
      have e : trims (⟨k, x.1, y.1, 0#32⟩ :: ss) = trims ss := by simp [trims, hk]
      rw [e, List.length_cons]; omega
end Go.Proofs.YtdemmjofggemhaaDoor
