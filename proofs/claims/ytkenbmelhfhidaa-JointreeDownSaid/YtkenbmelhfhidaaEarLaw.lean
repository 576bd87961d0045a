/- The plain law of removals: steps, what they leave, and that the order in which they are made does not count. No program in sight. -/
import Derived.Test.YtkenbmelhfhidaaBits
namespace Go.Proofs.Ytkenbmelhfhidaa

/-! ### Steps -/
structure Stp where
  kind : Int
  edge : Int
  into : Int
  cut : BitVec 32
deriving DecidableEq
/-- Edges that are there, with their sets. -/
abbrev Lt := List (Nat × BitVec 32)
/-- The vertices of the other edges. -/
def othersE (L : Lt) (e : Nat) : BitVec 32 := L.foldl (fun s x => if x.1 = e then s else s ||| x.2) 0#32
theorem foldl_others (e : Nat) (v : Nat) : ∀ (L : Lt) (s : BitVec 32), hv (L.foldl (fun s x => if x.1 = e then s else s ||| x.2) s) v ↔ hv s v ∨ ∃ x ∈ L, x.1 ≠ e ∧ hv x.2 v
  | [], s => by simp
  | x :: L, s => by
    rw [List.foldl_cons, foldl_others e v L]
    by_cases h : x.1 = e
    · rw [if_pos h]
      constructor
      · rintro (a | ⟨y, hy, a, b⟩)
        · exact .inl a
        · exact .inr ⟨y, List.mem_cons_of_mem _ hy, a, b⟩
      · rintro (a | ⟨y, hy, a, b⟩)
        · exact .inl a
        · rcases List.mem_cons.1 hy with rfl | hy
          · exact absurd h a
          · exact .inr ⟨y, hy, a, b⟩
    · rw [if_neg h, hv_or]
      constructor
      · rintro ((a | a) | ⟨y, hy, a, b⟩)
        · exact .inl a
        · exact .inr ⟨x, List.mem_cons_self, h, a⟩
        · exact .inr ⟨y, List.mem_cons_of_mem _ hy, a, b⟩
      · rintro (a | ⟨y, hy, a, b⟩)
        · exact .inl (.inl a)
        · rcases List.mem_cons.1 hy with rfl | hy
          · exact .inl (.inr b)
          · exact .inr ⟨y, hy, a, b⟩
theorem hv_others (L : Lt) (e v : Nat) : hv (othersE L e) v ↔ ∃ x ∈ L, x.1 ≠ e ∧ hv x.2 v := by
  unfold othersE
  rw [foldl_others]
  simp [hv_zero]
/-- What a Trim would cut. -/
def cutE (L : Lt) (keep : BitVec 32) (x : Nat × BitVec 32) : BitVec 32 := (x.2 &&& ~~~keep) &&& ~~~(othersE L x.1)
theorem hv_cut (L : Lt) (keep : BitVec 32) (x : Nat × BitVec 32) (v : Nat) : hv (cutE L keep x) v ↔ hv x.2 v ∧ ¬ hv keep v ∧ ∀ y ∈ L, y.1 ≠ x.1 → ¬ hv y.2 v := by
  unfold cutE
  rw [hv_andNot, hv_andNot, hv_others]
  constructor
  · rintro ⟨⟨a, b⟩, c⟩; exact ⟨a, b, fun y hy h1 h2 => c ⟨y, hy, h1, h2⟩⟩
  · rintro ⟨a, b, c⟩; exact ⟨⟨a, b⟩, fun ⟨y, hy, h1, h2⟩ => c y hy h1 h2⟩
def trimOf (L : Lt) (keep : BitVec 32) (x : Nat × BitVec 32) : List Stp := if cutE L keep x = 0#32 then [] else [⟨1, x.1, 0, cutE L keep x⟩]
def sameOf (x y : Nat × BitVec 32) : List Stp := if x.1 < y.1 ∧ x.2 = y.2 then [⟨2, y.1, x.1, 0#32⟩] else []
def underOf (x y : Nat × BitVec 32) : List Stp := if x.2 ≠ y.2 ∧ subB x.2 y.2 = true then [⟨3, x.1, y.1, 0#32⟩] else []
def backOf (x y : Nat × BitVec 32) : List Stp := if y.1 < x.1 ∧ x.2 = y.2 then [⟨2, y.1, x.1, 0#32⟩] else []
/-- All steps that there are, those of the removal's order first. -/
def stepsE (L : Lt) (keep : BitVec 32) : List Stp :=
  (L.flatMap (trimOf L keep) ++ L.flatMap (fun x => L.flatMap (sameOf x))) ++ (L.flatMap (fun x => L.flatMap (underOf x)) ++ L.flatMap (fun x => L.flatMap (backOf x)))
/-- Is it a step? -/
def IsStp (L : Lt) (keep : BitVec 32) (s : Stp) : Prop :=
  (∃ x ∈ L, cutE L keep x ≠ 0#32 ∧ s = ⟨1, x.1, 0, cutE L keep x⟩) ∨
  (∃ x ∈ L, ∃ y ∈ L, x.1 ≠ y.1 ∧ x.2 = y.2 ∧ s = ⟨2, y.1, x.1, 0#32⟩) ∨
  (∃ x ∈ L, ∃ y ∈ L, x.2 ≠ y.2 ∧ subB x.2 y.2 = true ∧ s = ⟨3, x.1, y.1, 0#32⟩)
theorem mem_steps (L : Lt) (keep : BitVec 32) (s : Stp) : s ∈ stepsE L keep ↔ IsStp L keep s := by
  unfold stepsE IsStp trimOf sameOf underOf backOf
  simp only [List.mem_append, List.mem_flatMap]
  constructor
  · rintro ((⟨x, hx, h⟩ | ⟨x, hx, y, hy, h⟩) | (⟨x, hx, y, hy, h⟩ | ⟨x, hx, y, hy, h⟩))
    · split at h
      · cases h
      · exact .inl ⟨x, hx, ‹_›, List.mem_singleton.1 h⟩
    · split at h
      · next c => exact .inr (.inl ⟨x, hx, y, hy, by omega, c.2, List.mem_singleton.1 h⟩)
      · cases h
    · split at h
      · next c => exact .inr (.inr ⟨x, hx, y, hy, c.1, c.2, List.mem_singleton.1 h⟩)
      · cases h
    · split at h
      · next c => exact .inr (.inl ⟨x, hx, y, hy, by omega, c.2, List.mem_singleton.1 h⟩)
      · cases h
  · rintro (⟨x, hx, h, rfl⟩ | ⟨x, hx, y, hy, h1, h2, rfl⟩ | ⟨x, hx, y, hy, h1, h2, rfl⟩)
    · exact .inl (.inl ⟨x, hx, by rw [if_neg h]; exact List.mem_singleton.2 rfl⟩)
    · rcases Nat.lt_or_gt_of_ne h1 with c | c
      · exact .inl (.inr ⟨x, hx, y, hy, by rw [if_pos ⟨c, h2⟩]; exact List.mem_singleton.2 rfl⟩)
      · exact .inr (.inr ⟨x, hx, y, hy, by rw [if_pos ⟨c, h2⟩]; exact List.mem_singleton.2 rfl⟩)
    · exact .inr (.inl ⟨x, hx, y, hy, by rw [if_pos ⟨h1, h2⟩]; exact List.mem_singleton.2 rfl⟩)
/-- The edges that are there behind a step. -/
def makeOf (s : Stp) (x : Nat × BitVec 32) : Lt := if (x.1 : Int) = s.edge then (if s.kind = 1 then [(x.1, x.2 &&& ~~~s.cut)] else []) else [x]
def makeE (L : Lt) (s : Stp) : Lt := L.flatMap (makeOf s)
theorem mem_make {L : Lt} {s : Stp} {y : Nat × BitVec 32} : y ∈ makeE L s ↔ ∃ x ∈ L, (((x.1 : Int) = s.edge ∧ s.kind = 1 ∧ y = (x.1, x.2 &&& ~~~s.cut)) ∨ ((x.1 : Int) ≠ s.edge ∧ y = x)) := by
  unfold makeE makeOf
  rw [List.mem_flatMap]
  constructor
  · rintro ⟨x, hx, h⟩
    refine ⟨x, hx, ?_⟩
    split at h
    · split at h
      · exact .inl ⟨‹_›, ‹_›, List.mem_singleton.1 h⟩
      · cases h
    · exact .inr ⟨‹_›, List.mem_singleton.1 h⟩
  · rintro ⟨x, hx, ⟨a, b, c⟩ | ⟨a, c⟩⟩
    · exact ⟨x, hx, by rw [if_pos a, if_pos b]; exact List.mem_singleton.2 c⟩
    · exact ⟨x, hx, by rw [if_neg a]; exact List.mem_singleton.2 c⟩
/-- The edges' numbers rise. -/
def Srt (L : Lt) : Prop := L.Pairwise fun a b => a.1 < b.1
theorem Srt.uniq : ∀ {L : Lt}, Srt L → ∀ {x y : Nat × BitVec 32}, x ∈ L → y ∈ L → x.1 = y.1 → x = y
  | [], _, x, _, hx, _, _ => by cases hx
  | a :: L, h, x, y, hx, hy, e => by
    have h1 := List.pairwise_cons.1 h
    rcases List.mem_cons.1 hx with rfl | hx <;> rcases List.mem_cons.1 hy with rfl | hy
    · rfl
    · have := h1.1 y ‹_›; omega
    · have := h1.1 x ‹_›; omega
    · exact Srt.uniq h1.2 hx hy e
theorem make_key {L : Lt} {s : Stp} {y : Nat × BitVec 32} (h : y ∈ makeE L s) : ∃ x ∈ L, x.1 = y.1 := by
  obtain ⟨x, hx, ⟨_, _, rfl⟩ | ⟨_, rfl⟩⟩ := mem_make.1 h
  · exact ⟨x, hx, rfl⟩
  · exact ⟨_, hx, rfl⟩
theorem makeE_cons (a : Nat × BitVec 32) (L : Lt) (s : Stp) : makeE (a :: L) s = makeOf s a ++ makeE L s := by simp [makeE]
theorem makeOf_key {s : Stp} {a y : Nat × BitVec 32} (h : y ∈ makeOf s a) : y.1 = a.1 := by
  unfold makeOf at h
  split at h
  · split at h
    · rw [List.mem_singleton.1 h]
    · cases h
  · rw [List.mem_singleton.1 h]
theorem Srt.make : ∀ {L : Lt} {s : Stp}, Srt L → Srt (makeE L s)
  | [], _, _ => List.Pairwise.nil
  | a :: L, s, h => by
    have h1 := List.pairwise_cons.1 h
    rw [makeE_cons]
    refine List.pairwise_append.2 ⟨?_, Srt.make h1.2, fun x hx y hy => ?_⟩
    · unfold makeOf
      split
      · split
        · exact List.pairwise_singleton _ _
        · exact List.Pairwise.nil
      · exact List.pairwise_singleton _ _
    · obtain ⟨z, hz, e⟩ := make_key hy
      rw [makeOf_key hx, ← e]
      exact h1.1 z hz

/-! ### What stays true -/
/-- Is the vertex still there? -/
def inX (L : Lt) (v : Nat) : Prop := ∃ y ∈ L, hv y.2 v
structure InvE (E : List (BitVec 32)) (L : Lt) : Prop where
  srt : Srt L
  cut : ∀ x, x ∈ L → x.1 < E.length ∧ ∀ v, hv x.2 v ↔ hv (ed E x.1) v ∧ inX L v
  cov : ∀ j, j < E.length → ∃ x, x ∈ L ∧ ∀ v, hv (ed E j) v → inX L v → hv x.2 v
def beginE (E : List (BitVec 32)) : Lt := (List.range E.length).map fun i => (i, ed E i)
theorem mem_begin {E : List (BitVec 32)} {x : Nat × BitVec 32} : x ∈ beginE E ↔ x.1 < E.length ∧ x.2 = ed E x.1 := by
  unfold beginE
  rw [List.mem_map]
  constructor
  · rintro ⟨i, hi, rfl⟩; exact ⟨List.mem_range.1 hi, rfl⟩
  · rintro ⟨h1, h2⟩; exact ⟨x.1, List.mem_range.2 h1, by rw [← h2]⟩
theorem srt_begin (E : List (BitVec 32)) : Srt (beginE E) := by
  unfold Srt beginE
  rw [List.pairwise_map]
  exact List.pairwise_lt_range
theorem inv_begin (E : List (BitVec 32)) : InvE E (beginE E) := by
  refine ⟨srt_begin E, fun x hx => ?_, fun j hj => ⟨(j, ed E j), mem_begin.2 ⟨hj, rfl⟩, fun v h _ => h⟩⟩
  obtain ⟨h1, h2⟩ := mem_begin.1 hx
  refine ⟨h1, fun v => ⟨fun h => ⟨by rw [← h2]; exact h, x, hx, h⟩, fun h => by rw [h2]; exact h.1⟩⟩
/-- What a Trim does: of L only x has the cut's vertices. -/
theorem trim_inX {L : Lt} {keep : BitVec 32} {x : Nat × BitVec 32} (hs : Srt L) (hx : x ∈ L) (v : Nat) :
    inX (makeE L ⟨1, x.1, 0, cutE L keep x⟩) v ↔ inX L v ∧ ¬ hv (cutE L keep x) v := by
  constructor
  · rintro ⟨y, hy, hvy⟩
    obtain ⟨z, hz, ⟨e, _, rfl⟩ | ⟨e, rfl⟩⟩ := mem_make.1 hy
    · have hzx : z = x := hs.uniq hz hx (by first | exact ni.1 e | exact ne_up e | exact ne_dn e)
      subst hzx
      rw [hv_andNot] at hvy
      exact ⟨⟨z, hz, hvy.1⟩, hvy.2⟩
    · refine ⟨⟨_, hz, hvy⟩, fun hc => ?_⟩
      exact ((hv_cut L keep x v).1 hc).2.2 y hz (by first | exact ni.1 e | exact ne_up e | exact ne_dn e) hvy
  · rintro ⟨⟨y, hy, hvy⟩, hc⟩
    by_cases e : y.1 = x.1
    · have hyx : y = x := hs.uniq hy hx e
      subst hyx
      exact ⟨_, mem_make.2 ⟨y, hy, .inl ⟨rfl, rfl, rfl⟩⟩, by rw [hv_andNot]; exact ⟨hvy, hc⟩⟩
    · exact ⟨y, mem_make.2 ⟨y, hy, .inr ⟨by first | exact ni.1 e | exact ne_up e | exact ne_dn e, rfl⟩⟩, hvy⟩
/-- What taking an edge away does that is part of another one. -/
theorem gone_inX {L : Lt} {k : Int} {x y : Nat × BitVec 32} (hs : Srt L) (hk : k ≠ 1) (hx : x ∈ L) (hy : y ∈ L) (hne : x.1 ≠ y.1) (hsub : ∀ v, hv x.2 v → hv y.2 v) (v : Nat) :
    inX (makeE L ⟨k, x.1, y.1, 0#32⟩) v ↔ inX L v := by
  constructor
  · rintro ⟨z, hz, h⟩
    obtain ⟨u, hu, ⟨_, e, _⟩ | ⟨_, rfl⟩⟩ := mem_make.1 hz
    · exact absurd e hk
    · exact ⟨_, hu, h⟩
  · rintro ⟨z, hz, h⟩
    by_cases e : z.1 = x.1
    · have := hs.uniq hz hx e
      subst this
      exact ⟨y, mem_make.2 ⟨y, hy, .inr ⟨by first | exact ni.1 (Ne.symm hne) | exact ne_up (Ne.symm hne) | exact ne_dn (Ne.symm hne), rfl⟩⟩, hsub v h⟩
    · exact ⟨z, mem_make.2 ⟨z, hz, .inr ⟨by first | exact ni.1 e | exact ne_up e | exact ne_dn e, rfl⟩⟩, h⟩
theorem subB_iff (a b : BitVec 32) : subB a b = true ↔ ∀ v, hv a v → hv b v := by
  unfold subB
  rw [beq_iff_eq]
  constructor
  · intro h v ha
    apply Classical.byContradiction
    intro hb
    have : hv (a &&& ~~~b) v := (hv_andNot _ _ _).2 ⟨ha, hb⟩
    rw [h] at this
    exact hv_zero v this
  · intro h
    apply hv_ext
    intro v
    rw [hv_andNot]
    exact ⟨fun ⟨x, y⟩ => absurd (h v x) y, fun x => absurd x (hv_zero v)⟩
theorem eq_zero_iff (a : BitVec 32) : a = 0#32 ↔ ∀ v, ¬ hv a v := by
  constructor
  · rintro rfl v; exact hv_zero v
  · intro h; apply hv_ext; intro v; exact ⟨fun x => absurd x (h v), fun x => absurd x (hv_zero v)⟩
theorem ne_zero_iff (a : BitVec 32) : a ≠ 0#32 ↔ ∃ v, hv a v := by
  rw [Ne, eq_zero_iff]
  constructor
  · intro h; exact Classical.byContradiction fun c => h fun v hh => c ⟨v, hh⟩
  · rintro ⟨v, h⟩ c; exact c v h
/-- A step that takes an edge away: which, and into which. -/
theorem IsStp.cases {L : Lt} {keep : BitVec 32} {s : Stp} (hs : Srt L) (h : IsStp L keep s) :
    (∃ x ∈ L, cutE L keep x ≠ 0#32 ∧ s = ⟨1, x.1, 0, cutE L keep x⟩) ∨
    (∃ x ∈ L, ∃ y ∈ L, ∃ k : Int, x.1 ≠ y.1 ∧ k ≠ 1 ∧ (∀ v, hv x.2 v → hv y.2 v) ∧ s = ⟨k, x.1, y.1, 0#32⟩) := by
  rcases h with h | ⟨x, hx, y, hy, h1, h2, rfl⟩ | ⟨x, hx, y, hy, h1, h2, rfl⟩
  · exact .inl h
  · exact .inr ⟨y, hy, x, hx, 2, Ne.symm h1, by omega, fun v hh => by rw [h2]; exact hh, rfl⟩
  · exact .inr ⟨x, hx, y, hy, 3, fun e => h1 (by rw [hs.uniq hx hy e]), by omega, (subB_iff _ _).1 h2, rfl⟩
theorem InvE.step {E : List (BitVec 32)} {L : Lt} {keep : BitVec 32} {s : Stp} (h : InvE E L) (hs : IsStp L keep s) : InvE E (makeE L s) := by
  rcases hs.cases h.srt with ⟨x, hx, hc, rfl⟩ | ⟨x, hx, y, hy, k, hne, hk, hsub, rfl⟩
  · have hX := fun v => trim_inX (keep := keep) h.srt hx v
    refine ⟨h.srt.make, fun z hz => ?_, fun j hj => ?_⟩
    · obtain ⟨u, hu, ⟨e, _, rfl⟩ | ⟨e, rfl⟩⟩ := mem_make.1 hz
      · have hux : u = x := h.srt.uniq hu hx (by first | exact ni.1 e | exact ne_up e | exact ne_dn e)
        subst hux
        refine ⟨(h.cut u hu).1, fun v => ?_⟩
        rw [hv_andNot, hX v, (h.cut u hu).2 v]
        exact and_assoc
      · refine ⟨(h.cut z hu).1, fun v => ?_⟩
        rw [hX v, (h.cut z hu).2 v]
        constructor
        · rintro ⟨a, b⟩
          refine ⟨a, b, fun c => ?_⟩
          exact ((hv_cut L keep x v).1 c).2.2 z hu (by first | exact ni.1 e | exact ne_up e | exact ne_dn e) (((h.cut z hu).2 v).2 ⟨a, b⟩)
        · rintro ⟨a, b, _⟩; exact ⟨a, b⟩
    · obtain ⟨u, hu, hcov⟩ := h.cov j hj
      by_cases e : u.1 = x.1
      · have hux : u = x := h.srt.uniq hu hx e
        subst hux
        refine ⟨_, mem_make.2 ⟨u, hu, .inl ⟨rfl, rfl, rfl⟩⟩, fun v h1 h2 => ?_⟩
        obtain ⟨h3, h4⟩ := (hX v).1 h2
        rw [hv_andNot]
        exact ⟨hcov v h1 h3, h4⟩
      · exact ⟨u, mem_make.2 ⟨u, hu, .inr ⟨by first | exact ni.1 e | exact ne_up e | exact ne_dn e, rfl⟩⟩, fun v h1 h2 => hcov v h1 ((hX v).1 h2).1⟩
  · have hX := fun v => gone_inX (k := k) h.srt hk hx hy hne hsub v
    refine ⟨h.srt.make, fun z hz => ?_, fun j hj => ?_⟩
    · obtain ⟨u, hu, ⟨_, e, _⟩ | ⟨e, rfl⟩⟩ := mem_make.1 hz
      · exact absurd e hk
      · refine ⟨(h.cut z hu).1, fun v => ?_⟩
        rw [hX v]; exact (h.cut z hu).2 v
    · obtain ⟨u, hu, hcov⟩ := h.cov j hj
      by_cases e : u.1 = x.1
      · have hux : u = x := h.srt.uniq hu hx e
        subst hux
        exact ⟨y, mem_make.2 ⟨y, hy, .inr ⟨by first | exact ni.1 (Ne.symm hne) | exact ne_up (Ne.symm hne) | exact ne_dn (Ne.symm hne), rfl⟩⟩, fun v h1 h2 => hsub v (hcov v h1 ((hX v).1 h2))⟩
      · exact ⟨u, mem_make.2 ⟨u, hu, .inr ⟨by first | exact ni.1 e | exact ne_up e | exact ne_dn e, rfl⟩⟩, fun v h1 h2 => hcov v h1 ((hX v).1 h2)⟩

/-! ### Where no step is left -/
def Stuck (L : Lt) (keep : BitVec 32) : Prop := ∀ s, ¬ IsStp L keep s
theorem stuck_iff (L : Lt) (keep : BitVec 32) : stepsE L keep = [] ↔ Stuck L keep := by
  rw [List.eq_nil_iff_forall_not_mem]
  exact ⟨fun h s hs => h s ((mem_steps _ _ _).2 hs), fun h s hs => h s ((mem_steps _ _ _).1 hs)⟩
theorem Stuck.anti {L : Lt} {keep : BitVec 32} (h : Stuck L keep) (hs : Srt L) {x y : Nat × BitVec 32} (hx : x ∈ L) (hy : y ∈ L) (hsub : ∀ v, hv x.2 v → hv y.2 v) : x = y := by
  apply Classical.byContradiction
  intro hne
  have hne1 : x.1 ≠ y.1 := fun e => hne (hs.uniq hx hy e)
  by_cases e : x.2 = y.2
  · exact h _ (.inr (.inl ⟨x, hx, y, hy, hne1, e, rfl⟩))
  · exact h _ (.inr (.inr ⟨x, hx, y, hy, e, (subB_iff _ _).2 hsub, rfl⟩))
theorem Stuck.twice {L : Lt} {keep : BitVec 32} (h : Stuck L keep) {x : Nat × BitVec 32} (hx : x ∈ L) {v : Nat} (hvx : hv x.2 v) (hk : ¬ hv keep v) : ∃ y ∈ L, y.1 ≠ x.1 ∧ hv y.2 v := by
  apply Classical.byContradiction
  intro hc
  refine h _ (.inl ⟨x, hx, (ne_zero_iff _).2 ⟨v, (hv_cut _ _ _ _).2 ⟨hvx, hk, fun y hy a b => hc ⟨y, hy, a, b⟩⟩⟩, rfl⟩)
/-- A vertex that stays where no step is left is cut by no step elsewhere. -/
theorem stay_step {E : List (BitVec 32)} {L M : Lt} {keep : BitVec 32} {s : Stp} (h1 : InvE E L) (hst : Stuck L keep) (h2 : InvE E M) (hs : IsStp M keep s) (hX : ∀ v, inX L v → inX M v) : ∀ v, inX L v → inX (makeE M s) v := by
  intro v hvL
  rcases hs.cases h2.srt with ⟨x, hx, hc, rfl⟩ | ⟨x, hx, y, hy, k, hne, hk, hsub, rfl⟩
  · rw [trim_inX h2.srt hx]
    refine ⟨hX v hvL, fun hcut => ?_⟩
    obtain ⟨c1, c2, c3⟩ := (hv_cut _ _ _ _).1 hcut
    obtain ⟨a, ha, hva⟩ := hvL
    obtain ⟨b, hb, hba, hvb⟩ := hst.twice ha hva c2
    have key : ∀ z, z ∈ L → hv z.2 v → ∀ u, hv z.2 u → hv (ed E x.1) u := by
      intro z hz hvz u hu
      obtain ⟨e1, e2⟩ := h1.cut z hz
      obtain ⟨k, hk, hcov⟩ := h2.cov z.1 e1
      have hkx : k = x := by
        apply Classical.byContradiction
        intro hne
        exact c3 k hk (fun e => hne (h2.srt.uniq hk hx e)) (hcov v ((e2 v).1 hvz).1 (hX v ⟨z, hz, hvz⟩))
      subst hkx
      exact (((h2.cut k hk).2 u).1 (hcov u ((e2 u).1 hu).1 (hX u ⟨z, hz, hu⟩))).1
    obtain ⟨m, hm, hmc⟩ := h1.cov x.1 (h2.cut x hx).1
    have am : a = m := hst.anti h1.srt ha hm fun u hu => hmc u (key a ha hva u hu) ⟨a, ha, hu⟩
    have bm : b = m := hst.anti h1.srt hb hm fun u hu => hmc u (key b hb hvb u hu) ⟨b, hb, hu⟩
    exact hba (by rw [bm, am])
  · rw [gone_inX h2.srt hk hx hy hne hsub]
    exact hX v hvL
/-- Steps that can be made one behind the other. -/
inductive Rch (keep : BitVec 32) : Lt → List Stp → Lt → Prop
  | nil (L : Lt) : Rch keep L [] L
  | cons {L M : Lt} {s : Stp} {ss : List Stp} (h : IsStp L keep s) (r : Rch keep (makeE L s) ss M) : Rch keep L (s :: ss) M
theorem Rch.inv {keep : BitVec 32} {E : List (BitVec 32)} {L M : Lt} {ss : List Stp} (r : Rch keep L ss M) (h : InvE E L) : InvE E M := by
  induction r with
  | nil => exact h
  | cons hs _ ih => exact ih (h.step hs)
theorem Rch.srt {keep : BitVec 32} {L M : Lt} {ss : List Stp} (r : Rch keep L ss M) (h : Srt L) : Srt M := by
  induction r with
  | nil => exact h
  | cons hs _ ih => exact ih h.make
theorem Rch.stay {keep : BitVec 32} {E : List (BitVec 32)} {L M N : Lt} {ss : List Stp} (r : Rch keep M ss N) (h1 : InvE E L) (hst : Stuck L keep) (h2 : InvE E M) (hX : ∀ v, inX L v → inX M v) : ∀ v, inX L v → inX N v := by
  induction r with
  | nil => exact hX
  | cons hs _ ih => exact ih (h2.step hs) (stay_step h1 hst h2 hs hX)
theorem inX_begin {E : List (BitVec 32)} {L : Lt} (h : InvE E L) : ∀ v, inX L v → inX (beginE E) v := by
  rintro v ⟨x, hx, hvx⟩
  obtain ⟨h1, h2⟩ := h.cut x hx
  exact ⟨(x.1, ed E x.1), mem_begin.2 ⟨h1, rfl⟩, ((h2 v).1 hvx).1⟩
/-- WHATEVER STEPS ARE MADE, AS LONG AS THERE IS ONE: the same vertices stay, and the same sets. -/
theorem order_free {keep : BitVec 32} {E : List (BitVec 32)} {L M : Lt} {ss tt : List Stp} (r1 : Rch keep (beginE E) ss L) (r2 : Rch keep (beginE E) tt M) (s1 : Stuck L keep) (s2 : Stuck M keep) :
    (∀ v, inX L v ↔ inX M v) ∧ ∀ a, (∃ x ∈ L, x.2 = a) ↔ ∃ y ∈ M, y.2 = a := by
  have i1 := r1.inv (inv_begin E)
  have i2 := r2.inv (inv_begin E)
  have a1 := r2.stay i1 s1 (inv_begin E) (inX_begin i1)
  have a2 := r1.stay i2 s2 (inv_begin E) (inX_begin i2)
  have key : ∀ {L M : Lt}, InvE E L → InvE E M → Stuck L keep → (∀ v, inX L v → inX M v) → (∀ v, inX M v → inX L v) → ∀ x, x ∈ L → ∃ y ∈ M, y.2 = x.2 := by
    intro L M i1 i2 s1 a1 a2 x hx
    obtain ⟨e1, e2⟩ := i1.cut x hx
    obtain ⟨y, hy, hyc⟩ := i2.cov x.1 e1
    obtain ⟨f1, f2⟩ := i2.cut y hy
    obtain ⟨z, hz, hzc⟩ := i1.cov y.1 f1
    have xy : ∀ v, hv x.2 v → hv y.2 v := fun v hh => hyc v ((e2 v).1 hh).1 (a1 v ⟨x, hx, hh⟩)
    have yz : ∀ v, hv y.2 v → hv z.2 v := fun v hh => hzc v ((f2 v).1 hh).1 (a2 v ⟨y, hy, hh⟩)
    have hxz : x = z := s1.anti i1.srt hx hz fun v hh => yz v (xy v hh)
    subst hxz
    exact ⟨y, hy, hv_ext fun v => ⟨yz v, xy v⟩⟩
  refine ⟨fun v => ⟨a1 v, a2 v⟩, fun a => ⟨?_, ?_⟩⟩
  · rintro ⟨x, hx, rfl⟩; exact key i1 i2 s1 a1 a2 x hx
  · rintro ⟨x, hx, rfl⟩; exact key i2 i1 s2 a2 a1 x hx
end Go.Proofs.Ytkenbmelhfhidaa
