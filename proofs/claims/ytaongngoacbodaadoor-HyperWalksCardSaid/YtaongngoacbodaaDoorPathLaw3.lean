/- The plain law of paths, third part: what Path answers; the valid graph's facts. No program in sight. -/
import Derived.Test.YtaongngoacbodaaDoorPathLaw2
import Derived.Test.YtaongngoacbodaaDoorGr3
namespace Go.Proofs.YtaongngoacbodaaDoor

/-- What Path answers: a list of vertices and a number. -/
def PathIs (V : Int) (E : List (BitVec 32)) (s t : Int) (inner : BitVec 32) (Z : List Nat) (code : Int) : Prop :=
  (validB V E = false ∧ code = 140 ∧ Z = []) ∨
  (validB V E = true ∧ (s < 0 ∨ t < 0 ∨ V ≤ s ∨ V ≤ t) ∧ code = 141 ∧ Z = []) ∨
  (validB V E = true ∧ 0 ≤ s ∧ 0 ≤ t ∧ s < V ∧ t < V ∧ s = t ∧ code = 0 ∧ Z = [s.toNat]) ∨
  (validB V E = true ∧ 0 ≤ s ∧ 0 ≤ t ∧ s < V ∧ t < V ∧ s ≠ t ∧ code = 0 ∧ ((Z = [] ∧ ∀ p, IsP E s.toNat t.toNat inner p → p.head? ≠ some s.toNat) ∨ Best E s.toNat t.toNat inner Z))
theorem pathIs_uniq {V : Int} {E : List (BitVec 32)} {s t : Int} {inner : BitVec 32} {Z Y : List Nat} {c d : Int} (h : PathIs V E s t inner Z c) (h' : PathIs V E s t inner Y d) : Z = Y ∧ c = d := by
  have key : ∀ {Z Y : List Nat}, ((Z = [] ∧ ∀ p, IsP E s.toNat t.toNat inner p → p.head? ≠ some s.toNat) ∨ Best E s.toNat t.toNat inner Z) → ((Y = [] ∧ ∀ p, IsP E s.toNat t.toNat inner p → p.head? ≠ some s.toNat) ∨ Best E s.toNat t.toNat inner Y) → Z = Y := by
    intro Z Y a7 b7
    rcases a7 with ⟨rfl, a7⟩ | a7 <;> rcases b7 with ⟨rfl, b7⟩ | b7
    · rfl
    · exact absurd b7.2.1 (a7 _ b7.1)
    · exact absurd a7.2.1 (b7 _ a7.1)
    · exact best_uniq a7 b7
  rcases h with ⟨a1, a8, a9⟩ | ⟨a1, a2, a8, a9⟩ | ⟨a1, a2, a3, a4, a5, a6, a8, a9⟩ | ⟨a1, a2, a3, a4, a5, a6, a8, a9⟩ <;>
  rcases h' with ⟨b1, b8, b9⟩ | ⟨b1, b2, b8, b9⟩ | ⟨b1, b2, b3, b4, b5, b6, b8, b9⟩ | ⟨b1, b2, b3, b4, b5, b6, b8, b9⟩ <;>
  first
    | (rw [a1] at b1; cases b1; done)
    | omega
    | exact ⟨a9.trans b9.symm, a8.trans b8.symm⟩
    | exact ⟨key a9 b9, a8.trans b8.symm⟩

/-- The vertices that may be passed, as the program cuts them. -/
def inn_ (V : Int) (s t : Nat) (inner : BitVec 32) : BitVec 32 := inner &&& (allOf V &&& ~~~(1#32 <<< s ||| 1#32 <<< t))
theorem edge_lt {V : Int} {E : List (BitVec 32)} (hv : validB V E = true) : ∀ e, e ∈ E → ∀ u, e.getLsbD u = true → u < V.toNat := by
  obtain ⟨h0, h1, _, h3⟩ := validB_of hv
  intro e he u hu
  have h4 : outB V e = false := by
    have := List.any_eq_false.1 h3 e he
    simpa using this
  rcases Nat.lt_or_ge u V.toNat with c | c
  · exact c
  · have := outB_true_of h0 h1 (k := u) (by omega) (by rw [inB_nat]; exact hu)
    rw [h4] at this; cases this
theorem given_of {V : Int} {E : List (BitVec 32)} {s t : Nat} {inner : BitVec 32} (hv : validB V E = true) (hs : (s : Int) < V) (ht : (t : Int) < V) (hne : s ≠ t) : Given E s t V.toNat inner (inn_ V s t inner) := by
  obtain ⟨h0, h1, _, _⟩ := validB_of hv
  refine ⟨edge_lt hv, by omega, by omega, hne, by omega, fun u => ?_⟩
  unfold inn_
  rw [BitVec.getLsbD_and, BitVec.getLsbD_and, getLsbD_allOf V (by omega), BitVec.getLsbD_not, BitVec.getLsbD_or, getLsbD_one_shl _ _ (by omega), getLsbD_one_shl _ _ (by omega)]
  simp only [Bool.and_eq_true, decide_eq_true_eq, Bool.not_eq_true', Bool.or_eq_false_iff, decide_eq_false_iff_not]
  constructor
  · rintro ⟨a, b, _, c, d⟩; exact ⟨a, c, d, b⟩
  · rintro ⟨a, c, d, b⟩; exact ⟨a, b, by omega, c, d⟩
/-- What the search has found out. -/
def Found (E : List (BitVec 32)) (s t : Nat) (inner inn : BitVec 32) (f : Nat → Nat) : Prop :=
  (f s = 0 ∧ ∀ p, IsP E s t inner p → p.head? ≠ some s) ∨ (f s ≠ 0 ∧ ∃ n L S, Inv E s t inner inn n f L S)
theorem Found.no {E : List (BitVec 32)} {s t : Nat} {inner inn : BitVec 32} {f : Nat → Nat} (h : Found E s t inner inn f) (h0 : f s = 0) : ∀ p, IsP E s t inner p → p.head? ≠ some s := by
  rcases h with h | h
  · exact h.2
  · exact absurd h0 h.1
theorem Found.yes {E : List (BitVec 32)} {s t : Nat} {inner inn : BitVec 32} {f : Nat → Nat} (h : Found E s t inner inn f) (h0 : f s ≠ 0) : ∃ n L S, Inv E s t inner inn n f L S := by
  rcases h with h | h
  · exact absurd h.1 h0
  · exact h.2
theorem bitsOf_len (s : BitVec 32) : (bitsOf s).length ≤ 32 := by
  unfold bitsOf
  have := List.length_filter_le (fun v => s.getLsbD v) (List.range 32)
  rw [List.length_range] at this
  exact this
theorem roundsLeft_le (L S : BitVec 32) : roundsLeft L S ≤ 33 := by
  unfold roundsLeft
  have := bitsOf_len (~~~S)
  split <;> omega
/-- The numbers of steps, as the array holds them. -/
def fl (f : Nat → Nat) : List Int := (List.range 30).map fun v => (f v : Int)
theorem fl_length (f : Nat → Nat) : (fl f).length = 30 := by simp [fl]
theorem fl_at (f : Nat → Nat) (v : Nat) (h : v < 30) : (is (fl f))[v]? = some (.int .i64 (f v)) := by simp [is, fl, h]
theorem fl_set (f : Nat → Nat) (v x : Nat) (h : v < 30) : (is (fl f)).set v (.int .i64 x) = is (fl fun u => if u = v then x else f u) := by
  apply List.ext_getElem?
  intro i
  rw [List.getElem?_set]
  by_cases c : v = i
  · subst c
    rw [if_pos rfl, if_pos (by simp [is, fl, h]), fl_at _ _ h]; simp
  · rw [if_neg c]
    by_cases d : i < 30
    · rw [fl_at _ _ d, fl_at _ _ d, if_neg (Ne.symm c)]
    · simp [is, fl, d]
theorem fl_congr {f g : Nat → Nat} (h : ∀ v, v < 30 → f v = g v) : fl f = fl g := by
  unfold fl
  apply List.map_congr_left
  intro v hv
  rw [h v (List.mem_range.1 hv)]
end Go.Proofs.YtaongngoacbodaaDoor
