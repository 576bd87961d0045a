/- slices.Sort of few words: what it calls. -/
import Derived.Test.YtkenbmelhfhidaaJtW8
import Derived.StillTailTactics
namespace Go.Proofs.Ytkenbmelhfhidaa
open Go.RowKit

theorem isNaN_any (x : Int) (w : World) : Calls Try.prog 139 #[.int .u32 x] w fun e w' => e = .returned (.bool false) ∧ w = w' := by
  go_enter Try.func139, Try.ntmps139
  go_wp2
  go_ret
  exact ⟨by first | rfl | simp, rfl⟩
theorem less_any (x y : Int) (w : World) : Calls Try.prog 129 #[.int .u32 x, .int .u32 y] w fun e w' => e = .returned (.bool (decide (x < y))) ∧ w = w' := by
  obtain ⟨b, hb⟩ : ∃ b, decide (x < y) = b := ⟨_, rfl⟩
  go_enter Try.func129, Try.ntmps129
  go_wp2_with fail
  refine (isNaN_any x w).mono ?_
  rintro e w1 ⟨rfl, rfl⟩
  go_wp2_with fail
  go_ret
  exact ⟨by first | (rw [hb]; rfl) | rw [hb] | simp [hb], rfl⟩
set_option maxRecDepth 100000 in
theorem len64_few (n : Nat) (h : n ≤ 7) (w : World) : Calls Try.prog 133 #[.int .u64 n] w fun e w' => (∃ m, e = .returned (.int .i64 m)) ∧ w = w' := by
  have hc : n = 0 ∨ n = 1 ∨ n = 2 ∨ n = 3 ∨ n = 4 ∨ n = 5 ∨ n = 6 ∨ n = 7 := by omega
  rcases hc with rfl | rfl | rfl | rfl | rfl | rfl | rfl | rfl
  all_goals
    go_enter Try.func133, Try.ntmps133
    go_wp2
    go_ret
    exact ⟨⟨_, rfl⟩, rfl⟩
theorem len_few (n : Nat) (h : n ≤ 7) (w : World) : Calls Try.prog 118 #[.int .u64 n] w fun e w' => (∃ m, e = .returned (.int .i64 m)) ∧ w = w' := by
  go_enter Try.func118, Try.ntmps118
  go_wp2_with fail
  refine (len64_few n h w).mono ?_
  rintro e w' ⟨⟨m, rfl⟩, rfl⟩
  go_wp2
  go_ret
  exact ⟨⟨_, rfl⟩, rfl⟩

/-! ### A row whose first n words a function tells, the rest unknown -/
def srow (n : Nat) (f : Nat → BitVec 32) (R : List Value) : List Value := us (wrow n f) ++ R
theorem srow_at {n k : Nat} {f : Nat → BitVec 32} {R : List Value} (h : k < n) : (srow n f R)[k]? = some (.int .u32 (uz (f k))) := by
  unfold srow
  rw [List.getElem?_append_left (by simpa using h)]
  unfold us wrow; simp [h]
theorem srow_set {n k : Nat} {f : Nat → BitVec 32} {R : List Value} {x : BitVec 32} (h : k < n) : (srow n f R).set k (.int .u32 (uz x)) = srow n (updS f k x) R := by
  unfold srow
  rw [List.set_append_left _ _ (by simpa using h), wrow_set]

/-! ### Insertion -/
def Srtd (f : Nat → BitVec 32) (i : Nat) : Prop := ∀ a b, a < b → b < i → (f a).toNat ≤ (f b).toNat
def Insd (f : Nat → BitVec 32) (i j : Nat) : Prop := (∀ a b, a < b → b ≤ i → a ≠ j → b ≠ j → (f a).toNat ≤ (f b).toNat) ∧ ∀ b, j < b → b ≤ i → (f j).toNat ≤ (f b).toNat
def swp (f : Nat → BitVec 32) (j : Nat) : Nat → BitVec 32 := fun k => if k = j then f (j - 1) else if k = j - 1 then f j else f k
theorem Srtd.start {f : Nat → BitVec 32} {i : Nat} (h : Srtd f i) : Insd f i i := ⟨fun a b h1 h2 _ h4 => h a b h1 (by omega), fun b h1 h2 => by omega⟩
theorem Insd.step {f : Nat → BitVec 32} {i j : Nat} (h : Insd f i j) (h0 : 0 < j) (hj : j ≤ i) (hlt : (f j).toNat < (f (j - 1)).toNat) : Insd (swp f j) i (j - 1) := by
  refine ⟨fun a b h1 h2 h3 h4 => ?_, fun b h1 h2 => ?_⟩
  · unfold swp
    by_cases ha : a = j
    · subst ha
      rw [if_pos rfl, if_neg (by omega), if_neg h4]
      exact h.1 _ _ (by omega) h2 (by omega) (by omega)
    · rw [if_neg ha, if_neg h3]
      by_cases hb : b = j
      · subst hb
        rw [if_pos rfl]
        exact h.1 _ _ (by omega) (by omega) ha (by omega)
      · rw [if_neg hb, if_neg h4]
        exact h.1 _ _ h1 h2 ha hb
  · unfold swp
    rw [if_neg (by omega), if_pos rfl]
    by_cases hb : b = j
    · subst hb; rw [if_pos rfl]; omega
    · rw [if_neg hb, if_neg (by omega)]
      exact h.2 b (by omega) h2
theorem Insd.stop {f : Nat → BitVec 32} {i j : Nat} (h : Insd f i j) (hj : j ≤ i) (he : j = 0 ∨ ¬ (f j).toNat < (f (j - 1)).toNat) : Srtd f (i + 1) := by
  intro a b h1 h2
  by_cases ha : a = j
  · subst ha; exact h.2 b h1 (by omega)
  · by_cases hb : b = j
    · subst hb
      have h5 : (f (b - 1)).toNat ≤ (f b).toNat := by
        rcases he with he | he
        · omega
        · omega
      by_cases hc : a = b - 1
      · subst hc; exact h5
      · exact Nat.le_trans (h.1 a (b - 1) (by omega) (by omega) ha (by omega)) h5
    · exact h.1 a b h1 (by omega) ha hb
theorem swp_upd (f : Nat → BitVec 32) {j : Nat} (h : 0 < j) : updS (updS f j (f (j - 1))) (j - 1) (f j) = swp f j := by
  funext k
  unfold updS swp
  by_cases h1 : k = j - 1
  · simp [h1]
    omega
  · simp [h1]
theorem swp_perm {f : Nat → BitVec 32} {n j : Nat} (h : 0 < j) (hj : j < n) : (wrow n (swp f j)).Perm (wrow n f) := by
  obtain ⟨i, rfl⟩ : ∃ i, j = i + 1 := ⟨j - 1, by omega⟩
  obtain ⟨d, rfl⟩ : ∃ d, n = i + 2 + d := ⟨n - (i + 2), by omega⟩
  have e : ∀ g : Nat → BitVec 32, wrow (i + 2 + d) g = wrow i g ++ (g i :: g (i + 1) :: (List.range d).map fun k => g (i + 2 + k)) := by
    intro g
    unfold wrow
    rw [show i + 2 + d = i + (2 + d) by omega, List.range_add, List.map_append]
    congr 1
    rw [show 2 + d = d + 1 + 1 by omega, List.range_succ_eq_map, List.range_succ_eq_map]
    simp only [List.map_cons, List.map_map, Function.comp_def, Nat.add_zero]
    rw [show i + Nat.succ 0 = i + 1 by omega]
    simp only [List.cons.injEq, true_and]
    apply List.map_congr_left
    intro k _
    congr 1
    omega
  rw [e (swp f (i + 1)), e f]
  have h1 : wrow i (swp f (i + 1)) = wrow i f := by
    unfold wrow
    apply List.map_congr_left
    intro k hk
    have := List.mem_range.1 hk
    unfold swp
    rw [if_neg (by omega), if_neg (by omega)]
  have h2 : ((List.range d).map fun k => swp f (i + 1) (i + 2 + k)) = (List.range d).map fun k => f (i + 2 + k) := by
    apply List.map_congr_left
    intro k hk
    unfold swp
    rw [if_neg (by omega), if_neg (by omega)]
  rw [h1, h2]
  have h3 : swp f (i + 1) i = f (i + 1) := by unfold swp; rw [if_neg (by omega), if_pos (by omega)]
  have h4 : swp f (i + 1) (i + 1) = f i := by unfold swp; rw [if_pos rfl]; rfl
  rw [h3, h4]
  exact List.Perm.append_left _ (List.Perm.swap _ _ _)
end Go.Proofs.Ytkenbmelhfhidaa
