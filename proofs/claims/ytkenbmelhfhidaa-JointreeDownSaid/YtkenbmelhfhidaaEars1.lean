/- A removal in memory; the contracts of ears.kind and ears.lonely. -/
import Derived.Test.YtkenbmelhfhidaaZed
import Derived.Test.YtkenbmelhfhidaaEarLaw2
import Derived.Deep.RegionWith
import Derived.Deep.DrawnRows
namespace Go.Proofs.Ytkenbmelhfhidaa
open Go.RowKit

attribute [local go_sem ↓] uz_and uz_or uz_andNot uz_and_one uz_shr uz_shl_one uz_shl uz_sub uz_sub_one uz_add uz_beq_zero uz_bne_zero uz_beq uz_bne uz_beq_one

/-- The cells of a removal: seven sets, which are there, how many, what is kept. -/
def remL (S : Nat → BitVec 32) (T : Nat → Bool) (n : Nat) (keep : BitVec 32) : List Value :=
  (List.range 16).map fun i => if i < 7 then .int .u32 (uz (S i)) else if i < 14 then .bool (T (i - 7)) else if i = 14 then .int .i64 n else .int .u32 (uz keep)
theorem remL_at (S : Nat → BitVec 32) (T : Nat → Bool) (n : Nat) (keep : BitVec 32) (i : Nat) (h : i < 16) : (remL S T n keep)[i]? = some (if i < 7 then .int .u32 (uz (S i)) else if i < 14 then .bool (T (i - 7)) else if i = 14 then .int .i64 n else .int .u32 (uz keep)) := by
  simp [remL, h]
theorem remL_set (S S' : Nat → BitVec 32) (T T' : Nat → Bool) (n : Nat) (keep : BitVec 32) (k : Nat) (v : Value) (hk : k < 16) (h : ∀ i, i < 16 → (remL S' T' n keep)[i]? = if i = k then some v else (remL S T n keep)[i]?) : (remL S T n keep).set k v = remL S' T' n keep := by
  apply List.ext_getElem?
  intro i
  rw [List.getElem?_set]
  have hl : ∀ S T, (remL S T n keep).length = 16 := fun S T => by simp [remL]
  by_cases hi : i < 16
  · rw [h i hi]
    by_cases e : k = i
    · subst e; rw [if_pos rfl, if_pos rfl, if_pos (by rw [hl]; exact hk)]
    · rw [if_neg e, if_neg (Ne.symm e)]
  · rw [if_neg (by omega), List.getElem?_eq_none (by rw [hl]; omega), List.getElem?_eq_none (by rw [hl]; omega)]
theorem remL_setS (S : Nat → BitVec 32) (T : Nat → Bool) (n : Nat) (keep : BitVec 32) (k : Nat) (x : BitVec 32) (hk : k < 7) : (remL S T n keep).set k (.int .u32 (uz x)) = remL (updS S k x) T n keep :=
  remL_set S _ T T n keep k _ (by omega) fun i hi => by
    rw [remL_at _ _ _ _ i hi, remL_at _ _ _ _ i hi]
    by_cases e : i = k
    · subst e; rw [if_pos rfl, if_pos hk]; simp [updS]
    · rw [if_neg e]; simp [updS, e]
theorem remL_setT (S : Nat → BitVec 32) (T : Nat → Bool) (n : Nat) (keep : BitVec 32) (k : Nat) (b : Bool) (hk : k < 7) : (remL S T n keep).set (7 + k) (.bool b) = remL S (updT T k b) n keep :=
  remL_set S S T _ n keep (7 + k) _ (by omega) fun i hi => by
    rw [remL_at _ _ _ _ i hi, remL_at _ _ _ _ i hi]
    by_cases e : i = 7 + k
    · subst e; rw [if_pos rfl, if_neg (by omega), if_pos (by omega)]; simp [updT]
    · rw [if_neg e]
      by_cases e1 : i < 7
      · rw [if_pos e1, if_pos e1]
      · rw [if_neg e1, if_neg e1]
        by_cases e2 : i < 14
        · rw [if_pos e2, if_pos e2]; simp [updT, show ¬ i - 7 = k by omega]
        · rw [if_neg e2, if_neg e2]
/-- Block g is a removal. -/
def Rem (w : World) (g : Nat) (S : Nat → BitVec 32) (T : Nat → Bool) (n : Nat) (keep : BitVec 32) : Prop := Row w g 135 (remL S T n keep)
section
variable {w w' : World} {g n : Nat} {S : Nat → BitVec 32} {T : Nat → Bool} {keep : BitVec 32} {B : Nat}
theorem Rem.set_cell (h : Rem w g S T n keep) {k : Nat} (hk : k < 7) : w.cell? ⟨g, k, none⟩ = some (.int .u32 (uz (S k))) := by
  rw [Row.cell h, remL_at _ _ _ _ k (by omega), if_pos hk]
theorem Rem.there_cell (h : Rem w g S T n keep) {k : Nat} (hk : k < 7) : w.cell? ⟨g, 7 + k, none⟩ = some (.bool (T k)) := by
  rw [Row.cell h, remL_at _ _ _ _ (7 + k) (by omega), if_neg (by omega), if_pos (by omega)]; simp
theorem Rem.n_cell (h : Rem w g S T n keep) : w.cell? ⟨g, 14, none⟩ = some (.int .i64 n) := by
  rw [Row.cell h, remL_at _ _ _ _ 14 (by omega)]; simp
theorem Rem.keep_cell (h : Rem w g S T n keep) : w.cell? ⟨g, 15, none⟩ = some (.int .u32 (uz keep)) := by
  rw [Row.cell h, remL_at _ _ _ _ 15 (by omega)]; simp
theorem Rem.below (h : Rem w g S T n keep) (hb : Below B w w') (hg : g < B) : Rem w' g S T n keep := Row.below h hb hg
theorem Rem.later (h : Rem w g S T n keep) (hb : Below w.heap.size w w') : Rem w' g S T n keep := Row.later h hb
theorem Rem.drewN (h : Rem w g S T n keep) (m : Nat) : Rem (w.drewN m) g S T n keep := h
end

theorem kind_any (w : World) (g n : Nat) (S : Nat → BitVec 32) (T : Nat → Bool) (keep : BitVec 32) (h : Rem w g S T n keep) (i j : Nat) (hi : i < 7) (hj : j < 7) :
    Calls Try.prog 116 #[.pointer (some ⟨g, 0, none⟩), .int .i64 i, .int .i64 j] w fun e w' => e = .returned (.int .i64 (kindZ S T i j)) ∧ ∃ m, w' = w.drewN m := by
  have a1 : (0 : Int) ≤ i := by omega
  have a2 : (i : Int) < 7 := by omega
  have a3 : (0 : Int) ≤ j := by omega
  have a4 : (j : Int) < 7 := by omega
  have c1 := h.set_cell hi
  have c2 := h.set_cell hj
  have c3 := h.there_cell hi
  have c4 := h.there_cell hj
  by_cases hij : i = j
  · have e : ((i : Int) == (j : Int)) = true := by simp [hij]
    have hk : kindZ S T i j = 0 := by unfold kindZ; rw [if_pos (.inl hij)]
    rw [hk]
    clear hij hk
    go_enter Try.func116, Try.ntmps116
    go_wp2_with fail
    all_goals go_ret
    all_goals exact ⟨rfl, 0, rfl⟩
  · have e : ((i : Int) == (j : Int)) = false := by simp; omega
    have hk : kindZ S T i j = if T i = false ∨ T j = false then 0 else if S i = S j then 2 else if subB (S i) (S j) = true then 3 else 0 := by
      unfold kindZ; simp [hij]
    rw [hk]
    clear hk hij
    unfold subB
    generalize T i = ti at c3
    generalize T j = tj at c4
    generalize S i = si at c1
    generalize S j = sj at c2
    cases ti
    · simp only [true_or, if_true]
      go_enter Try.func116, Try.ntmps116
      go_wp2_with fail
      all_goals go_ret
      all_goals exact ⟨rfl, 0, rfl⟩
    · cases tj
      · simp only [or_true, if_true]
        go_enter Try.func116, Try.ntmps116
        go_wp2_with fail
        all_goals go_ret
        all_goals exact ⟨rfl, 0, rfl⟩
      · simp only [Bool.true_eq_false, or_self, if_false]
        by_cases hs : si = sj
        · have hb : (si == sj) = true := by simp [hs]
          rw [if_pos hs]
          clear hs
          go_enter Try.func116, Try.ntmps116
          go_wp2_with fail
          go_quiet (fail)
          go_wp2_with fail
          go_ret
          exact ⟨rfl, _, rfl⟩
        · have hb : (si == sj) = false := by simp [hs]
          rw [if_neg hs]
          clear hs
          cases hz : (si &&& ~~~sj == 0#32)
          all_goals
            go_enter Try.func116, Try.ntmps116
            go_wp2_with fail
            go_quiet (fail)
            go_wp2_with fail
            go_quiet (fail)
            go_wp2_with fail
            go_ret
            exact ⟨rfl, _, rfl⟩
theorem lonely_any (w : World) (g n : Nat) (S : Nat → BitVec 32) (T : Nat → Bool) (keep : BitVec 32) (h : Rem w g S T n keep) (hn : n ≤ 7) (i : Nat) (hi : i < 7) :
    Calls Try.prog 115 #[.pointer (some ⟨g, 0, none⟩), .int .i64 i] w fun e w' => e = .returned (.int .u32 (uz (loneTo S T keep i n))) ∧ ∃ m, w' = w.drewN m := by
  have a1 : (0 : Int) ≤ i := by omega
  have a2 : (i : Int) < 7 := by omega
  have c1 := h.set_cell hi
  have c2 := h.keep_cell
  have c3 := h.n_cell
  obtain ⟨l0, hl0⟩ : ∃ l, loneTo S T keep i 0 = l := ⟨_, rfl⟩
  have hd : S i &&& ~~~keep = l0 := hl0
  go_enter Try.func115, Try.ntmps115
  go_wp2_with fail
  go_quiet (fail)
  go_wp2_with fail
  go_loopw [5, 6, 22] (fun s _ j wr => ∃ k : Nat, k ≤ n ∧ j = .int .i64 k ∧ s = .int .u32 (uz (loneTo S T keep i k)) ∧ ∃ m, wr = w.drewN m) (fun _ _ j _ => n - (intOf j).toNat)
  case atStart => exact ⟨0, Nat.zero_le _, rfl, by rw [hl0], _, rfl⟩
  case round =>
    obtain ⟨k, hk, rfl, rfl, m, rfl⟩ := hrel
    have h' := h.drewN m
    by_cases hlt : k < n
    · have b1 : (0 : Int) ≤ k := by omega
      have b2 : (k : Int) < 7 := by omega
      have d1 := h'.set_cell (show k < 7 by omega)
      have d2 := h'.there_cell (show k < 7 by omega)
      by_cases hki : k = i
      · have hb : ((k : Int) != (i : Int)) = false := by simp [hki]
        have HS := Lib.hid (loneTo_f (S := S) (T := T) (keep := keep) (i := i) (k := k) (fun c => c.1 hki))
        clear hki hd hl0
        generalize S k = sk at d1
        generalize T k = tk at d2
        go_wp2_with fail
        go_roundw
        case rel => exact ⟨k + 1, by omega, by go_num, by rw [HS.out], _, rfl⟩
        case measure => simp [intOf]; omega
      · have hb : ((k : Int) != (i : Int)) = true := by simp; omega
        cases ht : T k
        · have HS := Lib.hid (loneTo_f (S := S) (T := T) (keep := keep) (i := i) (k := k) (fun c => by rw [ht] at c; cases c.2))
          rw [ht] at d2
          clear hki hd hl0 ht
          generalize S k = sk at d1
          go_wp2_with fail
          go_roundw
          case rel => exact ⟨k + 1, by omega, by go_num, by rw [HS.out], _, rfl⟩
          case measure => simp [intOf]; omega
        · have HS := Lib.hid (loneTo_t (S := S) (T := T) (keep := keep) (i := i) (k := k) hki ht)
          rw [ht] at d2
          clear hki hd hl0 ht
          generalize S k = sk at d1 HS
          go_wp2_with fail
          go_roundw
          case rel => exact ⟨k + 1, by omega, by go_num, by rw [HS.out], _, rfl⟩
          case measure => simp [intOf]; omega
    · obtain rfl : k = n := by omega
      go_wp2_with fail
      go_ret
      exact ⟨rfl, _, rfl⟩
end Go.Proofs.Ytkenbmelhfhidaa
