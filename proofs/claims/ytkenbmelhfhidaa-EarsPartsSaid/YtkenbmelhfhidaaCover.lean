/- The contract of osierref14.All; a graph with an edge that has all vertices is acyclic. -/
import Derived.Test.YtkenbmelhfhidaaAcyc
import Derived.Test.YtkenbmelhfhidaaLJBuilt
namespace Go.Proofs.Ytkenbmelhfhidaa
open Go.RowKit

attribute [local go_sem ↓] uz_and uz_or uz_andNot uz_and_one uz_shr uz_shl_one uz_shl uz_sub uz_sub_one uz_add uz_beq_zero uz_bne_zero uz_beq uz_bne uz_beq_one

theorem allOf_next {k : Nat} (h : k < 30) : allOf (k : Int) + 1#32 <<< k = allOf ((k + 1 : Nat) : Int) := by
  have : ∀ k : Fin 30, allOf ((k : Nat) : Int) + 1#32 <<< (k : Nat) = allOf (((k : Nat) + 1 : Nat) : Int) := by decide
  exact this ⟨k, h⟩

set_option maxHeartbeats 2000000 in
set_option maxRecDepth 100000 in
theorem r14all_any (V : Nat) (A : Option Addr) (n c : Nat) (w : World) (hV : V ≤ 30) :
    Calls Try.prog 60 #[.agg #[.int .i64 V, .slice A n c]] w fun e w' => e = .returned (.int .u32 (uz (allOf V))) ∧ Below w.heap.size w w' := by
  go_enter Try.func60, Try.ntmps60
  go_upto_region 1 with fail
  have hb0 := below_alloc w (.cells #[.int .i64 V, .slice A n c] 24)
  have hG0 : Row (w.alloc (.cells #[.int .i64 V, .slice A n c] 24)) w.heap.size 24 [.int .i64 V, .slice A n c] := Row.new _ _ _
  generalize w.alloc _ = W0 at hb0 hG0 ⊢
  have d0 : W0.cell? ⟨w.heap.size, 0, none⟩ = some (.int .i64 V) := hG0.cell 0
  go_wp2_with fail
  go_loop [3, 4] (fun s i => ∃ k : Nat, k ≤ V ∧ i = .int .i64 k ∧ s = .int .u32 (uz (allOf k))) (fun _ i => V - (intOf i).toNat)
  case atStart => exact ⟨0, Nat.zero_le _, rfl, rfl⟩
  case round =>
    obtain ⟨k, hk, rfl, rfl⟩ := hrel
    by_cases hlt : k < V
    · have HN := Lib.hid (allOf_next (show k < 30 by omega))
      have b1 : (k : Int) < V := by omega
      have b2 : (k : Int) < 32 := by omega
      have b3 : (0 : Int) ≤ k := by omega
      generalize allOf (k : Int) = x at HN ⊢
      go_wp2_with fail
      go_round
      case rel => exact ⟨k + 1, by omega, by go_num, by rw [← HN.out]⟩
      case measure => simp [intOf]; omega
    · obtain rfl : k = V := by omega
      go_wp2_with fail
      go_ret
      exact ⟨rfl, hb0⟩

/-! ### One edge that has all vertices -/
theorem ed_app (E : List (BitVec 32)) (x : BitVec 32) (i : Nat) : ed (E ++ [x]) i = if i < E.length then ed E i else if i = E.length then x else 0#32 := by
  unfold ed
  by_cases h : i < E.length
  · rw [if_pos h]; simp [List.getD, List.getElem?_append_left h]
  · rw [if_neg h]
    by_cases h2 : i = E.length
    · subst h2; simp [List.getD]
    · rw [if_neg h2]
      simp only [List.getD]
      rw [List.getElem?_eq_none (by simp; omega)]; rfl
theorem cover_valid {V : Int} {E : List (BitVec 32)} (h : validB V E = true) (h6 : E.length ≤ 6) : validB V (E ++ [allOf V]) = true := by
  obtain ⟨h0, h1, _, h2⟩ := validB_of h
  unfold validB
  have h3 : outB V (allOf V) = false := by unfold outB; simp
  rw [List.any_append, h2]
  simp [h0, h1, h3]; omega
theorem cover_jt {V : Int} {E : List (BitVec 32)} (h : validB V E = true) (h6 : E.length ≤ 6) : ∃ p, JT (E ++ [allOf V]) p := by
  have hl : (E ++ [allOf V]).length = E.length + 1 := by simp
  have hlt := ed_lt h
  have h30 := (validB_of h).2.1
  refine ⟨fun i => if i < E.length then (E.length : Int) else -1, ⟨fun i hi => ?_, ⟨fun i => if i < E.length then 1 else 0, fun i hi h0 => ?_⟩, fun i j hi hj a b => ?_⟩, fun v i j hi hj a b => ?_⟩
  · rw [hl] at hi ⊢
    show -1 ≤ (if i < E.length then (E.length : Int) else -1) ∧ (if i < E.length then (E.length : Int) else -1) < _
    split <;> omega
  · rw [hl] at hi
    by_cases c : i < E.length
    · simp [c]
    · simp [c] at h0
  · rw [hl] at hi hj
    by_cases c : i < E.length
    · simp [c] at a
    · by_cases d : j < E.length
      · simp [d] at b
      · omega
  · rw [hl] at hi hj
    have key : ∀ i, i < E.length + 1 → Top (E ++ [allOf V]) (fun i => if i < E.length then (E.length : Int) else -1) v i → i = E.length := by
      intro i hi a
      by_cases c : i < E.length
      · exfalso
        obtain ⟨a1, a2⟩ := a
        rw [ed_app, if_pos c] at a1
        have hvv := hlt i v c a1
        simp only [c, if_true] at a2
        rcases a2 with a2 | a2
        · omega
        · apply a2
          rw [Int.toNat_natCast, ed_app, if_neg (by omega), if_pos rfl]
          show (allOf V).getLsbD v = true
          rw [getLsbD_allOf V (by omega)]
          simpa using hvv
      · omega
    rw [key i hi a, key j hj b]
theorem cover_acy {V : Int} {E : List (BitVec 32)} (h : validB V E = true) (h6 : E.length ≤ 6) : acyB V (E ++ [allOf V]) = true ∧ codeB V (E ++ [allOf V]) = 0 := by
  have h2 := cover_valid h h6
  exact ⟨(acyB_iff h2).2 (cover_jt h h6), by unfold codeB; rw [h2]; rfl⟩
end Go.Proofs.Ytkenbmelhfhidaa
