/- The walk of osierlaw16.JointreeBuilt. -/
import Derived.Test.YtkenbmelhfhidaaJtW3
import Derived.Test.YtkenbmelhfhidaaJtW10
namespace Go.Proofs.Ytkenbmelhfhidaa
open Go.RowKit

theorem ed_lt {V : Int} {E : List (BitVec 32)} (h : validB V E = true) : ∀ i v, i < E.length → hv (ed E i) v → v < V.toNat := by
  obtain ⟨h0, h1, _, h2⟩ := validB_of h
  intro i v hi hh
  apply Classical.byContradiction
  intro hc
  have h3 := outB_true_of (x := ed E i) h0 h1 (k := v) (by omega) (by rw [inB_nat]; exact hh)
  have h4 : outB V (ed E i) = false := by
    rw [List.any_eq_false] at h2
    have := h2 E[i] (List.getElem_mem hi)
    rw [show E[i] = ed E i by simp [ed, hi]] at this
    simpa using this
  rw [h4] at h3; cases h3

theorem bool_case {V : Int} {E : List (BitVec 32)} {Z : List Int} {a : Int} (h : BuildIs V E Z a) :
    (validB V E = false ∧ a = 140) ∨ (validB V E = true ∧ a = 0 ∧ checkB V E Z = true) ∨ (validB V E = true ∧ a = 161 ∧ Z = [] ∧ existsB V.toNat E = false) := by
  obtain ⟨h1, h2⟩ := buildIs_jt h
  by_cases h0 : a = 0
  · obtain ⟨a1, a2, a3⟩ := h1 h0
    exact .inr (.inl ⟨a2, h0, (checkB_iff V E Z).2 ⟨a2, a1, a3⟩⟩)
  · obtain ⟨a1, a2 | a2⟩ := h2 h0
    · exact .inl ⟨a2.1, a2.2⟩
    · refine .inr (.inr ⟨a2.1, a2.2.1, a1, ?_⟩)
      cases hx : existsB V.toNat E
      · rfl
      · exact absurd ((existsB_iff (ed_lt a2.1)).1 hx) a2.2.2

set_option maxHeartbeats 4000000 in
set_option maxRecDepth 100000 in
theorem law_jbuilt (V : Int) (A : Option Addr) (E : List (BitVec 32)) (c : Nat) (w : World) (hl : E.length ≤ 35184372087808) (hE : Rd w w.heap.size A (us E)) :
    Calls Try.prog 5 #[.agg #[.int .i64 V, .slice A E.length c]] w fun e w' => e = .returned (.bool true) ∧ Below w.heap.size w w' := by
  go_enter Try.func5, Try.ntmps5
  go_wp2_with fail
  have hb0 := below_alloc w (.cells #[.int .i64 V, .slice A E.length c] 24)
  have hG0 : Row (w.alloc (.cells #[.int .i64 V, .slice A E.length c] 24)) w.heap.size 24 [.int .i64 V, .slice A E.length c] := Row.new _ _ _
  generalize w.alloc _ = w0 at hb0 hG0 ⊢
  refine (copy_any V A E c _ hl (hE.later hb0)).mono ?_
  rintro e w1 ⟨g, rfl, hg, hRg, hb1⟩
  have hB1 := bthen hb0 hb1
  have hG1 := hG0.later hb1
  go_wp2_with fail
  refine (build_any V _ E _ w1 hl hRg.rd).mono ?_
  rintro e w2 ⟨v, Z, code, rfl, hown, hBI, hb2⟩
  have hB2 := bthen hB1 hb2
  have hG2 := hG1.later hb2
  have HC := Lib.hid (bool_case hBI.out)
  have hZ7 := buildIs_len hBI.out
  obtain ⟨A', c', rfl, _, _, hZ, _⟩ := Rd.of_own hown
  have d0 : w2.cell? ⟨w.heap.size, 0, none⟩ = some (.int .i64 V) := hG2.cell 0
  have d1 : w2.cell? ⟨w.heap.size, 1, none⟩ = some (.slice A E.length c) := hG2.cell 1
  have hE2 := hE.later hB2
  clear hE hb0 hG0 hg hRg hb1 hB1 hG1 hb2 hown hBI
  go_wp2_with fail
  refine (r14valid_any V A E c w2 hl hE2).mono ?_
  rintro e w3 ⟨rfl, hb3⟩
  have hB3 := bthen hB2 hb3
  have hG3 := hG2.later hb3
  have hE3 := hE2.later hb3
  have hZ3 := hZ.later hb3
  have e0 : w3.cell? ⟨w.heap.size, 0, none⟩ = some (.int .i64 V) := hG3.cell 0
  have e1 : w3.cell? ⟨w.heap.size, 1, none⟩ = some (.slice A E.length c) := hG3.cell 1
  clear d0 d1 hG2 hE2 hZ hb3 hB2
  rcases HC.out with ⟨hv, rfl⟩ | ⟨hv, rfl, hck⟩ | ⟨hv, rfl, rfl, hex⟩
  · rw [hv]
    clear hv HC
    go_wp2_with fail
    refine (awake16_any w3).mono ?_
    rintro e w5 ⟨rfl, hb5⟩
    go_wp2_with fail
    go_ret
    exact ⟨rfl, bthen hB3 hb5⟩
  · rw [hv]
    have HK : Hid (Calls Try.prog 33 #[.agg #[.int .i64 V, .slice A E.length c], .slice A' Z.length c'] w3 fun e w' => e = .returned (.bool true) ∧ Below w3.heap.size w3 w') := Lib.hid (by
      have := r16check_any V A A' E Z c c' w3 hl (by omega) hE3 hZ3
      rw [hck] at this; exact this)
    clear hv HC hck
    go_wp2_with fail
    refine HK.out.mono ?_
    rintro e w4 ⟨rfl, hb4⟩
    go_wp2_with fail
    refine (awake16_any w4).mono ?_
    rintro e w5 ⟨rfl, hb5⟩
    go_wp2_with fail
    go_ret
    exact ⟨rfl, bthen (bthen hB3 hb4) hb5⟩
  · obtain ⟨v0, v1, v2, _⟩ := validB_of hv
    rw [hv]
    have HK : Hid (Calls Try.prog 39 #[.agg #[.int .i64 V, .slice A E.length c]] w3 fun e w' => e = .returned (.bool false) ∧ Below w3.heap.size w3 w') := Lib.hid (by
      have := exists_any V.toNat A E c w3 (by omega) v2 hE3
      rw [hex, Int.toNat_of_nonneg v0] at this; exact this)
    clear hv HC hex v0 v1 v2
    go_wp2_with fail
    refine HK.out.mono ?_
    rintro e w4 ⟨rfl, hb4⟩
    go_wp2_with fail
    refine (awake16_any w4).mono ?_
    rintro e w5 ⟨rfl, hb5⟩
    go_wp2_with fail
    go_ret
    exact ⟨rfl, bthen (bthen hB3 hb4) hb5⟩
end Go.Proofs.Ytkenbmelhfhidaa
