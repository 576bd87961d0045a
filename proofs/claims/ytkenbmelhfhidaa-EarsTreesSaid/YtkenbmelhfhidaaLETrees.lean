/- The walk of osierlaw15.EarsTrees. -/
import Derived.Test.YtkenbmelhfhidaaAcyc
import Derived.Test.YtkenbmelhfhidaaLJBuilt
namespace Go.Proofs.Ytkenbmelhfhidaa
open Go.RowKit

set_option maxHeartbeats 4000000 in
set_option maxRecDepth 100000 in
theorem law_etrees (V : Int) (A : Option Addr) (E : List (BitVec 32)) (c : Nat) (w : World) (hl : E.length ≤ 35184372087808) (hE : Rd w w.heap.size A (us E)) :
    Calls Try.prog 13 #[.agg #[.int .i64 V, .slice A E.length c]] w fun e w' => e = .returned (.bool true) ∧ Below w.heap.size w w' := by
  go_enter Try.func13, Try.ntmps13
  go_wp2_with fail
  have hb0 := below_alloc w (.cells #[.int .i64 V, .slice A E.length c] 24)
  have hG0 : Row (w.alloc (.cells #[.int .i64 V, .slice A E.length c] 24)) w.heap.size 24 [.int .i64 V, .slice A E.length c] := Row.new _ _ _
  generalize w.alloc _ = w0 at hb0 hG0 ⊢
  refine (copy_any V A E c _ hl (hE.later hb0)).mono ?_
  rintro e w1 ⟨g, rfl, hg, hRg, hb1⟩
  have hB1 := bthen hb0 hb1
  have hG1 := hG0.later hb1
  go_wp2_with fail
  refine (acyclic_any V _ E _ w1 hl hRg.rd).mono ?_
  rintro e w2 ⟨rfl, hb2⟩
  have hB2 := bthen hB1 hb2
  have hG2 := hG1.later hb2
  have d0 : w2.cell? ⟨w.heap.size, 0, none⟩ = some (.int .i64 V) := hG2.cell 0
  have d1 : w2.cell? ⟨w.heap.size, 1, none⟩ = some (.slice A E.length c) := hG2.cell 1
  have hE2 := hE.later hB2
  have HC : Hid (codeB V E = if validB V E then 0 else 140) := Lib.hid rfl
  have HF : Hid (validB V E = false → acyB V E = false) := Lib.hid (fun h => by unfold acyB; rw [h, Bool.false_and])
  have HT : Hid (validB V E = true → acyB V E = existsB V.toNat E) := Lib.hid (fun h => by
    rw [Bool.eq_iff_iff, acyB_iff h, existsB_iff (ed_lt h)])
  generalize acyB V E = a at HF HT ⊢
  generalize codeB V E = code at HC ⊢
  clear hE hb0 hG0 hg hRg hb1 hB1 hG1 hb2
  go_wp2_with fail
  refine (r14valid_any V A E c w2 hl hE2).mono ?_
  rintro e w3 ⟨rfl, hb3⟩
  have hB3 := bthen hB2 hb3
  have hG3 := hG2.later hb3
  have hE3 := hE2.later hb3
  have hlt3 := hG3.lt
  cases hv : validB V E
  · obtain rfl : a = false := HF.out hv
    obtain rfl : code = 140 := by rw [HC.out, hv]; rfl
    clear HC HF HT hv d0 d1
    go_wp2_with fail
    refine (awake15_any w3).mono ?_
    rintro e w5 ⟨rfl, hb5⟩
    go_wp2_with fail
    go_ret
    exact ⟨rfl, bthen hB3 hb5⟩
  · obtain rfl : code = 0 := by rw [HC.out, hv]; rfl
    obtain rfl : a = existsB V.toNat E := HT.out hv
    obtain ⟨v0, v1, v2, _⟩ := validB_of hv
    clear HC HF HT hv d0 d1
    go_wp2_with fail
    refine (awake15_any w3).mono ?_
    rintro e w5 ⟨rfl, hb5⟩
    have hB5 := bthen hB3 hb5
    have hG5 := hG3.later hb5
    have e0 : w5.cell? ⟨w.heap.size, 0, none⟩ = some (.int .i64 V) := hG5.cell 0
    have e1 : w5.cell? ⟨w.heap.size, 1, none⟩ = some (.slice A E.length c) := hG5.cell 1
    have HK : Hid (Calls Try.prog 39 #[.agg #[.int .i64 V, .slice A E.length c]] w5 fun e w' => e = .returned (.bool (existsB V.toNat E)) ∧ Below w5.heap.size w5 w') := Lib.hid (by
      have := exists_any V.toNat A E c w5 (by omega) v2 (hE3.later hb5)
      rw [Int.toNat_of_nonneg v0] at this; exact this)
    clear v0 v1 v2
    generalize existsB V.toNat E = b at HK ⊢
    go_wp2_with fail
    refine HK.out.mono ?_
    rintro e w6 ⟨rfl, hb6⟩
    go_wp2_with fail
    go_ret
    exact ⟨by first | rfl | simp, bthen hB5 hb6⟩
end Go.Proofs.Ytkenbmelhfhidaa
