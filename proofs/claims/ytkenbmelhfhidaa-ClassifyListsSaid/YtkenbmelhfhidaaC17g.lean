/- The contract of osierref17.Classify. -/
import Derived.Test.YtkenbmelhfhidaaC17f
import Derived.Test.YtkenbmelhfhidaaClassLaw2
namespace Go.Proofs.Ytkenbmelhfhidaa
open Go.RowKit

theorem exists_acy {V : Nat} {E : List (BitVec 32)} (hv : validB V E = true) : existsB V E = acyB V E := by
  rw [Bool.eq_iff_iff, acyB_iff hv]
  exact existsB_iff (fun i v hi hh => ed_lt hv i v hi hh)

set_option maxHeartbeats 40000000 in
set_option maxRecDepth 100000 in
theorem r17classify_any (V : Int) (A : Option Addr) (E : List (BitVec 32)) (c : Nat) (head : BitVec 32) (w : World) (hl : E.length ≤ 35184372087808) (hE : Rd w w.heap.size A (us E)) :
    Calls Try.prog 68 #[.agg #[.int .i64 V, .slice A E.length c], .int .u32 (uz head)] w fun e w' => ∃ (a x h : Bool) (code : Int), e = .returned (.tuple #[.bool a, .bool x, .bool h, .int .i64 code]) ∧ Hid (ClassIs V E head a x h code) ∧ Below w.heap.size w w' := by
  go_enter Try.func68, Try.ntmps68
  go_wp2_with fail
  have hb0 := below_alloc w (.cells #[.int .i64 V, .slice A E.length c] 24)
  have hG0 : Row (w.alloc (.cells #[.int .i64 V, .slice A E.length c] 24)) w.heap.size 24 [.int .i64 V, .slice A E.length c] := Row.new _ _ _
  generalize w.alloc _ = w0 at hb0 hG0 ⊢
  refine (r17extended_any V A E c head w0 hl (hE.later hb0)).mono ?_
  rintro e w1 ⟨V', v, F, code, rfl, hown, hX, hb1⟩
  obtain ⟨A1, c1, rfl, _, _, hF1, _⟩ := Rd.of_own hown
  have hB1 := bthen hb0 hb1
  have hG1 := hG0.later hb1
  have hE1 := hE.later hB1
  clear hown hb0 hG0 hb1 hE
  rcases hX.out with ⟨hg, rfl, rfl, rfl⟩ | ⟨hg, rfl, rfl, rfl⟩
  · have HC : Hid (ClassIs V E head false false false 140) := Lib.hid (.inl ⟨hg, rfl, rfl, rfl, rfl⟩)
    clear hX hg
    go_wp2_with fail
    refine bodyPost_ret (v := .tuple #[.bool false, .bool false, .bool false, .int .i64 140]) (by simp [results, Try.results68, go_sem]) rfl ?_
    exact ⟨_, _, _, _, rfl, HC, hB1.trans (below_alloc _ _ |>.mono hB1.size)⟩
  · have HG := Lib.hid hg
    have h6 : E.length ≤ 6 := (goodB_iff.1 hg).2
    obtain ⟨hV0, hV30, _, _⟩ := validB_of (goodB_iff.1 hg).1
    obtain ⟨n, rfl⟩ : ∃ n : Nat, V' = n := ⟨V'.toNat, by omega⟩
    have hl7 : (extE E head).length ≤ 7 := by rw [extE_length]; omega
    have HX1 : Hid (∀ w, Rd w w.heap.size A (us E) → Calls Try.prog 39 #[.agg #[.int .i64 n, .slice A E.length c]] w fun e w' => e = .returned (.bool (acyB n E)) ∧ Below w.heap.size w w') := Lib.hid fun w hw => by
      rw [← exists_acy (goodB_iff.1 hg).1]
      exact exists_any n A E c w (by omega) (by omega) hw
    have HX2 : Hid (∀ w, Rd w w.heap.size A1 (us (extE E head)) → Calls Try.prog 39 #[.agg #[.int .i64 n, .slice A1 (extE E head).length c1]] w fun e w' => e = .returned (.bool (acyB n (extE E head))) ∧ Below w.heap.size w w') := Lib.hid fun w hw => by
      rw [← exists_acy (ext_valid hg)]
      exact exists_any n A1 _ c1 w (by omega) hl7 hw
    clear hX hg hV0 hV30
    go_upto_region 2 with fail
    generalize hFL : extE E head = F at hF1 HX2 hl7 ⊢
    have HFL := Lib.hid hFL
    clear hFL
    have hb2 := below_alloc w1 (.cells #[.int .i64 n, .slice A1 F.length c1] 24)
    have hI2 : Row (w1.alloc (.cells #[.int .i64 n, .slice A1 F.length c1] 24)) w1.heap.size 24 [.int .i64 n, .slice A1 F.length c1] := Row.new _ _ _
    have hB2 := bthen hB1 hb2
    have hG2 := hG1.later hb2
    have hE2 := hE1.later hb2
    have hF2 := hF1.later hb2
    generalize w1.heap.size = q at hI2 ⊢
    generalize w1.alloc _ = w2 at hB2 hG2 hE2 hF2 hI2 ⊢
    have d0 : w2.cell? ⟨w.heap.size, 0, none⟩ = some (.int .i64 n) := hG2.cell 0
    have d1 : w2.cell? ⟨w.heap.size, 1, none⟩ = some (.slice A E.length c) := hG2.cell 1
    clear hb2 hB1 hG1 hE1 hF1
    go_wp2_with fail
    refine (HX1.out w2 hE2).mono ?_
    rintro e w3 ⟨rfl, hb3⟩
    have hB3 := bthen hB2 hb3
    have hG3 := hG2.later hb3
    have hE3 := hE2.later hb3
    have hI3 := hI2.later hb3
    have hF3 := hF2.later hb3
    clear d0 d1 hB2 hG2 hE2 hI2 hF2 hb3 HX1
    have d0 : w3.cell? ⟨w.heap.size, 0, none⟩ = some (.int .i64 n) := hG3.cell 0
    have d1 : w3.cell? ⟨w.heap.size, 1, none⟩ = some (.slice A E.length c) := hG3.cell 1
    go_wp2_with fail
    refine (r17clash_any n A E c head w3 hl hE3).mono ?_
    rintro e w4 ⟨x, y, ok, code, rfl, hCL, hb4⟩
    have hB4 := bthen hB3 hb4
    have hI4 := hI3.later hb4
    have hF4 := hF3.later hb4
    have hc0 : code = 0 := by
      rcases hCL.out with ⟨a, _⟩ | ⟨_, _, _, _, a, _⟩ | ⟨_, _, a, _⟩
      · rw [HG.out] at a; cases a
      · exact a
      · exact a
    subst hc0
    have HC : Hid (ClassIs n E head (acyB n E) (acyB n E && acyB n F) (!ok) 0) := Lib.hid (.inr ⟨HG.out, rfl, by rw [HFL.out], rfl, x, y, by rw [Bool.not_not]; exact hCL.out⟩)
    clear hCL d0 d1 hB3 hG3 hE3 hI3 hF3 hb4
    generalize acyB n E = a1 at HC ⊢
    have d0 : w4.cell? ⟨q, 0, none⟩ = some (.int .i64 n) := hI4.cell 0
    have d1 : w4.cell? ⟨q, 1, none⟩ = some (.slice A1 F.length c1) := hI4.cell 1
    cases a1
    · go_wp2_with fail
      refine bodyPost_ret (v := .tuple #[.bool false, .bool false, .bool !ok, .int .i64 0]) (by simp [results, Try.results68, go_sem]) rfl ?_
      exact ⟨_, _, _, _, rfl, HC, hB4⟩
    · go_wp2_with fail
      refine (HX2.out w4 hF4).mono ?_
      rintro e w5 ⟨rfl, hb5⟩
      have hB5 := bthen hB4 hb5
      generalize acyB n F = a2 at HC ⊢
      go_wp2_with fail
      refine bodyPost_ret (v := .tuple #[.bool true, .bool a2, .bool !ok, .int .i64 0]) (by simp [results, Try.results68, go_sem]) rfl ?_
      exact ⟨_, _, _, _, rfl, HC, hB5⟩
end Go.Proofs.Ytkenbmelhfhidaa
