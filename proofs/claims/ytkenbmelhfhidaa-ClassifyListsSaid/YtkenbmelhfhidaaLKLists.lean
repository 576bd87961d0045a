/- The walk of osierlaw17.ClassifyLists. -/
import Derived.Test.YtkenbmelhfhidaaC17m
import Derived.Test.YtkenbmelhfhidaaC17g
namespace Go.Proofs.Ytkenbmelhfhidaa
open Go.RowKit

set_option maxHeartbeats 40000000 in
set_option maxRecDepth 100000 in
theorem law_klists (V : Int) (A : Option Addr) (E : List (BitVec 32)) (c : Nat) (head : BitVec 32) (A' : Option Addr) (P : List Int) (c' : Nat) (w : World) (hl : E.length ≤ 35184372087808) (hE : Rd w w.heap.size A (us E)) (hl' : P.length ≤ 35184372087808) (hP : Rd w w.heap.size A' (is P)) :
    Calls Try.prog 26 #[.agg #[.int .i64 V, .slice A E.length c], .int .u32 (uz head), .slice A' P.length c'] w fun e w' => e = .returned (.bool true) ∧ Below w.heap.size w w' := by
  go_enter Try.func26, Try.ntmps26
  go_wp2_with fail
  have hb0 := below_alloc w (.cells #[.int .i64 V, .slice A E.length c] 24)
  have hG0 : Row (w.alloc (.cells #[.int .i64 V, .slice A E.length c] 24)) w.heap.size 24 [.int .i64 V, .slice A E.length c] := Row.new _ _ _
  generalize w.alloc _ = w0 at hb0 hG0 ⊢
  refine (copy_any V A E c _ hl (hE.later hb0)).mono ?_
  rintro e w1 ⟨g, rfl, hg, hRg, hb1⟩
  have hB1 := bthen hb0 hb1
  have hG1 := hG0.later hb1
  go_wp2_with fail
  refine (ints_any A' P c' w1 hl' (hP.later hB1)).mono ?_
  rintro e w2 ⟨h, rfl, hh, hRh, hb2⟩
  have hB2 := bthen hB1 hb2
  have hRg2 := hRg.later hb2
  have hG2 := hG1.later hb2
  clear hb0 hb1 hb2 hG0 hG1 hB1 hg hRg hh
  go_wp2_with fail
  refine (checkPath_any V (some ⟨g, 0, none⟩) E E.length head (some ⟨h, 0, none⟩) P P.length w2 hl hRg2.rd hl' hRh.rd).mono ?_
  rintro e w3 ⟨ok, rfl, hC, hb3⟩
  have hB3 := bthen hB2 hb3
  have hG3 := hG2.later hb3
  have hE3 := hE.later hB3
  have hP3 := hP.later hB3
  have d0 : w3.cell? ⟨w.heap.size, 0, none⟩ = some (.int .i64 V) := hG3.cell 0
  have d1 : w3.cell? ⟨w.heap.size, 1, none⟩ = some (.slice A E.length c) := hG3.cell 1
  clear hB2 hG2 hRg2 hRh hb3 hE hP
  go_wp2_with fail
  refine (r17checkPath_any V A E c head A' P c' w3 hl hE3 hl' hP3).mono ?_
  rintro e w4 ⟨ok', rfl, hC', hb4⟩
  have e1 := cpi_uniq hC.out hC'.out
  subst e1
  have hB4 := bthen hB3 hb4
  have hG4 := hG3.later hb4
  have hE4 := hE3.later hb4
  clear hC' hB3 hG3 hE3 hP3 hb4 d0 d1
  have d0 : w4.cell? ⟨w.heap.size, 0, none⟩ = some (.int .i64 V) := hG4.cell 0
  have d1 : w4.cell? ⟨w.heap.size, 1, none⟩ = some (.slice A E.length c) := hG4.cell 1
  go_wp2_with fail
  refine (r17extended_any V A E c head w4 hl hE4).mono ?_
  rintro e w5 ⟨V', v, F, code, rfl, hown, hX, hb5⟩
  obtain ⟨A1, c1, rfl, _, _, hF5, _⟩ := Rd.of_own hown
  have hB5 := bthen hB4 hb5
  clear hown hb5 hG4 hE4 hB4 d0 d1
  go_upto_region 5 with fail
  have hb6 := below_alloc w5 (.cells #[.int .i64 V', .slice A1 F.length c1] 24)
  have hI6 : Row (w5.alloc (.cells #[.int .i64 V', .slice A1 F.length c1] 24)) w5.heap.size 24 [.int .i64 V', .slice A1 F.length c1] := Row.new _ _ _
  have hB6 := bthen hB5 hb6
  have hF6 := hF5.later hb6
  generalize w5.heap.size = q at hI6 ⊢
  generalize w5.alloc _ = w6 at hB6 hI6 hF6 ⊢
  have d0 : w6.cell? ⟨q, 0, none⟩ = some (.int .i64 V') := hI6.cell 0
  have d1 : w6.cell? ⟨q, 1, none⟩ = some (.slice A1 F.length c1) := hI6.cell 1
  clear hb6 hB5 hF5 hI6
  cases ok
  · go_wp2_with fail
    refine (awake17_any w6).mono ?_
    rintro e w7 ⟨rfl, hb7⟩
    go_wp2_with fail
    go_ret
    exact ⟨rfl, bthen hB6 hb7⟩
  · have hFr := hC.out.1 rfl
    rcases hX.out with ⟨hgd, rfl, rfl, rfl⟩ | ⟨hgd, rfl, rfl, rfl⟩
    · clear hC hX hFr hgd
      go_wp2_with fail
      refine (awake17_any w6).mono ?_
      rintro e w7 ⟨rfl, hb7⟩
      go_wp2_with fail
      go_ret
      exact ⟨rfl, bthen hB6 hb7⟩
    · obtain ⟨v0, v30, _, _⟩ := validB_of hFr.valid
      obtain ⟨n, rfl⟩ : ∃ n : Nat, V' = n := ⟨V'.toNat, by omega⟩
      have h6 := (goodB_iff.1 hgd).2
      have HXF : Hid (Calls Try.prog 39 #[.agg #[.int .i64 n, .slice A1 (extE E head).length c1]] w6 fun e w' => e = .returned (.bool false) ∧ Below w6.heap.size w6 w') := Lib.hid (by
        have h1 := exists_any n A1 (extE E head) c1 w6 (by omega) (by rw [extE_length]; omega) hF6
        have h2 : existsB n (extE E head) = false := by
          rw [exists_acy (ext_valid hgd), ← Bool.not_eq_true, acyB_iff (ext_valid hgd)]
          exact hFr.nojt
        rwa [h2] at h1)
      clear hC hX hFr hgd hF6
      generalize extE E head = F at HXF d1 ⊢
      go_wp2_with fail
      refine HXF.out.mono ?_
      rintro e w7 ⟨rfl, hb7⟩
      have hB7 := bthen hB6 hb7
      clear HXF d0 d1
      go_wp2_with fail
      refine (awake17_any w7).mono ?_
      rintro e w8 ⟨rfl, hb8⟩
      go_wp2_with fail
      go_ret
      exact ⟨rfl, bthen hB7 hb8⟩
end Go.Proofs.Ytkenbmelhfhidaa
