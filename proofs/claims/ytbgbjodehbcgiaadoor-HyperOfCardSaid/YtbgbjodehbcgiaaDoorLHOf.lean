/- The walk of osierlaw14.HyperOf. -/
import Derived.Test.YtbgbjodehbcgiaaDoorQCopy
import Derived.Test.YtbgbjodehbcgiaaDoorQOf
import Derived.Test.YtbgbjodehbcgiaaDoorROf
import Derived.Test.YtbgbjodehbcgiaaDoorAwake14
import Derived.Test.YtbgbjodehbcgiaaDoorBH
namespace Go.Proofs.YtbgbjodehbcgiaaDoor
open Go.RowKit
attribute [local go_sem ↓] uz_beq

theorem ofIs_len {q : Qy} {V : Int} {E : List (BitVec 32)} {h : BitVec 32} {code : Int} (k : OfIs q V E h code) : E.length ≤ 6 := by
  rcases k with ⟨_, _, rfl, _⟩ | ⟨hs, _, rfl, _⟩
  · exact Nat.zero_le _
  · rw [ofE_length]; exact (shapeC_iff.1 hs).few

set_option maxHeartbeats 4000000 in
set_option maxRecDepth 100000 in
theorem law_of (q : Qy) (AH : Option Addr) (cH : Nat) (AA : Option Addr) (cA : Nat) (w : World) (hq : SzQ q) (hH : Rd w w.heap.size AH (ss q.head)) (hA : Ats w w.heap.size AA q.atoms) (hT : Tab w) :
    Calls Tryd.prog 3 #[.agg #[.string q.name, .slice AH q.head.length cH, .slice AA q.atoms.length cA]] w fun e w' => e = .returned (.bool true) ∧ Below w.heap.size w w' := by
  go_enter Tryd.func3, Tryd.ntmps3
  go_wp2_with fail
  have hb0 := below_alloc w (.cells #[.string q.name, .slice AH q.head.length cH, .slice AA q.atoms.length cA] 25)
  have hQ0 : Row (w.alloc (.cells #[.string q.name, .slice AH q.head.length cH, .slice AA q.atoms.length cA] 25)) w.heap.size 25 [.string q.name, .slice AH q.head.length cH, .slice AA q.atoms.length cA] := Row.new _ _ _
  generalize w.alloc _ = w0 at hb0 hQ0 ⊢
  refine (copyQ_any q AH cH AA cA w0 hq (hH.later hb0) (hA.later hb0)).mono ?_
  rintro e w1 ⟨gh, A1, c1, rfl, hRh, hA1, hb1⟩
  have hB1 := bthen hb0 hb1
  have hQ1 := hQ0.later hb1
  clear hb0 hQ0 hb1
  go_wp2_with fail
  refine (of_any q (some ⟨gh, 0, none⟩) q.head.length A1 c1 w1 hq (Nat.le_refl _) hRh.rd hA1).mono ?_
  rintro e w2 ⟨V, v, E, h, code, rfl, hown2, HO, hb2⟩
  obtain ⟨AE, cE, rfl, _, _, hE2, _⟩ := Rd.of_own hown2
  have hB2 := bthen hB1 hb2
  have hQ2 := hQ1.later hb2
  have hl6 := ofIs_len HO.out
  clear hB1 hQ1 hb2 hRh hA1 hown2
  go_upto_region 2 with fail
  have hb3 := below_alloc w2 (.cells #[.int .i64 V, .slice AE E.length cE] 28)
  have hI3 : Row (w2.alloc (.cells #[.int .i64 V, .slice AE E.length cE] 28)) w2.heap.size 28 [.int .i64 V, .slice AE E.length cE] := Row.new _ _ _
  have hB3 := bthen hB2 hb3
  have hQ3 := hQ2.later hb3
  have hE3 := hE2.later hb3
  generalize w2.heap.size = g at hI3 ⊢
  generalize w2.alloc _ = w3 at hI3 hB3 hQ3 hE3 ⊢
  have q0 : w3.cell? ⟨w.heap.size, 0, none⟩ = some (.string q.name) := hQ3.cell 0
  have q1 : w3.cell? ⟨w.heap.size, 1, none⟩ = some (.slice AH q.head.length cH) := hQ3.cell 1
  have q2 : w3.cell? ⟨w.heap.size, 2, none⟩ = some (.slice AA q.atoms.length cA) := hQ3.cell 2
  clear hb3 hB2 hQ2 hE2
  go_wp2_with fail
  refine (r14of_any q AH cH AA cA w3 hq (hH.later hB3) (hA.later hB3)).mono ?_
  rintro e w4 ⟨V', v', E', h', code', rfl, hown4, HO', hb4⟩
  obtain ⟨AF, cF, rfl, _, _, hF4, _⟩ := Rd.of_own hown4
  obtain ⟨rfl, rfl, rfl, rfl⟩ := ofIs_uniq HO.out HO'.out
  have hB4 := bthen hB3 hb4
  have hI4 := hI3.later hb4
  have hE4 := hE3.later hb4
  clear HO HO' hown4 hb4 hI3 hB3 hQ3 hE3 q0 q1 q2 hH hA
  go_upto_region 3 with fail
  have hb5 := below_alloc w4 (.cells #[.int .i64 V, .slice AF E.length cF] 28)
  have hJ5 : Row (w4.alloc (.cells #[.int .i64 V, .slice AF E.length cF] 28)) w4.heap.size 28 [.int .i64 V, .slice AF E.length cF] := Row.new _ _ _
  have hB5 := bthen hB4 hb5
  have hI5 := hI4.later hb5
  have hE5 := hE4.later hb5
  have hF5 := hF4.later hb5
  generalize w4.heap.size = g2 at hJ5 ⊢
  generalize w4.alloc _ = w5 at hJ5 hB5 hI5 hE5 hF5 ⊢
  clear hb5 hB4 hI4 hE4 hF4
  go_wp2_with fail
  refine (awake_any w5 (hT.later hB5)).mono ?_
  rintro e w6 ⟨rfl, hb6⟩
  have hB6 := bthen hB5 hb6
  have hI6 := hI5.later hb6
  have hJ6 := hJ5.later hb6
  have d0 : w6.cell? ⟨g, 0, none⟩ = some (.int .i64 V) := hI6.cell 0
  have d1 : w6.cell? ⟨g, 1, none⟩ = some (.slice AE E.length cE) := hI6.cell 1
  have e0 : w6.cell? ⟨g2, 0, none⟩ = some (.int .i64 V) := hJ6.cell 0
  have e1 : w6.cell? ⟨g2, 1, none⟩ = some (.slice AF E.length cF) := hJ6.cell 1
  have HS := Lib.hid (same_any V V AE AF E E cE cF w6 (by omega) (by omega) (hE5.later hb6) (hF5.later hb6))
  rw [show sameG V V E E = true by unfold sameG; simp] at HS
  go_wp2_with fail
  refine HS.out.mono ?_
  rintro e w7 ⟨rfl, hb7⟩
  go_wp2_with fail
  go_ret
  exact ⟨by first | rfl | simp, bthen hB6 hb7⟩
end Go.Proofs.YtbgbjodehbcgiaaDoor
