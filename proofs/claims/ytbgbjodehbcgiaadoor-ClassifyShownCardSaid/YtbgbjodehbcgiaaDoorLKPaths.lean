/- The walk of osierlaw17.ClassifyPaths. -/
import Derived.Test.YtbgbjodehbcgiaaDoorRPath17
namespace Go.Proofs.YtbgbjodehbcgiaaDoor
open Go.RowKit

theorem class_good {V : Int} {E : List (BitVec 32)} {head : BitVec 32} {a x h : Bool} (k : ClassIs V E head a x h 0) : goodB V E = true := by
  rcases k with ⟨_, _, _, _, z⟩ | ⟨g, _⟩
  · cases z
  · exact g
theorem path17_len {V : Int} {E : List (BitVec 32)} {head : BitVec 32} {Z : List Nat} {code : Int} (k : Path17Is V E head Z code) : Z.length ≤ 30 := by
  obtain ⟨a, x, h, q, K, H⟩ := k
  rcases H with ⟨_, rfl, _⟩ | ⟨rfl, _, _, _, hb⟩
  · exact Nat.zero_le _
  · exact best_len17 (goodB_iff.1 (class_good K)).1 hb

set_option maxHeartbeats 40000000 in
set_option maxRecDepth 100000 in
theorem law_kpaths (V : Int) (A : Option Addr) (E : List (BitVec 32)) (c : Nat) (head : BitVec 32) (w : World) (hl : E.length ≤ 35184372087808) (hE : Rd w w.heap.size A (us E)) (hT : Tab w) :
    Calls Tryd.prog 4 #[.agg #[.int .i64 V, .slice A E.length c], .int .u32 (uz head)] w fun e w' => e = .returned (.bool true) ∧ Below w.heap.size w w' := by
  go_enter Tryd.func4, Tryd.ntmps4
  go_wp2_with fail
  have hb0 := below_alloc w (.cells #[.int .i64 V, .slice A E.length c] 28)
  have hG0 : Row (w.alloc (.cells #[.int .i64 V, .slice A E.length c] 28)) w.heap.size 28 [.int .i64 V, .slice A E.length c] := Row.new _ _ _
  generalize w.alloc _ = w0 at hb0 hG0 ⊢
  refine (copy_any V A E c _ hl (hE.later hb0)).mono ?_
  rintro e w1 ⟨g, rfl, hg, hRg, hb1⟩
  have hB1 := bthen hb0 hb1
  have hG1 := hG0.later hb1
  go_wp2_with fail
  with_reducible refine (path17_any V ⟨g, 0, none⟩ E E.length head w1 hl hRg.rd (hT.later hB1)).mono ?_
  rintro e w2 ⟨A1, Z, c1, code, rfl, hZ2, hC, hb2⟩
  have h7 := path17_len hC.out
  have hB2 := bthen hB1 hb2
  have hG2 := hG1.later hb2
  have hE2 := hE.later hB2
  have d0 : w2.cell? ⟨w.heap.size, 0, none⟩ = some (.int .i64 V) := hG2.cell 0
  have d1 : w2.cell? ⟨w.heap.size, 1, none⟩ = some (.slice A E.length c) := hG2.cell 1
  clear hb0 hb1 hb2 hG0 hG1 hB1 hRg hg hE
  go_wp2_with fail
  with_reducible refine (r17path_any V A E c head w2 hl hE2).mono ?_
  rintro e w3 ⟨A2, Z', c2, code', rfl, hY3, hC', hb3⟩
  obtain ⟨e1, e2⟩ := path17_uniq hC.out hC'.out
  subst e1 e2
  have hB3 := bthen hB2 hb3
  have hZ3 := hZ2.later hb3
  clear hC hC' hb3 hG2 hE2 hB2 d0 d1 hZ2
  go_wp2_with fail
  refine (awake17_any w3).mono ?_
  rintro e w4 ⟨rfl, hb4⟩
  have hB4 := bthen hB3 hb4
  have hZ4 := hZ3.later hb4
  have hY4 := hY3.later hb4
  have HS : Hid (Calls Tryd.prog 18 #[.slice A1 Z.length c1, .slice A2 Z.length c2] w4 fun e w' => e = .returned (.bool true) ∧ ∃ n, w' = w4.drewN n) := Lib.hid (by
    have := sameInts_any A1 A2 (Z.map Int.ofNat) (Z.map Int.ofNat) c1 c2 w4 (by simp; omega) (by simp; omega) hZ4 hY4
    rw [beq_self_eq_true, List.length_map] at this
    exact this)
  clear hZ4 hY4 hZ3 hY3 hB3 hb4
  go_wp2_with fail
  refine HS.out.mono ?_
  rintro e w5 ⟨rfl, m, rfl⟩
  go_wp2_with fail
  go_ret
  exact ⟨rfl, below_drewN hB4 _⟩
end Go.Proofs.YtbgbjodehbcgiaaDoor
