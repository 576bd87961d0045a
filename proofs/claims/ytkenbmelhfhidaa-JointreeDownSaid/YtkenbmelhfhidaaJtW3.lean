/- The contract of osierlaw16.awake. -/
import Derived.Test.YtkenbmelhfhidaaJtW1
import Derived.Test.YtkenbmelhfhidaaJtW2
namespace Go.Proofs.Ytkenbmelhfhidaa
open Go.RowKit

attribute [local go_sem ↓] uz_and uz_or uz_andNot uz_and_one uz_shr uz_shl_one uz_shl uz_sub uz_sub_one uz_add uz_beq_zero uz_bne_zero uz_beq uz_bne uz_beq_one

theorem awake_build {Z : List Int} {code : Int} (h : BuildIs 3 [3#32, 6#32, 4#32] Z code) : Z.length = 3 ∧ code = 0 := by
  have hv : validB 3 [3#32, 6#32, 4#32] = true := by decide
  have hjt : ∃ p, JT [3#32, 6#32, 4#32] p := ⟨_, ((checkB_iff 3 _ [1, -1, 1]).1 (by decide)).2.2⟩
  have h2 := buildIs_jt h
  by_cases c : code = 0
  · exact ⟨(h2.1 c).1, c⟩
  · rcases (h2.2 c).2 with ⟨a, _⟩ | ⟨_, _, a⟩
    · rw [hv] at a; cases a
    · exact absurd hjt a
set_option maxHeartbeats 2000000 in
set_option maxRecDepth 100000 in
theorem awake16_any (w : World) : Calls Try.prog 29 #[] w fun e w' => e = .returned (.bool true) ∧ Below w.heap.size w w' := by
  go_enter Try.func29, Try.ntmps29
  go_wp2_with fail
  have hR : Row (w.alloc (.cells #[.int .u32 3, .int .u32 6, .int .u32 4] 39)) w.heap.size 39 (us [3#32, 6#32, 4#32]) := heap_alloc_new w _
  have hb0 := below_alloc w (.cells #[.int .u32 3, .int .u32 6, .int .u32 4] 39)
  generalize hg : w.heap.size = g at hR ⊢
  generalize w.alloc _ = w1 at hR hb0 ⊢
  have hB := build_any 3 (some ⟨g, 0, none⟩) [3#32, 6#32, 4#32] 3 w1 (by decide) hR.rd
  refine hB.mono ?_
  rintro e w2 ⟨v, Z, code, rfl, hown, hI, hb1⟩
  obtain ⟨hZ, rfl⟩ := awake_build hI.out
  clear hB hI
  obtain ⟨A, c, rfl, _, _, _, _⟩ := Rd.of_own hown
  have hB1 := bthen hb0 hb1
  have hz : ((Z.length : Int) == 3) = true := by simp [hZ]
  clear hZ hR hown
  go_wp2_with fail
  have hR2 : Row (w2.alloc (.cells #[.int .i64 1, .int .i64 (-1)] 3)) w2.heap.size 3 (is [1, -1]) := heap_alloc_new w2 _
  have hb2 := below_alloc w2 (.cells #[.int .i64 1, .int .i64 (-1)] 3)
  have hB2 := bthen hB1 hb2
  generalize hg2 : w2.heap.size = g2 at hR2 ⊢
  generalize w2.alloc _ = w3 at hR2 hb2 hB2 ⊢
  have hT := isTree_any (some ⟨g2, 0, none⟩) [1, -1] 2 w3 (by decide) hR2.rd
  rw [show treeB [1, -1] = true by decide] at hT
  refine hT.mono ?_
  rintro e w4 ⟨rfl, rfl⟩
  clear hT hR2 hb1
  go_wp2_with fail
  have hR3 : Row ((w3.alloc (.cells #[.int .u32 1] 39)).alloc (.cells #[.int .i64 (-1)] 3)) w3.heap.size 39 (us [1#32]) := Row.alloc (heap_alloc_new w3 _) _
  have hR4 : Row ((w3.alloc (.cells #[.int .u32 1] 39)).alloc (.cells #[.int .i64 (-1)] 3)) (w3.heap.size + 1) 3 (is [-1]) := Row.new_ (by simp)
  have hb3 : Below w3.heap.size w3 ((w3.alloc (.cells #[.int .u32 1] 39)).alloc (.cells #[.int .i64 (-1)] 3)) := (below_alloc _ _).alloc (by simp) _
  have hB3 := bthen hB2 hb3
  generalize hg3 : w3.heap.size = g3 at hR3 hR4 ⊢
  generalize (w3.alloc _).alloc _ = w5 at hR3 hR4 hb3 hB3 ⊢
  have hC := check_any 1 (some ⟨g3, 0, none⟩) (some ⟨g3 + 1, 0, none⟩) [1#32] [-1] 1 1 w5 (by decide) (by decide) hR3.rd hR4.rd
  rw [show checkB 1 [1#32] [-1] = true by decide] at hC
  refine hC.mono ?_
  rintro e w6 ⟨rfl, hb6⟩
  go_wp2_with fail
  go_ret
  exact ⟨rfl, bthen hB3 hb6⟩
end Go.Proofs.Ytkenbmelhfhidaa
