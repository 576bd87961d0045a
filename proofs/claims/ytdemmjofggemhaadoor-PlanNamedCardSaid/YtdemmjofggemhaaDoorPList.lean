/- The vertices of a set, rising: what plan.list and the reference's List answer. -/
import Derived.Test.YtdemmjofggemhaaDoorBA
import Derived.Test.YtdemmjofggemhaaDoorPDefs
import Derived.WalkMore
namespace Go.Proofs.YtdemmjofggemhaaDoor
open Go.RowKit

attribute [local go_sem ↓] uz_and uz_or uz_andNot uz_and_one uz_shr uz_shl_one uz_shl uz_sub uz_sub_one uz_add uz_beq_zero uz_bne_zero uz_beq uz_bne uz_beq_one

set_option maxRecDepth 100000 in
set_option maxHeartbeats 1000000 in
theorem list_any (x : BitVec 32) (w : World) (hT : Tab w) :
    Calls Tryd.prog 20 #[.int .u32 (uz x)] w fun e w' => ∃ v, e = .returned v ∧ w'.ownsRow w.heap.size 3 1 v (lst x).length (is (lst x)) ∧ Below w.heap.size w w' := by
  go_enter Tryd.func20, Tryd.ntmps20
  go_wp2_with fail
  go_loopg [0, 3] (bitsOf x).length (fun g s v wr => ∃ (y : BitVec 32) (Z : List Nat), g = (bitsOf y).length ∧ s = .int .u32 (uz y) ∧ Hid (bitsOf x = Z ++ bitsOf y) ∧ wr.ownsRow w.heap.size 3 1 v Z.length (is (Z.map Int.ofNat)) ∧ Below w.heap.size w wr)
  case atStart => exact ⟨x, [], rfl, rfl, by show _ = _; simp, World.ownsRow_nil _ _ _ _, Below.refl _ _⟩
  case round =>
    obtain ⟨y, Z, rfl, rfl, hZ, hown, hb⟩ := hrel
    by_cases h0 : y = 0#32
    · subst h0
      have e : lst x = Z.map Int.ofNat := by unfold lst; rw [hZ.out, bitsOf_zero, List.append_nil]
      have e2 : (lst x).length = Z.length := by rw [e]; simp
      go_wp2_with fail
      go_ret
      exact ⟨_, rfl, by rw [e2, e]; exact hown, hb⟩
    · have hy : (y != 0#32) = true := by simpa using h0
      have HY := Lib.hid h0
      clear h0
      have hTb := hT.later hb
      have hZl : Z.length ≤ 32 := by
        have := bitsOf_len x
        rw [hZ.out, List.length_append] at this
        omega
      go_wp2_with (first | (go_at_call 41; refine (tz_any y _ hTb).mono ?_; rintro e w' ⟨rfl, rfl⟩) | (at_builtin; refine app_int rfl (.tmp 10) (.tmp 13) rfl w.heap.size _ _ (Z.map Int.ofNat) (ctz y) rfl rfl hown (by omega) hb.size ?_; intro v2 w2 hown2 hb2))
      go_roundg ((bitsOf (y &&& (y - 1#32))).length)
      case measure => exact bitsOf_len_lt y HY.out
      case rel =>
        refine ⟨y &&& (y - 1#32), Z ++ [ctz y], rfl, rfl, ?_, ?_, hb.trans hb2⟩
        · show _ = _; rw [hZ.out, bitsOf_cons y HY.out]; simp
        · rw [List.length_append, List.map_append]; exact hown2
end Go.Proofs.YtdemmjofggemhaaDoor
