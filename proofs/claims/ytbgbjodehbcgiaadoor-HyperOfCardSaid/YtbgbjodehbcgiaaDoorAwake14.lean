/- The contract of osierlaw14.awake. -/
import Derived.Test.YtbgbjodehbcgiaaDoorBP
namespace Go.Proofs.YtbgbjodehbcgiaaDoor
open Go.RowKit

theorem best012 : Best [3#32, 6#32] 0 2 2#32 [0, 1, 2] := by
  have a01 : ∀ y, adj [3#32, 6#32] 0 y → y = 1 := by
    intro y hy
    have h1 := (nearS_iff [3#32, 6#32] 0 y).2 hy
    have h2 := lt_of_bit h1
    have h3 : ∀ y, y < 32 → (nearS [3#32, 6#32] ((0 : Nat) : Int)).getLsbD y = true → y = 1 := by decide +kernel
    exact h3 y h2 h1
  refine ⟨⟨by decide, ⟨by decide, 3#32, by simp, by decide, by decide⟩, ⟨by decide, .inr (by decide)⟩, by decide, ⟨by decide, 6#32, by simp, by decide, by decide⟩, ⟨by decide, .inl rfl⟩, rfl⟩, rfl, ?_⟩
  intro q hq hh
  match q, hq, hh with
  | [x], hq, hh =>
    obtain rfl : x = 0 := by simpa using hh
    cases hq
  | [x, y], hq, hh =>
    obtain rfl : x = 0 := by simpa using hh
    have h1 := a01 y hq.2.1
    have h2 : y = 2 := hq.2.2.2
    omega
  | [x, y, z], hq, hh =>
    obtain rfl : x = 0 := by simpa using hh
    obtain rfl := a01 y hq.2.1
    obtain rfl : z = 2 := hq.2.2.2.2.2.2
    rfl
  | x :: y :: z :: u :: r, _, _ => simp [lessL]
theorem awake_path {Z : List Nat} {code : Int} (h : PathIs 3 [3#32, 6#32] 0 2 2#32 Z code) : Z = [0, 1, 2] ∧ code = 0 :=
  pathIs_uniq h (.inr (.inr (.inr ⟨by decide, by decide, by decide, by decide, by decide, by decide, rfl, .inr best012⟩)))

theorem awake_any (w : World) (hT : Tab w) : Calls Tryd.prog 12 #[] w fun e w' => e = .returned (.bool true) ∧ Below w.heap.size w w' := by
  go_enter Tryd.func12, Tryd.ntmps12
  go_wp2_with fail
  have hRow : Row (w.alloc (.cells #[.int .u32 3, .int .u32 6] 29)) w.heap.size 29 (us [3#32, 6#32]) := heap_alloc_new w _
  have hR2 := hRow.alloc (.cells #[.int .i64 3, .slice (some ⟨w.heap.size, 0, none⟩) 2 2] 28)
  have hb0 : Below w.heap.size w ((w.alloc (.cells #[.int .u32 3, .int .u32 6] 29)).alloc (.cells #[.int .i64 3, .slice (some ⟨w.heap.size, 0, none⟩) 2 2] 28)) := (below_alloc _ _).alloc (by simp) _
  have hc0 : ((w.alloc (.cells #[.int .u32 3, .int .u32 6] 29)).alloc (.cells #[.int .i64 3, .slice (some ⟨w.heap.size, 0, none⟩) 2 2] 28)).cell? ⟨w.heap.size + 1, 0, none⟩ = some (.int .i64 3) := by simp
  have hc1 : ((w.alloc (.cells #[.int .u32 3, .int .u32 6] 29)).alloc (.cells #[.int .i64 3, .slice (some ⟨w.heap.size, 0, none⟩) 2 2] 28)).cell? ⟨w.heap.size + 1, 1, none⟩ = some (.slice (some ⟨w.heap.size, 0, none⟩) 2 2) := by simp
  generalize (w.alloc (.cells #[.int .u32 3, .int .u32 6] 29)).alloc _ = w1 at hR2 hb0 hc0 hc1 ⊢
  have hRd : Rd w1 w1.heap.size (some ⟨w.heap.size, 0, none⟩) (us [3#32, 6#32]) := hR2.rd
  refine (path_any 3 0 2 2#32 (some ⟨w.heap.size, 0, none⟩) [3#32, 6#32] 2 w1 (by decide) hRd (hT.later hb0)).mono ?_
  rintro e w2 ⟨v, Z, code, rfl, hown, hZ, hb2⟩
  obtain ⟨rfl, rfl⟩ := awake_path hZ.out
  obtain ⟨A, c, rfl, _, _, hrd, _⟩ := Rd.of_own hown
  have hc0' := Tab_cell hb2 hc0
  have hc1' := Tab_cell hb2 hc1
  have hRd2 := hRd.later hb2
  obtain ⟨ad, hA, hadl, hcell⟩ := hrd 1 (by simp)
  subst hA
  have hcell' : w2.cell? (ad.add 1) = some (.int .i64 1) := hcell
  clear hcell hrd hown hc0 hc1 hRd hR2 hRow
  go_wp2_with fail
  refine (valid_any 3 (some ⟨w.heap.size, 0, none⟩) [3#32, 6#32] 2 _ (by decide) hRd2).mono ?_
  rintro e w3 ⟨rfl, hb3⟩
  have hv : validB 3 [3#32, 6#32] = true := by decide
  rw [hv]
  have hcell3 : w3.cell? ⟨ad.block, ad.off + 1, none⟩ = some (.int .i64 1) := Tab_cell hb3 hcell'
  go_wp2
  go_ret
  exact ⟨rfl, bthen (bthen hb0 hb2) hb3⟩
end Go.Proofs.YtbgbjodehbcgiaaDoor
