/- The walk of osierlaw14.HyperComponents. -/
import Derived.Test.YtaongngoacbodaaDoorAwake14
import Derived.Test.YtaongngoacbodaaDoorComp
namespace Go.Proofs.YtaongngoacbodaaDoor
open Go.RowKit

attribute [local go_sem ↓] uz_and uz_or uz_andNot uz_and_one uz_shr uz_shl_one uz_shl uz_sub uz_sub_one uz_add uz_beq_zero uz_bne_zero uz_beq uz_bne uz_beq_one

theorem compIs_len {V : Int} {E : List (BitVec 32)} {Z : List Nat} {a : Int} (h : CompIs V E Z a) : Z.length ≤ 7 := by
  rcases h with ⟨h1, rfl, rfl⟩ | ⟨h1, h2, _, rfl⟩
  · exact Nat.zero_le _
  · have := (validB_of h1).2.2.1
    omega

set_option maxHeartbeats 2000000 in
set_option maxRecDepth 100000 in
theorem law_comps (V : Int) (A : Option Addr) (E : List (BitVec 32)) (c : Nat) (w : World) (hl : E.length ≤ 35184372087808) (hE : Rd w w.heap.size A (us E)) (hT : Tab w) :
    Calls Tryd.prog 7 #[.agg #[.int .i64 V, .slice A E.length c]] w fun e w' => e = .returned (.bool true) ∧ Below w.heap.size w w' := by
  go_enter Tryd.func7, Tryd.ntmps7
  go_wp2_with fail
  have hb0 := below_alloc w (.cells #[.int .i64 V, .slice A E.length c] 24)
  have hG0 : Row (w.alloc (.cells #[.int .i64 V, .slice A E.length c] 24)) w.heap.size 24 [.int .i64 V, .slice A E.length c] := Row.new _ _ _
  generalize w.alloc _ = w0 at hb0 hG0 ⊢
  refine (copy_any V A E c _ hl (hE.later hb0)).mono ?_
  rintro e w1 ⟨g, rfl, hg, hRg, hb1⟩
  have hB1 := bthen hb0 hb1
  go_wp2_with fail
  refine (components_any V (some ⟨g, 0, none⟩) E E.length w1 hl hRg.rd).mono ?_
  rintro e w2 ⟨va, Z, k1, rfl, hownA, hPA, hb2⟩
  obtain ⟨Aa, ca, rfl, _, _, hZr, _⟩ := Rd.of_own hownA
  have hB2 := bthen hB1 hb2
  have hG2 := hG0.later (bthen hb1 hb2)
  have d0 : w2.cell? ⟨w.heap.size, 0, none⟩ = some (.int .i64 V) := hG2.cell 0
  have d1 : w2.cell? ⟨w.heap.size, 1, none⟩ = some (.slice A E.length c) := hG2.cell 1
  go_wp2_with fail
  refine (r14components_any V A E c w2 hl (hE.later hB2)).mono ?_
  rintro e w3 ⟨vb, Y, k2, rfl, hownB, hPB, hb3⟩
  obtain ⟨e1, e2⟩ := compIs_uniq hPA.out hPB.out
  subst e1 e2
  have hl7 := compIs_len hPA.out
  clear hPA hPB
  obtain ⟨Ab, cb, rfl, _, _, hZr2, _⟩ := Rd.of_own hownB
  have hB3 := bthen hB2 hb3
  go_wp2_with fail
  refine (awake_any w3 (hT.later hB3)).mono ?_
  rintro e w4 ⟨rfl, hb4⟩
  have hB4 := bthen hB3 hb4
  go_wp2_with fail
  have hsi := sameInts_any Aa Ab (Z.map Int.ofNat) (Z.map Int.ofNat) ca cb w4 (by simp; omega) (by simp; omega) (hZr.later (bthen hb3 hb4)) (hZr2.later hb4)
  rw [List.length_map] at hsi
  refine hsi.mono ?_
  rintro e w5 ⟨rfl, nd, rfl⟩
  rw [beq_self_eq_true]
  go_wp2
  go_ret
  exact ⟨rfl, below_drewN hB4 _⟩
end Go.Proofs.YtaongngoacbodaaDoor
