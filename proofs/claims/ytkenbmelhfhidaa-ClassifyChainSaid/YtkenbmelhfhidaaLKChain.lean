/- The walk of osierlaw17.ClassifyChain. -/
import Derived.Test.YtkenbmelhfhidaaBG
import Derived.Test.YtkenbmelhfhidaaClassLaw2
namespace Go.Proofs.Ytkenbmelhfhidaa
open Go.RowKit

theorem ones_hv : ∀ v, v < 32 → hv 4294967295#32 v := by decide

set_option maxHeartbeats 40000000 in
set_option maxRecDepth 100000 in
theorem law_kchain (V : Int) (A : Option Addr) (E : List (BitVec 32)) (c : Nat) (head : BitVec 32) (w : World) (hl : E.length ≤ 35184372087808) (hE : Rd w w.heap.size A (us E)) :
    Calls Try.prog 22 #[.agg #[.int .i64 V, .slice A E.length c], .int .u32 (uz head)] w fun e w' => e = .returned (.bool true) ∧ Below w.heap.size w w' := by
  go_enter Try.func22, Try.ntmps22
  go_wp2_with fail
  have hB0 := below_alloc w (.cells #[.int .i64 V, .slice A E.length c] 24)
  have hG0 : Row (w.alloc (.cells #[.int .i64 V, .slice A E.length c] 24)) w.heap.size 24 [.int .i64 V, .slice A E.length c] := Row.new _ _ _
  have hE0 := hE.later hB0
  clear hE
  generalize w.alloc _ = w0 at hB0 hG0 hE0 ⊢
  refine (copy_any V A E c _ hl hE0).mono ?_
  rintro e w0a ⟨g0, rfl, hg0, hRg0, hb0a⟩
  have hB0a := bthen hB0 hb0a
  have hG0a := hG0.later hb0a
  have hE0a := hE0.later hb0a
  clear hb0a hB0 hG0 hE0 hg0
  go_wp2_with fail
  have hC0 := classify_any V ⟨g0, 0, none⟩ E E.length head w0a hl hRg0.rd
  refine hC0.mono ?_
  clear hC0
  rintro e w0b ⟨a0, x0, h0, q0, rfl, K0, hb0b⟩
  have hB0b := bthen hB0a hb0b
  have hG0b := hG0a.later hb0b
  have hE0b := hE0a.later hb0b
  clear hb0b hB0a hG0a hE0a hRg0
  go_upto_region 2 with fail
  have hb0c := below_alloc w0b (.cells #[.bool a0, .bool x0, .bool h0] 94)
  have hK00c : Row (w0b.alloc (.cells #[.bool a0, .bool x0, .bool h0] 94)) w0b.heap.size 94 [.bool a0, .bool x0, .bool h0] := Row.new _ _ _
  have hB0c := bthen hB0b hb0c
  have hG0c := hG0b.later hb0c
  have hE0c := hE0b.later hb0c
  clear hb0c hB0b hG0b hE0b
  generalize w0b.heap.size = p0 at hK00c ⊢
  generalize w0b.alloc _ = w0c at hK00c hB0c hG0c hE0c ⊢
  have d0 : w0c.cell? ⟨w.heap.size, 0, none⟩ = some (.int .i64 V) := hG0c.cell 0
  have d1 : w0c.cell? ⟨w.heap.size, 1, none⟩ = some (.slice A E.length c) := hG0c.cell 1
  go_wp2_with fail
  refine (copy_any V A E c _ hl hE0c).mono ?_
  rintro e w1a ⟨g1, rfl, hg1, hRg1, hb1a⟩
  have hB1a := bthen hB0c hb1a
  have hG1a := hG0c.later hb1a
  have hE1a := hE0c.later hb1a
  have hK01a := hK00c.later hb1a
  clear hb1a hB0c hG0c hE0c hg1 d0 d1
  go_wp2_with fail
  have hC1 := classify_any V ⟨g1, 0, none⟩ E E.length 4294967295#32 w1a hl hRg1.rd
  rw [show uz 4294967295#32 = 4294967295 from rfl] at hC1
  refine hC1.mono ?_
  clear hC1
  rintro e w1b ⟨a1, x1, h1, q1, rfl, K1, hb1b⟩
  have hB1b := bthen hB1a hb1b
  have hG1b := hG1a.later hb1b
  have hE1b := hE1a.later hb1b
  have hK01b := hK01a.later hb1b
  clear hb1b hB1a hG1a hE1a hRg1
  go_upto_region 3 with fail
  have hb1c := below_alloc w1b (.cells #[.bool a1, .bool x1, .bool h1] 94)
  have hK11c : Row (w1b.alloc (.cells #[.bool a1, .bool x1, .bool h1] 94)) w1b.heap.size 94 [.bool a1, .bool x1, .bool h1] := Row.new _ _ _
  have hB1c := bthen hB1b hb1c
  have hG1c := hG1b.later hb1c
  have hE1c := hE1b.later hb1c
  have hK01c := hK01b.later hb1c
  clear hb1c hB1b hG1b hE1b
  generalize w1b.heap.size = p1 at hK11c ⊢
  generalize w1b.alloc _ = w1c at hK11c hB1c hG1c hE1c hK01c ⊢
  have d0 : w1c.cell? ⟨w.heap.size, 0, none⟩ = some (.int .i64 V) := hG1c.cell 0
  have d1 : w1c.cell? ⟨w.heap.size, 1, none⟩ = some (.slice A E.length c) := hG1c.cell 1
  go_wp2_with fail
  refine (copy_any V A E c _ hl hE1c).mono ?_
  rintro e w2a ⟨g2, rfl, hg2, hRg2, hb2a⟩
  have hB2a := bthen hB1c hb2a
  have hG2a := hG1c.later hb2a
  have hE2a := hE1c.later hb2a
  have hK02a := hK01c.later hb2a
  have hK12a := hK11c.later hb2a
  clear hb2a hB1c hG1c hE1c hg2 d0 d1
  go_wp2_with fail
  have hC2 := classify_any V ⟨g2, 0, none⟩ E E.length 0#32 w2a hl hRg2.rd
  rw [show uz 0#32 = 0 from rfl] at hC2
  refine hC2.mono ?_
  clear hC2
  rintro e w2b ⟨a2, x2, h2, q2, rfl, K2, hb2b⟩
  have hB2b := bthen hB2a hb2b
  have hG2b := hG2a.later hb2b
  have hE2b := hE2a.later hb2b
  have hK02b := hK02a.later hb2b
  have hK12b := hK12a.later hb2b
  clear hb2b hB2a hG2a hE2a hRg2
  go_upto_region 4 with fail
  have hb2c := below_alloc w2b (.cells #[.bool a2, .bool x2, .bool h2] 94)
  have hK22c : Row (w2b.alloc (.cells #[.bool a2, .bool x2, .bool h2] 94)) w2b.heap.size 94 [.bool a2, .bool x2, .bool h2] := Row.new _ _ _
  have hB2c := bthen hB2b hb2c
  have hG2c := hG2b.later hb2c
  have hE2c := hE2b.later hb2c
  have hK02c := hK02b.later hb2c
  have hK12c := hK12b.later hb2c
  clear hb2c hB2b hG2b hE2b
  generalize w2b.heap.size = p2 at hK22c ⊢
  generalize w2b.alloc _ = w2c at hK22c hB2c hG2c hE2c hK02c hK12c ⊢
  have HL := chain_law ones_hv K0.out K1.out K2.out
  have c00 : w2c.cell? ⟨p0, 0, none⟩ = some (.bool a0) := hK02c.cell 0
  have c01 : w2c.cell? ⟨p0, 1, none⟩ = some (.bool x0) := hK02c.cell 1
  have c02 : w2c.cell? ⟨p0, 2, none⟩ = some (.bool h0) := hK02c.cell 2
  have c10 : w2c.cell? ⟨p1, 0, none⟩ = some (.bool a1) := hK12c.cell 0
  have c11 : w2c.cell? ⟨p1, 1, none⟩ = some (.bool x1) := hK12c.cell 1
  have c12 : w2c.cell? ⟨p1, 2, none⟩ = some (.bool h1) := hK12c.cell 2
  have c20 : w2c.cell? ⟨p2, 0, none⟩ = some (.bool a2) := hK22c.cell 0
  have c21 : w2c.cell? ⟨p2, 1, none⟩ = some (.bool x2) := hK22c.cell 1
  have c22 : w2c.cell? ⟨p2, 2, none⟩ = some (.bool h2) := hK22c.cell 2
  clear hG2c hE2c hK02c hK12c hK22c K0 K1 K2
  rcases HL with ⟨z0, z1, z2, z3⟩ | ⟨z0, f1, f2, e1, e2, e3, e4, e5⟩
  · subst q0 a0 x0 h0
    go_wp2_with fail
    refine (awake17_any w2c).mono ?_
    rintro e w9 ⟨rfl, hb9⟩
    go_wp2_with fail
    go_ret
    exact ⟨rfl, bthen hB2c hb9⟩
  · subst q0 a1 a2 x1 x2 h1
    cases a0 <;> cases x0 <;> cases h0 <;> cases h2
    all_goals first
      | exact absurd (f1 rfl) (by decide)
      | exact absurd (f2 rfl) (by decide)
      | (clear f1 f2
         go_wp2_with fail
         refine (awake17_any w2c).mono ?_
         rintro e w9 ⟨rfl, hb9⟩
         go_wp2_with fail
         go_ret
         exact ⟨rfl, bthen hB2c hb9⟩)
end Go.Proofs.Ytkenbmelhfhidaa
