/- The contract of ears.make. -/
import Derived.Test.YtkenbmelhfhidaaEars2
import Derived.StillTailTactics
namespace Go.Proofs.Ytkenbmelhfhidaa
open Go.RowKit

attribute [local go_sem ↓] uz_and uz_or uz_andNot uz_and_one uz_shr uz_shl_one uz_shl uz_sub uz_sub_one uz_add uz_beq_zero uz_bne_zero uz_beq uz_bne uz_beq_one

/-- What make answers and leaves. -/
def MakePost (S : Nat → BitVec 32) (T : Nat → Bool) (n : Nat) (keep : BitVec 32) (s : Stp) (g : Nat) (w : World) (e : Ending) (w' : World) : Prop :=
  ∃ S' T', e = .returned (.bool (isB S T n keep s)) ∧ Rem w' g S' T' n keep ∧ w.grownBy w' (some g) ∧ Hid (lefts S' T' n = if isB S T n keep s = true then makeE (lefts S T n) s else lefts S T n)
theorem grown_below {w w' : World} (h : Below w.heap.size w w') (r : Option Nat) : w.grownBy w' r := ⟨h.os, h.tape, h.output, h.size, fun k hk _ => h.block k hk⟩
theorem grown_drewN {w w' : World} {r : Option Nat} (h : w.grownBy w' r) (m : Nat) : w.grownBy (w'.drewN m) r := ⟨h.os, h.tape, h.output, h.size, h.block⟩
theorem grown_set {w w' : World} {g : Nat} (h : w.grownBy w' (some g)) (i : Nat) (v : Value) : w.grownBy (w'.setCell ⟨g, i, none⟩ v) (some g) :=
  ⟨h.os, h.tape, h.output, by simpa using h.size, fun k hk hne => (Below.heap_setCell w' ⟨g, i, none⟩ v k (fun e => hne (by rw [e]))).trans (h.block k hk hne)⟩
/-- A call that only draws, in a region that draws. -/
theorem drew_quiet {f : FuncId} {args : Array Value} {v : Value} {W : World} (h : ∀ m, Calls Try.prog f args (W.drewN m) fun e w' => e = .returned v ∧ ∃ k, w' = (W.drewN m).drewN k) {n : Nat} :
    Calls Try.prog f args (W.drewN n) fun e w'' => e = .returned v ∧ ∃ k, w'' = W.drewN k :=
  (h n).mono fun _ _ ⟨he, k, hk⟩ => ⟨he, n + k, by rw [hk, World.drewN_drewN]⟩
theorem make_no {S : Nat → BitVec 32} {T : Nat → Bool} {n : Nat} {keep : BitVec 32} {s : Stp} {g : Nat} {w w' : World} (hf : isB S T n keep s = false) (h : Rem w' g S T n keep) (hb : w.grownBy w' (some g)) : MakePost S T n keep s g w (.returned (.bool false)) w' :=
  ⟨S, T, by rw [hf], h, hb, by show _ = _; rw [hf]; rfl⟩

set_option maxHeartbeats 2000000 in
set_option maxRecDepth 100000 in
/-- Where the first test refuses. -/
theorem make_out (w : World) (g n : Nat) (S : Nat → BitVec 32) (T : Nat → Bool) (keep : BitVec 32) (h : Rem w g S T n keep) (k x y : Int) (cut : BitVec 32) (ho : x < 0 ∨ y < 0 ∨ (n : Int) ≤ x ∨ (n : Int) ≤ y) :
    Calls Try.prog 92 #[.pointer (some ⟨g, 0, none⟩), .agg #[.int .i64 k, .int .i64 x, .int .i64 y, .int .u32 (uz cut)]] w (MakePost S T n keep ⟨k, x, y, cut⟩ g w) := by
  have hF := Lib.hid (isB_out (S := S) (T := T) (n := n) (keep := keep) (s := ⟨k, x, y, cut⟩) ho)
  rcases Int.lt_trichotomy y x with hc | hc | hc
  · by_cases hneg : y < 0
    · have d1 : decide (y < 0) = true := by simpa using hneg
      clear ho hneg
      go_enter Try.func92, Try.ntmps92
      have hg := Row.lt h
      go_upto_region 1 with fail
      have hb0 := below_alloc w (.cells #[.int .i64 k, .int .i64 x, .int .i64 y, .int .u32 (uz cut)] 66)
      have hR0 : Row (w.alloc (.cells #[.int .i64 k, .int .i64 x, .int .i64 y, .int .u32 (uz cut)] 66)) w.heap.size 66 [.int .i64 k, .int .i64 x, .int .i64 y, .int .u32 (uz cut)] := Row.new _ _ _
      have h0 := h.later hb0
      generalize w.alloc _ = W0 at hb0 hR0 h0 ⊢
      have c3 := h0.n_cell
      have z1 : W0.cell? ⟨w.heap.size, 1, none⟩ = some (.int .i64 x) := hR0.cell 1
      have z2 : W0.cell? ⟨w.heap.size, 2, none⟩ = some (.int .i64 y) := hR0.cell 2
      clear h hR0
      go_quiet (fail)
      go_wp2_with fail
      go_ret
      exact make_no hF.out (h0.drewN _) (grown_drewN (grown_below hb0 _) _)
    · have d1 : decide (y < 0) = false := by simpa using hneg
      have d2 : decide ((n : Int) ≤ x) = true := by simp; omega
      clear ho hneg
      go_enter Try.func92, Try.ntmps92
      have hg := Row.lt h
      go_upto_region 1 with fail
      have hb0 := below_alloc w (.cells #[.int .i64 k, .int .i64 x, .int .i64 y, .int .u32 (uz cut)] 66)
      have hR0 : Row (w.alloc (.cells #[.int .i64 k, .int .i64 x, .int .i64 y, .int .u32 (uz cut)] 66)) w.heap.size 66 [.int .i64 k, .int .i64 x, .int .i64 y, .int .u32 (uz cut)] := Row.new _ _ _
      have h0 := h.later hb0
      generalize w.alloc _ = W0 at hb0 hR0 h0 ⊢
      have c3 := h0.n_cell
      have z1 : W0.cell? ⟨w.heap.size, 1, none⟩ = some (.int .i64 x) := hR0.cell 1
      have z2 : W0.cell? ⟨w.heap.size, 2, none⟩ = some (.int .i64 y) := hR0.cell 2
      clear h hR0
      go_quiet (fail)
      go_wp2_with fail
      go_ret
      exact make_no hF.out (h0.drewN _) (grown_drewN (grown_below hb0 _) _)
  · subst hc
    by_cases hneg : y < 0
    · have d1 : decide (y < 0) = true := by simpa using hneg
      clear ho hneg
      go_enter Try.func92, Try.ntmps92
      have hg := Row.lt h
      go_upto_region 1 with fail
      have hb0 := below_alloc w (.cells #[.int .i64 k, .int .i64 y, .int .i64 y, .int .u32 (uz cut)] 66)
      have hR0 : Row (w.alloc (.cells #[.int .i64 k, .int .i64 y, .int .i64 y, .int .u32 (uz cut)] 66)) w.heap.size 66 [.int .i64 k, .int .i64 y, .int .i64 y, .int .u32 (uz cut)] := Row.new _ _ _
      have h0 := h.later hb0
      generalize w.alloc _ = W0 at hb0 hR0 h0 ⊢
      have c3 := h0.n_cell
      have z1 : W0.cell? ⟨w.heap.size, 1, none⟩ = some (.int .i64 y) := hR0.cell 1
      have z2 : W0.cell? ⟨w.heap.size, 2, none⟩ = some (.int .i64 y) := hR0.cell 2
      clear h hR0
      go_quiet (fail)
      go_wp2_with fail
      go_ret
      exact make_no hF.out (h0.drewN _) (grown_drewN (grown_below hb0 _) _)
    · have d1 : decide (y < 0) = false := by simpa using hneg
      have d2 : decide ((n : Int) ≤ y) = true := by simp; omega
      clear ho hneg
      go_enter Try.func92, Try.ntmps92
      have hg := Row.lt h
      go_upto_region 1 with fail
      have hb0 := below_alloc w (.cells #[.int .i64 k, .int .i64 y, .int .i64 y, .int .u32 (uz cut)] 66)
      have hR0 : Row (w.alloc (.cells #[.int .i64 k, .int .i64 y, .int .i64 y, .int .u32 (uz cut)] 66)) w.heap.size 66 [.int .i64 k, .int .i64 y, .int .i64 y, .int .u32 (uz cut)] := Row.new _ _ _
      have h0 := h.later hb0
      generalize w.alloc _ = W0 at hb0 hR0 h0 ⊢
      have c3 := h0.n_cell
      have z1 : W0.cell? ⟨w.heap.size, 1, none⟩ = some (.int .i64 y) := hR0.cell 1
      have z2 : W0.cell? ⟨w.heap.size, 2, none⟩ = some (.int .i64 y) := hR0.cell 2
      clear h hR0
      go_quiet (fail)
      go_wp2_with fail
      go_ret
      exact make_no hF.out (h0.drewN _) (grown_drewN (grown_below hb0 _) _)
  · by_cases hneg : x < 0
    · have d1 : decide (x < 0) = true := by simpa using hneg
      clear ho hneg
      go_enter Try.func92, Try.ntmps92
      have hg := Row.lt h
      go_upto_region 1 with fail
      have hb0 := below_alloc w (.cells #[.int .i64 k, .int .i64 x, .int .i64 y, .int .u32 (uz cut)] 66)
      have hR0 : Row (w.alloc (.cells #[.int .i64 k, .int .i64 x, .int .i64 y, .int .u32 (uz cut)] 66)) w.heap.size 66 [.int .i64 k, .int .i64 x, .int .i64 y, .int .u32 (uz cut)] := Row.new _ _ _
      have h0 := h.later hb0
      generalize w.alloc _ = W0 at hb0 hR0 h0 ⊢
      have c3 := h0.n_cell
      have z1 : W0.cell? ⟨w.heap.size, 1, none⟩ = some (.int .i64 x) := hR0.cell 1
      have z2 : W0.cell? ⟨w.heap.size, 2, none⟩ = some (.int .i64 y) := hR0.cell 2
      clear h hR0
      go_quiet (fail)
      go_wp2_with fail
      go_ret
      exact make_no hF.out (h0.drewN _) (grown_drewN (grown_below hb0 _) _)
    · have d1 : decide (x < 0) = false := by simpa using hneg
      have d2 : decide ((n : Int) ≤ y) = true := by simp; omega
      clear ho hneg
      go_enter Try.func92, Try.ntmps92
      have hg := Row.lt h
      go_upto_region 1 with fail
      have hb0 := below_alloc w (.cells #[.int .i64 k, .int .i64 x, .int .i64 y, .int .u32 (uz cut)] 66)
      have hR0 : Row (w.alloc (.cells #[.int .i64 k, .int .i64 x, .int .i64 y, .int .u32 (uz cut)] 66)) w.heap.size 66 [.int .i64 k, .int .i64 x, .int .i64 y, .int .u32 (uz cut)] := Row.new _ _ _
      have h0 := h.later hb0
      generalize w.alloc _ = W0 at hb0 hR0 h0 ⊢
      have c3 := h0.n_cell
      have z1 : W0.cell? ⟨w.heap.size, 1, none⟩ = some (.int .i64 x) := hR0.cell 1
      have z2 : W0.cell? ⟨w.heap.size, 2, none⟩ = some (.int .i64 y) := hR0.cell 2
      clear h hR0
      go_quiet (fail)
      go_wp2_with fail
      go_ret
      exact make_no hF.out (h0.drewN _) (grown_drewN (grown_below hb0 _) _)
end Go.Proofs.Ytkenbmelhfhidaa
