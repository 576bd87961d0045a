/- The walk of osierlaw16.JointreeChecks. -/
import Derived.Test.YtkenbmelhfhidaaJtW3
import Derived.Test.YtkenbmelhfhidaaJtW6
import Derived.Test.YtkenbmelhfhidaaCuts
import Derived.Deep.RegionHeld3
namespace Go.Proofs.Ytkenbmelhfhidaa
open Go.RowKit

attribute [local go_sem ↓] Go.wp_at_zero Go.wp_at_succ

theorem sameG_refl' (V : Int) (E : List (BitVec 32)) : sameG V V E E = true := by simp [sameG]

set_option maxHeartbeats 4000000 in
set_option maxRecDepth 100000 in
theorem law_jchecks (V : Int) (A : Option Addr) (E : List (BitVec 32)) (c : Nat) (A' : Option Addr) (P : List Int) (c' : Nat) (w : World) (hl : E.length ≤ 35184372087808) (hE : Rd w w.heap.size A (us E)) (hl' : P.length ≤ 35184372087808) (hP : Rd w w.heap.size A' (is P)) :
    Calls Try.prog 3 #[.agg #[.int .i64 V, .slice A E.length c], .slice A' P.length c'] w fun e w' => e = .returned (.bool true) ∧ Below w.heap.size w w' := by
  go_enter Try.func3, Try.ntmps3
  go_wp2_with fail
  have hb0 := below_alloc w (.cells #[.int .i64 V, .slice A E.length c] 24)
  have hG0 : Row (w.alloc (.cells #[.int .i64 V, .slice A E.length c] 24)) w.heap.size 24 [.int .i64 V, .slice A E.length c] := Row.new _ _ _
  generalize w.alloc _ = w0 at hb0 hG0 ⊢
  refine (copy_any V A E c _ hl (hE.later hb0)).mono ?_
  rintro e w1 ⟨g, rfl, hg, hRg, hb1⟩
  have hB1 := bthen hb0 hb1
  have hG1 := hG0.later hb1
  have hlt1 := hG1.lt
  go_wp2_with fail
  refine (ints_any A' P c' w1 hl' (hP.later hB1)).mono ?_
  rintro e w2 ⟨h, rfl, hh, hRh, hb2⟩
  have hB2 := bthen hB1 hb2
  have hG2 := hG1.later hb2
  have hRg2 := hRg.later hb2
  go_upto_region 2 with fail
  have hb3 := below_alloc w2 (.cells #[.int .i64 V, .slice (some ⟨g, 0, none⟩) E.length E.length] 24)
  have hI3 : Row (w2.alloc (.cells #[.int .i64 V, .slice (some ⟨g, 0, none⟩) E.length E.length] 24)) w2.heap.size 24 [.int .i64 V, .slice (some ⟨g, 0, none⟩) E.length E.length] := Row.new _ _ _
  have hG3 := hG2.later hb3
  have hRg3 := hRg2.later hb3
  have hRh3 := hRh.later hb3
  have hB3 := bthen hB2 hb3
  generalize hq : w2.heap.size = q at hI3 ⊢
  generalize w2.alloc _ = w3 at hb3 hI3 hG3 hRg3 hRh3 hB3 ⊢
  have HK : Hid (∀ x, Below w3.heap.size w3 x → Below w3.heap.size w3 x ∧ x.cell? ⟨w.heap.size, 0, none⟩ = some (.int .i64 V) ∧ x.cell? ⟨w.heap.size, 1, none⟩ = some (.slice A E.length c) ∧ x.cell? ⟨q, 0, none⟩ = some (.int .i64 V) ∧ x.cell? ⟨q, 1, none⟩ = some (.slice (some ⟨g, 0, none⟩) E.length E.length)) :=
    Lib.hid (fun x hx => ⟨hx, (hG3.later hx).cell 0, (hG3.later hx).cell 1, (hI3.later hx).cell 0, (hI3.later hx).cell 1⟩)
  have C1 : Hid (∀ x, Below w3.heap.size w3 x → Calls Try.prog 29 #[] x fun e w' => e = .returned (.bool true) ∧ Below w3.heap.size w3 w') :=
    Lib.hid (fun x hx => (awake16_any x).mono fun e w' ⟨he, hb⟩ => ⟨he, bthen hx hb⟩)
  have C2 : Hid (∀ x, Below w3.heap.size w3 x → Calls Try.prog 30 #[.slice (some ⟨h, 0, none⟩) P.length P.length] x fun e w' => e = .returned (.bool (treeB P)) ∧ Below w3.heap.size w3 w') :=
    Lib.hid (fun x hx => (isTree_any _ P _ x hl' (hRh3.later hx).rd).mono fun e w' ⟨he, hb⟩ => ⟨he, by rw [← hb]; exact hx⟩)
  have C3 : Hid (∀ x, Below w3.heap.size w3 x → Calls Try.prog 31 #[.slice A' P.length c'] x fun e w' => e = .returned (.bool (treeB P)) ∧ Below w3.heap.size w3 w') :=
    Lib.hid (fun x hx => (r16isTree_any A' P c' x hl' (hP.later (bthen hB3 hx))).mono fun e w' ⟨he, hb⟩ => ⟨he, bthen hx hb⟩)
  have C4 : Hid (∀ x, Below w3.heap.size w3 x → Calls Try.prog 32 #[.agg #[.int .i64 V, .slice (some ⟨g, 0, none⟩) E.length E.length], .slice (some ⟨h, 0, none⟩) P.length P.length] x fun e w' => e = .returned (.bool (checkB V E P)) ∧ Below w3.heap.size w3 w') :=
    Lib.hid (fun x hx => (check_any V _ _ E P _ _ x hl hl' (hRg3.later hx).rd (hRh3.later hx).rd).mono fun e w' ⟨he, hb⟩ => ⟨he, bthen hx hb⟩)
  have C5 : Hid (∀ x, Below w3.heap.size w3 x → Calls Try.prog 33 #[.agg #[.int .i64 V, .slice A E.length c], .slice A' P.length c'] x fun e w' => e = .returned (.bool (checkB V E P)) ∧ Below w3.heap.size w3 w') :=
    Lib.hid (fun x hx => (r16check_any V A A' E P c c' x hl hl' (hE.later (bthen hB3 hx)) (hP.later (bthen hB3 hx))).mono fun e w' ⟨he, hb⟩ => ⟨he, bthen hx hb⟩)
  have C6 : Hid (∀ x, Below w3.heap.size w3 x → Calls Try.prog 34 #[.agg #[.int .i64 V, .slice (some ⟨g, 0, none⟩) E.length E.length], .agg #[.int .i64 V, .slice A E.length c]] x fun e w' => e = .returned (.bool true) ∧ Below w3.heap.size w3 w') :=
    Lib.hid (fun x hx => by
      have := same_any V V _ A E E E.length c x hl hl (hRg3.later hx).rd (hE.later (bthen hB3 hx))
      rw [sameG_refl'] at this
      exact this.mono fun e w' ⟨he, hb⟩ => ⟨he, bthen hx hb⟩)
  have C7 : Hid (∀ x, Below w3.heap.size w3 x → Calls Try.prog 35 #[.slice (some ⟨h, 0, none⟩) P.length P.length, .slice A' P.length c'] x fun e w' => e = .returned (.bool true) ∧ Below w3.heap.size w3 w') :=
    Lib.hid (fun x hx => by
      have := sameInts_any _ A' P P P.length c' x hl' hl' (hRh3.later hx).rd (hP.later (bthen hB3 hx))
      rw [beq_self_eq_true] at this
      exact this.mono fun e w' ⟨he, n, hb⟩ => ⟨he, by rw [hb]; exact below_drewN hx n⟩)
  clear hE hP hb0 hG0 hg hRg hb1 hB1 hG1 hh hRh hb2 hB2 hG2 hRg2 hb3 hI3 hG3 hRg3 hRh3 hq
  generalize treeB P = t at C2 C3
  generalize checkB V E P = u at C4 C5
  go_cut [4] (fun x wx => x = .bool true ∧ Below w3.heap.size w3 wx)
  case first =>
    go_region_held3 (fun x : World => Below w3.heap.size w3 x ∧ x.cell? ⟨w.heap.size, 0, none⟩ = some (.int .i64 V) ∧ x.cell? ⟨w.heap.size, 1, none⟩ = some (.slice A E.length c) ∧ x.cell? ⟨q, 0, none⟩ = some (.int .i64 V) ∧ x.cell? ⟨q, 1, none⟩ = some (.slice (some ⟨g, 0, none⟩) E.length E.length))
      (first | exact HK.out _ (by assumption) | exact HK.out _ (Below.refl _ _) | exact HK.out _ (Below.refl _ _).drew)
      (first
        | (go_at_call 29; refine (C1.out _ (by first | assumption | exact Below.refl _ _ | exact (Below.refl _ _).drew)).mono ?_; rintro e w4 ⟨rfl, hb4⟩)
        | (go_at_call 30; refine (C2.out _ (by first | assumption | exact Below.refl _ _ | exact (Below.refl _ _).drew)).mono ?_; rintro e w4 ⟨rfl, hb4⟩)
        | (go_at_call 31; refine (C3.out _ (by first | assumption | exact Below.refl _ _ | exact (Below.refl _ _).drew)).mono ?_; rintro e w4 ⟨rfl, hb4⟩)
        | (go_at_call 32; refine (C4.out _ (by first | assumption | exact Below.refl _ _ | exact (Below.refl _ _).drew)).mono ?_; rintro e w4 ⟨rfl, hb4⟩)
        | (go_at_call 33; refine (C5.out _ (by first | assumption | exact Below.refl _ _ | exact (Below.refl _ _).drew)).mono ?_; rintro e w4 ⟨rfl, hb4⟩)
        | (go_at_call 34; refine (C6.out _ (by first | assumption | exact Below.refl _ _ | exact (Below.refl _ _).drew)).mono ?_; rintro e w4 ⟨rfl, hb4⟩)
        | (go_at_call 35; refine (C7.out _ (by first | assumption | exact Below.refl _ _ | exact (Below.refl _ _).drew)).mono ?_; rintro e w4 ⟨rfl, hb4⟩))
    all_goals
      go_wp2_with fail
      go_meet
      exact ⟨by first | rfl | simp, by assumption⟩
  case rest =>
    obtain ⟨rfl, hb⟩ := hcut
    go_wp2
    go_ret
    exact ⟨rfl, bthen hB3 hb⟩
end Go.Proofs.Ytkenbmelhfhidaa
