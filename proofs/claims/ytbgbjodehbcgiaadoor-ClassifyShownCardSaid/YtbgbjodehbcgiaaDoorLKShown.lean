/- The walk of osierlaw17.ClassifyShown. -/
import Derived.Test.YtbgbjodehbcgiaaDoorShownLaw
import Derived.Deep.RegionHeld3
namespace Go.Proofs.YtbgbjodehbcgiaaDoor
open Go.RowKit

set_option maxHeartbeats 4000000 in
set_option maxRecDepth 100000 in
theorem r15restOf_any (V : Int) (A : Option Addr) (E : List (BitVec 32)) (c : Nat) (w : World) (hl : E.length ≤ 35184372087808) (hE : Rd w w.heap.size A (us E)) :
    Calls Tryd.prog 24 #[.agg #[.int .i64 V, .slice A E.length c]] w fun e w' => ∃ A1 R c1 code, e = .returned (.slice A1 R.length c1) ∧ Rd w' w'.heap.size A1 (us R) ∧ Hid (RestIs V E 0#32 R code) ∧ Below w.heap.size w w' := by
  go_enter Tryd.func24, Tryd.ntmps24
  go_wp2_with fail
  have hb0 := below_alloc w (.cells #[.int .i64 V, .slice A E.length c] 28)
  generalize w.alloc _ = w0 at hb0 ⊢
  have HC := Lib.hid (r15rest_any V A E c 0#32 w0 hl (hE.later hb0))
  rw [show uz 0#32 = 0 from rfl] at HC
  refine HC.out.mono ?_
  rintro e w1 ⟨v, R, code, rfl, hown, hR, hb1⟩
  obtain ⟨A1, c1, rfl, _, _, hRd, _⟩ := Rd.of_own hown
  go_wp2_with fail
  go_ret
  exact ⟨A1, R, c1, code, rfl, hRd, hR, bthen hb0 hb1⟩

set_option maxHeartbeats 40000000 in
set_option maxRecDepth 100000 in
theorem law_kshown (V : Int) (A : Option Addr) (E : List (BitVec 32)) (c : Nat) (head : BitVec 32) (w : World) (hl : E.length ≤ 35184372087808) (hE : Rd w w.heap.size A (us E)) (hT : Tab w) :
    Calls Tryd.prog 5 #[.agg #[.int .i64 V, .slice A E.length c], .int .u32 (uz head)] w fun e w' => e = .returned (.bool true) ∧ Below w.heap.size w w' := by
  go_enter Tryd.func5, Tryd.ntmps5
  go_wp2_with fail
  have hb0 := below_alloc w (.cells #[.int .i64 V, .slice A E.length c] 28)
  have hG0 : Row (w.alloc (.cells #[.int .i64 V, .slice A E.length c] 28)) w.heap.size 28 [.int .i64 V, .slice A E.length c] := Row.new _ _ _
  generalize w.alloc _ = w0 at hb0 hG0 ⊢
  refine (copy_any V A E c _ hl (hE.later hb0)).mono ?_
  rintro e w1 ⟨g1, rfl, _, hRg1, hb1⟩
  have hB1 := bthen hb0 hb1
  have hG1 := hG0.later hb1
  clear hb0 hG0 hb1
  go_wp2_with fail
  with_reducible refine (classify_any V ⟨g1, 0, none⟩ E E.length head w1 hl hRg1.rd).mono ?_
  rintro e w2 ⟨a, x, h, q, rfl, K, hb2⟩
  have hB2 := bthen hB1 hb2
  have hG2 := hG1.later hb2
  clear hB1 hG1 hb2 hRg1
  go_upto_region 2 with fail
  have hb3 := below_alloc w2 (.cells #[.bool a, .bool x, .bool h] 48)
  have hK3 : Row (w2.alloc (.cells #[.bool a, .bool x, .bool h] 48)) w2.heap.size 48 [.bool a, .bool x, .bool h] := Row.new _ _ _
  have hB3 := bthen hB2 hb3
  have hG3 := hG2.later hb3
  have hE3 := hE.later hB3
  generalize w2.heap.size = p at hK3 ⊢
  generalize w2.alloc _ = w3 at hK3 hB3 hG3 hE3 ⊢
  have d0 : w3.cell? ⟨w.heap.size, 0, none⟩ = some (.int .i64 V) := hG3.cell 0
  have d1 : w3.cell? ⟨w.heap.size, 1, none⟩ = some (.slice A E.length c) := hG3.cell 1
  clear hb3 hB2 hG2
  go_wp2_with fail
  refine (copy_any V A E c w3 hl hE3).mono ?_
  rintro e w4 ⟨g2, rfl, _, hRg2, hb4⟩
  have hB4 := bthen hB3 hb4
  have hG4 := hG3.later hb4
  have hK4 := hK3.later hb4
  clear d0 d1 hB3 hG3 hE3 hK3 hb4
  go_wp2_with fail
  with_reducible refine (rest17_any V ⟨g2, 0, none⟩ E E.length head w4 hl hRg2.rd).mono ?_
  rintro e w5 ⟨v, Z, f, rfl, hown, C, hb5⟩
  have hZ7 := rest17_len C.out
  obtain ⟨AZ, cZ, rfl, _, _, hZ5, _⟩ := Rd.of_own hown
  have hB5 := bthen hB4 hb5
  have hG5 := hG4.later hb5
  have hK5 := hK4.later hb5
  have hE5 := hE.later hB5
  have d0 : w5.cell? ⟨w.heap.size, 0, none⟩ = some (.int .i64 V) := hG5.cell 0
  have d1 : w5.cell? ⟨w.heap.size, 1, none⟩ = some (.slice A E.length c) := hG5.cell 1
  clear hB4 hG4 hK4 hb5 hRg2 hown
  go_wp2_with fail
  refine (copy_any V A E c w5 hl hE5).mono ?_
  rintro e w6 ⟨g3, rfl, _, hRg3, hb6⟩
  have hB6 := bthen hB5 hb6
  have hG6 := hG5.later hb6
  have hK6 := hK5.later hb6
  have hZ6 := hZ5.later hb6
  clear d0 d1 hB5 hG5 hE5 hK5 hZ5 hb6
  go_wp2_with fail
  with_reducible refine (path17_any V ⟨g3, 0, none⟩ E E.length head w6 hl hRg3.rd (hT.later hB6)).mono ?_
  rintro e w7 ⟨AP, P, cP, g, rfl, hP7, D, hb7⟩
  have hP30 := path17_len D.out
  have hB7 := bthen hB6 hb7
  have hG7 := hG6.later hb7
  have hK7 := hK6.later hb7
  have hZ7' := hZ6.later hb7
  have hE7 := hE.later hB7
  have d0 : w7.cell? ⟨w.heap.size, 0, none⟩ = some (.int .i64 V) := hG7.cell 0
  have d1 : w7.cell? ⟨w.heap.size, 1, none⟩ = some (.slice A E.length c) := hG7.cell 1
  clear hB6 hG6 hK6 hZ6 hb7 hRg3
  go_wp2_with fail
  refine (copy_any V A E c w7 hl hE7).mono ?_
  rintro e w8 ⟨g4, rfl, _, hRg4, hb8⟩
  have hB8 := bthen hB7 hb8
  have hG8 := hG7.later hb8
  have hK8 := hK7.later hb8
  have hZ8 := hZ7'.later hb8
  have hP8 := hP7.later hb8
  clear d0 d1 hB7 hG7 hE7 hK7 hZ7' hP7 hb8
  go_wp2_with fail
  with_reducible refine (extended_any V ⟨g4, 0, none⟩ E E.length head w8 hl hRg4.rd).mono ?_
  rintro e w9 ⟨V', v, F, k, rfl, hownF, X, hb9⟩
  have hF7 := extIs_len X.out
  obtain ⟨AF, cF, rfl, _, _, hF9, _⟩ := Rd.of_own hownF
  have hB9 := bthen hB8 hb9
  have hG9 := hG8.later hb9
  have hK9 := hK8.later hb9
  have hZ9 := hZ8.later hb9
  have hP9 := hP8.later hb9
  clear hB8 hG8 hK8 hZ8 hP8 hb9 hRg4 hownF
  go_upto_region 5 with fail
  have hb10 := below_alloc w9 (.cells #[.int .i64 V', .slice AF F.length cF] 28)
  have hI10 : Row (w9.alloc (.cells #[.int .i64 V', .slice AF F.length cF] 28)) w9.heap.size 28 [.int .i64 V', .slice AF F.length cF] := Row.new _ _ _
  have hB10 := bthen hB9 hb10
  have hG10 := hG9.later hb10
  have hK10 := hK9.later hb10
  have hZ10 := hZ9.later hb10
  have hP10 := hP9.later hb10
  have hF10 := hF9.later hb10
  have hE10 := hE.later hB10
  generalize w9.heap.size = r at hI10 ⊢
  generalize w9.alloc _ = w10 at hI10 hB10 hG10 hK10 hZ10 hP10 hF10 hE10 ⊢
  clear hb10 hB9 hG9 hK9 hZ9 hP9 hF9 hE
  have d0 : w10.cell? ⟨w.heap.size, 0, none⟩ = some (.int .i64 V) := hG10.cell 0
  have d1 : w10.cell? ⟨w.heap.size, 1, none⟩ = some (.slice A E.length c) := hG10.cell 1
  have HGD := Lib.hid (r17good_any V A E c w10 hl hE10)
  rcases shown_facts K.out C.out D.out X.out with ⟨hg, rfl, rfl, rfl, rfl⟩ | ⟨hg, rfl, rfl, rfl, rfl, rfl, rfl, hcr, hcase⟩
  · rw [hg] at HGD
    clear K C D X hg
    go_wp2_with fail
    refine HGD.out.mono ?_
    rintro e w11 ⟨rfl, hb11⟩
    have hB11 := bthen hB10 hb11
    go_wp2_with fail
    refine (awake17_any w11).mono ?_
    rintro e w12 ⟨rfl, hb12⟩
    go_wp2_with fail
    go_ret
    exact ⟨rfl, bthen hB11 hb12⟩
  · rw [hg] at HGD
    have HCR := Lib.hid hcr
    have HCASE := Lib.hid hcase
    have h6 := (goodB_iff.1 hg).2
    clear K C D X hg hcase hcr
    go_wp2_with fail
    refine HGD.out.mono ?_
    rintro e w11 ⟨rfl, hb11⟩
    have hB11 := bthen hB10 hb11
    have hG11 := hG10.later hb11
    have hK11 := hK10.later hb11
    have hI11 := hI10.later hb11
    have hZ11 := hZ10.later hb11
    have hP11 := hP10.later hb11
    have hF11 := hF10.later hb11
    have hE11 := hE10.later hb11
    have HK : Hid (∀ y, Below w11.heap.size w11 y → Below w11.heap.size w11 y ∧ y.cell? ⟨w.heap.size, 0, none⟩ = some (.int .i64 V') ∧ y.cell? ⟨w.heap.size, 1, none⟩ = some (.slice A E.length c) ∧ y.cell? ⟨p, 0, none⟩ = some (.bool a)) := Lib.hid fun y hy => ⟨hy, (hG11.later hy).cell 0, (hG11.later hy).cell 1, (hK11.later hy).cell 0⟩
    have C1 : Hid (∀ y, Below w11.heap.size w11 y → Calls Tryd.prog 24 #[.agg #[.int .i64 V', .slice A E.length c]] y fun e w' => ∃ A1 R c1, e = .returned (.slice A1 R.length c1) ∧ Rd w' w'.heap.size A1 (us R) ∧ Hid (R.length ≤ 7 ∧ ∀ ok, CRIs V' E R ok → ok = !a) ∧ Below w11.heap.size w11 w') := Lib.hid fun y hy => by
      refine (r15restOf_any V' A E c y hl (hE11.later hy)).mono ?_
      rintro e w' ⟨A1, R, c1, code, rfl, hR, hI, hb⟩
      exact ⟨A1, R, c1, rfl, hR, Lib.hid ⟨restIs_len hI.out, HCR.out R code hI.out⟩, bthen hy hb⟩
    have C2 : Hid (∀ A1 R c1 y, Below w11.heap.size w11 y → Rd y y.heap.size A1 (us R) → Hid (R.length ≤ 7 ∧ ∀ ok, CRIs V' E R ok → ok = !a) → Calls Tryd.prog 23 #[.agg #[.int .i64 V', .slice A E.length c], .slice A1 R.length c1] y fun e w' => e = .returned (.bool (!a)) ∧ Below w11.heap.size w11 w') := Lib.hid fun A1 R c1 y hy hR hh => by
      refine (r17checkRest_any V' A E c A1 R c1 y hl (hE11.later hy) (by have := hh.out.1; omega) hR).mono ?_
      rintro e w' ⟨ok, rfl, hI, hb⟩
      exact ⟨by rw [hh.out.2 ok hI.out], bthen hy hb⟩
    clear hb11 hB10 hG10 hK10 hI10 hZ10 hP10 hF10 hE10 d0 d1 HGD HCR
    go_upto_region 9 with fail
    go_cut [71] (fun v wx => v = .bool false ∧ Below w11.heap.size w11 wx)
    case first =>
      cases a
      · go_region_held3 (fun y : World => Below w11.heap.size w11 y ∧ y.cell? ⟨w.heap.size, 0, none⟩ = some (.int .i64 V') ∧ y.cell? ⟨w.heap.size, 1, none⟩ = some (.slice A E.length c) ∧ y.cell? ⟨p, 0, none⟩ = some (.bool false))
          (first | exact HK.out _ (by assumption) | exact HK.out _ (Below.refl _ _) | exact HK.out _ (Below.refl _ _).drew)
          (first
            | (go_at_call 24; refine (C1.out _ (by first | assumption | exact Below.refl _ _ | exact (Below.refl _ _).drew)).mono ?_; rintro e w12 ⟨A1, R, c1, rfl, hR, hh, hb12⟩)
            | (go_at_call 23; with_reducible refine (C2.out _ _ _ _ (by assumption) (by assumption) (by assumption)).mono ?_; rintro e w13 ⟨rfl, hb13⟩))
        all_goals
          go_wp2_with fail
          go_meet
          exact ⟨rfl, by assumption⟩
      · go_region_held3 (fun y : World => Below w11.heap.size w11 y ∧ y.cell? ⟨w.heap.size, 0, none⟩ = some (.int .i64 V') ∧ y.cell? ⟨w.heap.size, 1, none⟩ = some (.slice A E.length c) ∧ y.cell? ⟨p, 0, none⟩ = some (.bool true))
          (first | exact HK.out _ (by assumption) | exact HK.out _ (Below.refl _ _) | exact HK.out _ (Below.refl _ _).drew)
          (first
            | (go_at_call 24; refine (C1.out _ (by first | assumption | exact Below.refl _ _ | exact (Below.refl _ _).drew)).mono ?_; rintro e w12 ⟨A1, R, c1, rfl, hR, hh, hb12⟩)
            | (go_at_call 23; with_reducible refine (C2.out _ _ _ _ (by assumption) (by assumption) (by assumption)).mono ?_; rintro e w13 ⟨rfl, hb13⟩))
        all_goals
          go_wp2_with fail
          go_meet
          exact ⟨rfl, by assumption⟩
    case rest =>
      obtain ⟨rfl, hbc⟩ := hcut
      have hBc := bthen hB11 hbc
      have hGc := hG11.later hbc
      have hKc := hK11.later hbc
      have hIc := hI11.later hbc
      have hZc := hZ11.later hbc
      have hPc := hP11.later hbc
      have hFc := hF11.later hbc
      have hEc := hE11.later hbc
      have k0 : wc.cell? ⟨p, 0, none⟩ = some (.bool a) := hKc.cell 0
      have k1 : wc.cell? ⟨p, 1, none⟩ = some (.bool x) := hKc.cell 1
      have k2 : wc.cell? ⟨p, 2, none⟩ = some (.bool h) := hKc.cell 2
      have d0 : wc.cell? ⟨w.heap.size, 0, none⟩ = some (.int .i64 V') := hGc.cell 0
      have d1 : wc.cell? ⟨w.heap.size, 1, none⟩ = some (.slice A E.length c) := hGc.cell 1
      clear HK C1 C2 hbc hB11 hG11 hK11 hI11 hZ11 hP11 hF11 hE11 
      rcases HCASE.out with ⟨rfl, rfl, rfl, rfl⟩ | ⟨rfl, rfl, hZok, hPok, hpos, hlt⟩ | ⟨rfl, rfl, rfl, rfl, hZok⟩
      · go_wp2_with fail
        refine (awake17_any wc).mono ?_
        rintro e w14 ⟨rfl, hb14⟩
        go_wp2_with fail
        go_ret
        exact ⟨rfl, bthen hBc hb14⟩
      · obtain ⟨m, hm⟩ : ∃ m, P.length = m + 1 := ⟨P.length - 1, by omega⟩
        have hm1 : P.length - 1 = m := by omega
        rw [hm1] at hlt
        obtain ⟨ad, rfl, _, hc0⟩ := hPc.z_at hpos
        have h6x : (extE E head).length ≤ 7 := by rw [extE_length]; omega
        generalize hzx : zed P 0 = z0 at hc0 hlt
        have HPZ := Lib.hid (fun (y : World) (hy : Below wc.heap.size wc y) => (hPc.later hy).z_at (show m < P.length by omega))
        have HP0 := Lib.hid (fun (y : World) (hy : Below wc.heap.size wc y) => (hPc.later hy).z_at hpos)
        obtain ⟨z1, hz1⟩ : ∃ z1, zed P m = z1 := ⟨_, rfl⟩
        have HK2 : Hid (∀ y, Below wc.heap.size wc y → Below wc.heap.size wc y ∧ y.cell? ⟨w.heap.size, 0, none⟩ = some (.int .i64 V') ∧ y.cell? ⟨w.heap.size, 1, none⟩ = some (.slice A E.length c) ∧ y.cell? ⟨r, 0, none⟩ = some (.int .i64 V') ∧ y.cell? ⟨r, 1, none⟩ = some (.slice AF (extE E head).length cF) ∧ y.cell? (ad.add 0) = some (.int .i64 (z0 : Int)) ∧ y.cell? ad = some (.int .i64 (z0 : Int)) ∧ y.cell? (ad.add m) = some (.int .i64 (z1 : Int))) := Lib.hid fun y hy => by
          obtain ⟨ad1, e1, _, c1⟩ := HP0.out y hy
          obtain ⟨ad2, e2, _, c2⟩ := HPZ.out y hy
          injection e1 with e1
          injection e2 with e2
          subst e1 e2
          rw [hzx] at c1
          rw [hz1] at c2
          exact ⟨hy, (hGc.later hy).cell 0, (hGc.later hy).cell 1, (hIc.later hy).cell 0, (hIc.later hy).cell 1, c1, by rw [add_none] at c1; exact c1, c2⟩
        rw [hz1] at hlt
        have C3 : Hid (∀ y, Below wc.heap.size wc y → Calls Tryd.prog 23 #[.agg #[.int .i64 V', .slice AF (extE E head).length cF], .slice AZ Z.length cZ] y fun e w' => e = .returned (.bool true) ∧ Below wc.heap.size wc w') := Lib.hid fun y hy => by
          refine (r17checkRest_any V' AF (extE E head) cF AZ Z cZ y (by omega) (hFc.later hy) (by omega) (hZc.later hy)).mono ?_
          rintro e w' ⟨ok, rfl, hI, hb⟩
          exact ⟨by rw [hZok ok hI.out], bthen hy hb⟩
        have C4 : Hid (∀ y, Below wc.heap.size wc y → Calls Tryd.prog 25 #[.agg #[.int .i64 V', .slice A E.length c], .int .u32 (uz head), .slice (some ad) P.length cP] y fun e w' => e = .returned (.bool true) ∧ Below wc.heap.size wc w') := Lib.hid fun y hy => by
          have h1 := r17checkPath_any V' A E c head (some ad) (P.map Int.ofNat) cP y hl (hEc.later hy) (by rw [List.length_map]; omega) (hPc.later hy)
          rw [List.length_map] at h1
          refine h1.mono ?_
          rintro e w' ⟨ok, rfl, hI, hb⟩
          exact ⟨by rw [hPok ok hI.out], bthen hy hb⟩
        have C5 : Hid (∀ y, Below wc.heap.size wc y → Calls Tryd.prog 17 #[] y fun e w' => e = .returned (.bool true) ∧ Below wc.heap.size wc w') := Lib.hid fun y hy => (awake17_any y).mono fun e w' ⟨he, hb⟩ => ⟨he, bthen hy hb⟩
        have m1 : (0 : Int) ≤ m := by omega
        have m2 : (m : Int) < P.length := by omega
        have m3 : (P.length : Int) - 1 = m := by omega
        have m4 : IntKind.i64.wrap ((P.length : Int) - 1) = m := by rw [m3]; exact IntWalk.i64_in _ (by omega)
        have m5 : (0 : Int) < P.length := by omega
        have m6 : IntKind.i64.wrap (m : Int) = m := IntWalk.i64_in _ (by omega)
        have m7 : m < P.length := by omega
        have l1 : decide ((z0 : Int) < (z1 : Int)) = true := decide_eq_true (by omega)
        have l2 : decide (z0 < z1) = true := decide_eq_true hlt
        clear hZok hPok HPZ HP0 hlt hc0 hzx hz1
        go_upto_region 14 with fail
        clear k0 k1 k2 d0 d1 hGc hIc hKc hFc hEc hPc hZc hm hm1
        generalize extE E head = F at HK2 C3 h6x ⊢
        go_cut [4] (fun v wx => v = .bool true ∧ Below wc.heap.size wc wx)
        case first =>
          go_region_held3 (fun y : World => Below wc.heap.size wc y ∧ y.cell? ⟨w.heap.size, 0, none⟩ = some (.int .i64 V') ∧ y.cell? ⟨w.heap.size, 1, none⟩ = some (.slice A E.length c) ∧ y.cell? ⟨r, 0, none⟩ = some (.int .i64 V') ∧ y.cell? ⟨r, 1, none⟩ = some (.slice AF F.length cF) ∧ y.cell? (ad.add 0) = some (.int .i64 (z0 : Int)) ∧ y.cell? ad = some (.int .i64 (z0 : Int)) ∧ y.cell? (ad.add m) = some (.int .i64 (z1 : Int)))
            (first | exact HK2.out _ (by assumption) | exact HK2.out _ (Below.refl _ _) | exact HK2.out _ (Below.refl _ _).drew)
            (first
              | (go_at_call 23; with_reducible refine (C3.out _ (by first | assumption | exact Below.refl _ _ | exact (Below.refl _ _).drew)).mono ?_; rintro e w12 ⟨rfl, hb12⟩)
              | (go_at_call 25; with_reducible refine (C4.out _ (by first | assumption | exact Below.refl _ _ | exact (Below.refl _ _).drew)).mono ?_; rintro e w12 ⟨rfl, hb12⟩)
              | (go_at_call 17; refine (C5.out _ (by first | assumption | exact Below.refl _ _ | exact (Below.refl _ _).drew)).mono ?_; rintro e w12 ⟨rfl, hb12⟩))
          all_goals
            go_wp2_with fail
            go_meet
            exact ⟨by first | rfl | simp, by assumption⟩
        case rest =>
          obtain ⟨rfl, hbd⟩ := hcut
          go_wp2
          go_ret
          exact ⟨rfl, bthen hBc hbd⟩
      · have HCK : Hid (Calls Tryd.prog 23 #[.agg #[.int .i64 V', .slice A E.length c], .slice AZ Z.length cZ] wc fun e w' => e = .returned (.bool true) ∧ Below wc.heap.size wc w') := Lib.hid (by
          refine (r17checkRest_any V' A E c AZ Z cZ wc hl hEc (by omega) hZc).mono ?_
          rintro e w' ⟨ok, rfl, hI, hb⟩
          exact ⟨by rw [hZok ok hI.out], hb⟩)
        clear hZok
        go_upto_region 15 with fail
        go_wp2_with fail
        with_reducible refine HCK.out.mono ?_
        rintro e w13 ⟨rfl, hb13⟩
        have hB13 := bthen hBc hb13
        have k2 : w13.cell? ⟨p, 2, none⟩ = some (.bool false) := (hKc.later hb13).cell 2
        go_wp2_with fail
        refine (awake17_any w13).mono ?_
        rintro e w14 ⟨rfl, hb14⟩
        go_wp2_with fail
        go_ret
        exact ⟨rfl, bthen hB13 hb14⟩
end Go.Proofs.YtbgbjodehbcgiaaDoor
