/- The contract of osierref17.Path. -/
import Derived.Test.YtbgbjodehbcgiaaDoorPath17
import Derived.Deep.RegionHeld3
namespace Go.Proofs.YtbgbjodehbcgiaaDoor
open Go.RowKit
attribute [local go_sem ↓] uz_and uz_or uz_andNot uz_and_one uz_shr uz_shl_one uz_shl uz_sub uz_sub_one uz_add uz_beq_zero uz_bne_zero uz_beq uz_bne uz_beq_one

theorem all_less_bit {n : Nat} (h30 : (n : Int) ≤ 30) (hd : BitVec 32) (v : Nat) (hv : v < n) : (allOf n &&& ~~~hd).getLsbD v = (~~~hd).getLsbD v := by
  rw [BitVec.getLsbD_and, getLsbD_allOf (n : Int) (by omega), Int.toNat_natCast, decide_eq_true hv, Bool.true_and]

set_option maxHeartbeats 40000000 in
set_option maxRecDepth 100000 in
theorem r17path_any (V : Int) (A : Option Addr) (E : List (BitVec 32)) (c : Nat) (head : BitVec 32) (w : World) (hl : E.length ≤ 35184372087808) (hE : Rd w w.heap.size A (us E)) :
    Calls Tryd.prog 16 #[.agg #[.int .i64 V, .slice A E.length c], .int .u32 (uz head)] w fun e w' => ∃ A1 Z c1 code, e = .returned (.tuple #[.slice A1 Z.length c1, .int .i64 code]) ∧ Rd w' w'.heap.size A1 (ns Z) ∧ Hid (Path17Is V E head Z code) ∧ Below w.heap.size w w' := by
  go_enter Tryd.func16, Tryd.ntmps16
  go_wp2_with fail
  have hb0 := below_alloc w (.cells #[.int .i64 V, .slice A E.length c] 28)
  have hG0 : Row (w.alloc (.cells #[.int .i64 V, .slice A E.length c] 28)) w.heap.size 28 [.int .i64 V, .slice A E.length c] := Row.new _ _ _
  generalize w.alloc _ = w0 at hb0 hG0 ⊢
  refine (r17classify_any V A E c head w0 hl (hE.later hb0)).mono ?_
  rintro e w2 ⟨a, x, h, q, rfl, K, hb1⟩
  have hB2 := bthen hb0 hb1
  have hG2 := hG0.later hb1
  have hE2 := hE.later hB2
  clear hb0 hb1 hG0 hE
  by_cases hq : q = 0
  · subst hq
    cases a
    · have HZ : Hid (Path17Is V E head [] 0) := Lib.hid ⟨_, _, _, _, K.out, .inl ⟨.inr (.inl rfl), rfl, rfl⟩⟩
      go_wp2_with fail
      go_ret2
      exact ⟨none, [], 0, _, rfl, Rd.nil, HZ, hB2⟩
    · cases x
      · have HV : Hid (validB V E = true) := Lib.hid (by
          rcases K.out with ⟨_, z, _⟩ | ⟨g, _⟩
          · cases z
          · exact (goodB_iff.1 g).1)
        have HK := Lib.hid (fun (Z : List Nat) (r : bestC V E (head &&& covB E) Z) => (show Path17Is V E head Z 0 from ⟨_, _, _, _, K.out, .inr ⟨rfl, rfl, rfl, rfl, r⟩⟩))
        obtain ⟨v0, v30, _, _⟩ := validB_of HV.out
        have d0 : w2.cell? ⟨w.heap.size, 0, none⟩ = some (.int .i64 V) := hG2.cell 0
        have d1 : w2.cell? ⟨w.heap.size, 1, none⟩ = some (.slice A E.length c) := hG2.cell 1
        go_wp2_with fail
        refine (r17covered_any V A E c w2 hl hE2).mono ?_
        rintro e w3 ⟨rfl, hb3⟩
        have hB3 := bthen hB2 hb3
        have hG3 := hG2.later hb3
        have hE3 := hE2.later hb3
        obtain ⟨n, rfl⟩ : ∃ n : Nat, V = n := ⟨V.toNat, by omega⟩
        clear d0 d1 hb3 hB2 hG2 hE2 K
        go_wp2_with (go_at_call 53; refine (both_any _ _ _).mono ?_; rintro e w' ⟨rfl, rfl⟩)
        obtain ⟨hd, hhd⟩ : ∃ hd, head &&& covB E = hd := ⟨_, rfl⟩
        rw [hhd] at HK ⊢
        clear hhd
        obtain ⟨f, hf⟩ : ∃ f, pthC n E hd = f := ⟨_, rfl⟩
        have HF := Lib.hid hf
        have HN : Hid (∀ b, b = allP hd f n n → bestC n E hd b) := Lib.hid fun b hb => by rw [bestC, HF.out, Int.toNat_natCast]; exact hb
        have HIN : Hid (∀ (s : BitVec 32) (v : Int) (wr : World), Calls Tryd.prog 55 #[.int .u32 (uz s), .int .i64 v] wr fun e w' => e = .returned (.bool (inB s v)) ∧ wr = w') := Lib.hid fun s v wr => in_any s v wr
        have HP : Hid (∀ (x y : Nat) (wr : World), Below w3.heap.size w3 wr → x < y → y < n → ∀ ws : World, Below wr.heap.size wr ws → Calls Tryd.prog 56 #[.agg #[.int .i64 n, .slice A E.length c], .int .i64 x, .int .i64 y, .int .u32 (uz (allOf n &&& ~~~hd))] ws fun e w' => ∃ A1 c1 code, e = .returned (.tuple #[.slice A1 (f x y).length c1, .int .i64 code]) ∧ Rd w' w'.heap.size A1 (ns (f x y)) ∧ Below wr.heap.size wr w') := Lib.hid fun x y wr hbr hxy hy ws hb => by
          refine (rpath_any n x y (allOf n &&& ~~~hd) A E c ws hl (hE3.later (bthen hbr hb))).mono ?_
          rintro e w' ⟨v, Z, code, rfl, hown, hP, hb'⟩
          obtain ⟨A1, c1, rfl, _, _, hZ, _⟩ := Rd.of_own hown
          have hc : code = 0 := pathIs_code hP.out HV.out (by omega) (by omega) (by omega) (by omega)
          subst hc
          have hz : f x y = Z := by
            rw [← HF.out]
            refine pthC_eq (pathIs_congr (fun hv e he v hh => ?_) (fun v hv => ?_) hP.out)
            · have := edge_lt hv e he v hh
              omega
            · exact all_less_bit v30 hd v (by omega)
          rw [hz]
          exact ⟨A1, c1, _, rfl, hZ, bthen hb hb'⟩
        have HQ : Hid (∀ (x y : Nat), x < y → y < n → (f x y).length ≤ 30) := Lib.hid fun x y hxy hy => by
          have := pathIs_len (pthC_is hd HV.out (x := x) (y := y) (by omega) (by omega) (by omega))
          rw [HF.out] at this
          exact this
        have HK3 : Hid (∀ x, Below w3.heap.size w3 x → Below w3.heap.size w3 x ∧ x.cell? ⟨w.heap.size, 0, none⟩ = some (.int .i64 n) ∧ x.cell? ⟨w.heap.size, 1, none⟩ = some (.slice A E.length c)) := Lib.hid (fun x hx => ⟨hx, (hG3.later hx).cell 0, (hG3.later hx).cell 1⟩)
        clear HF hf
        go_wp2_with fail
        go_loopw [11, 12] (fun v i wr => ∃ (k : Nat) (A1 : Option Addr) (c1 : Nat) (Z : List Nat), k ≤ n ∧ i = .int .i64 k ∧ v = .slice A1 Z.length c1 ∧ Hid (Z = allP hd f n k) ∧ Rd wr wr.heap.size A1 (ns Z) ∧ Z.length ≤ 30 ∧ Below w3.heap.size w3 wr) (fun _ i _ => n - (intOf i).toNat)
        case atStart => exact ⟨0, none, 0, [], Nat.zero_le _, rfl, rfl, Lib.hid rfl, Rd.nil, Nat.zero_le _, Below.refl _ _⟩
        case round =>
          obtain ⟨k, A1, c1, Z, hk, rfl, rfl, hZ, hR, h30, hb⟩ := hrel
          have d0 : wr.cell? ⟨w.heap.size, 0, none⟩ = some (.int .i64 n) := (hG3.later hb).cell 0
          by_cases hlt : k < n
          · have b1 : (k : Int) < n := by omega
            have HA : Hid (∀ b, b = rowP hd f k (allP hd f n k) n → b = allP hd f n (k + 1)) := Lib.hid fun b h => h.trans (allP_next hd f n k).symm
            have HS : Hid (Z = rowP hd f k (allP hd f n k) (k + 1)) := Lib.hid (by rw [rowP_start]; exact hZ.out)
            clear hZ
            generalize allP hd f n k = B at HA HS
            go_wp2_with fail
            go_loopg [11, 13] (n - (k + 1)) (fun g v j wi => ∃ (y : Nat) (A2 : Option Addr) (c2 : Nat) (Y : List Nat), k < y ∧ y ≤ n ∧ g = n - y ∧ j = .int .i64 y ∧ v = .slice A2 Y.length c2 ∧ Hid (Y = rowP hd f k B y) ∧ Rd wi wi.heap.size A2 (ns Y) ∧ Y.length ≤ 30 ∧ Below w3.heap.size w3 wi)
            case atStart => exact ⟨k + 1, A1, c1, Z, by omega, by omega, rfl, by go_num, rfl, HS, hR, h30, hb⟩
            case round =>
              clear hR h30 hb HS d0
              obtain ⟨y, A2, c2, Y, hy, hyn, rfl, rfl, rfl, hY, hR, h30, hb⟩ := hrel
              have d0 : wr.cell? ⟨w.heap.size, 0, none⟩ = some (.int .i64 n) := (hG3.later hb).cell 0
              have d1 : wr.cell? ⟨w.heap.size, 1, none⟩ = some (.slice A E.length c) := (hG3.later hb).cell 1
              by_cases hylt : y < n
              · have b2 : (y : Int) < n := by omega
                have HT : Hid (∀ S, S = stepP hd f k Y y → S = rowP hd f k B (y + 1)) := Lib.hid fun S h => by rw [rowP_next hd f k B hy, ← hY.out]; exact h
                clear hY
                obtain ⟨xb, hxb⟩ : ∃ b, hd.getLsbD k = b := ⟨_, rfl⟩
                obtain ⟨yb, hyb⟩ : ∃ b, hd.getLsbD y = b := ⟨_, rfl⟩
                have ex : inB hd k = xb := by rw [inB_nat]; exact hxb
                have ey : inB hd y = yb := by rw [inB_nat]; exact hyb
                have HXB := Lib.hid hxb
                have HYB := Lib.hid hyb
                clear hxb hyb
                cases xb
                · have HW := Lib.hid (HT.out Y (step_no (cand_left HXB.out)).symm)
                  go_wp2_with (go_at_call 55; refine (HIN.out _ _ _).mono ?_; rintro e w' ⟨rfl, rfl⟩)
                  go_roundg (n - (y + 1))
                  case measure => omega
                  case rel => exact ⟨y + 1, A2, c2, Y, by omega, by omega, rfl, by go_num, rfl, HW, hR, h30, hb⟩
                · cases yb
                  · have HW := Lib.hid (HT.out Y (step_no (cand_right HYB.out)).symm)
                    go_wp2_with (go_at_call 55; refine (HIN.out _ _ _).mono ?_; rintro e w' ⟨rfl, rfl⟩)
                    go_roundg (n - (y + 1))
                    case measure => omega
                    case rel => exact ⟨y + 1, A2, c2, Y, by omega, by omega, rfl, by go_num, rfl, HW, hR, h30, hb⟩
                  · have HC := Lib.hid (cand_iff (f := f) HXB.out HYB.out)
                    go_upto_region 13 with (go_at_call 55; refine (HIN.out _ _ _).mono ?_; rintro e w' ⟨rfl, rfl⟩)
                    have HPP : Hid (∀ x, Below wr.heap.size wr x → Calls Tryd.prog 56 #[.agg #[.int .i64 n, .slice A E.length c], .int .i64 k, .int .i64 y, .int .u32 (uz (allOf n &&& ~~~hd))] x fun e w' => ∃ A1 c1 code, e = .returned (.tuple #[.slice A1 (f k y).length c1, .int .i64 code]) ∧ Rd w' w'.heap.size A1 (ns (f k y)) ∧ Below wr.heap.size wr w') := Lib.hid fun x hx => HP.out k y wr hb hy hylt x hx
                    have D1 : Hid (∀ x, Below wr.heap.size wr x → Calls Tryd.prog 58 #[.agg #[.int .i64 n, .slice A E.length c]] x fun e w' => e = .returned (.int .u32 (uz (allOf n))) ∧ Below wr.heap.size wr w') := Lib.hid fun x hx => (r14all_any n A E.length c x (by omega)).mono fun e w' ⟨he, hb'⟩ => ⟨he, bthen hx hb'⟩
                    have D2 : Hid (∀ a b x, Below wr.heap.size wr x → Calls Tryd.prog 57 #[.int .u32 (uz a), .int .u32 (uz b)] x fun e w' => e = .returned (.int .u32 (uz (a &&& ~~~b))) ∧ Below wr.heap.size wr w') := Lib.hid fun a b x hx => (r14less_any a b x).mono fun e w' ⟨he, hb'⟩ => ⟨he, by rw [← hb']; exact hx⟩
                    have HK4 : Hid (∀ x, Below wr.heap.size wr x → Below wr.heap.size wr x ∧ x.cell? ⟨w.heap.size, 0, none⟩ = some (.int .i64 n) ∧ x.cell? ⟨w.heap.size, 1, none⟩ = some (.slice A E.length c)) := Lib.hid fun x hx => HK3.out x (bthen hb hx) |> fun h => ⟨hx, h.2⟩
                    have hq30 := HQ.out k y hy hylt
                    generalize hX : f k y = X at HC HPP hq30
                    have HX := Lib.hid hX
                    clear hX
                    go_cut [14] (fun v wx => ∃ A3 c3, v = .slice A3 X.length c3 ∧ Rd wx wx.heap.size A3 (ns X) ∧ Below wr.heap.size wr wx)
                    case first =>
                      go_region_held3 (fun x : World => Below wr.heap.size wr x ∧ x.cell? ⟨w.heap.size, 0, none⟩ = some (.int .i64 n) ∧ x.cell? ⟨w.heap.size, 1, none⟩ = some (.slice A E.length c))
                        (first | exact HK4.out _ (by assumption) | exact HK4.out _ (Below.refl _ _) | exact HK4.out _ (Below.refl _ _).drew)
                        (first
                          | (go_at_call 58; refine (D1.out _ (by first | assumption | exact Below.refl _ _ | exact (Below.refl _ _).drew)).mono ?_; rintro e w4 ⟨rfl, hb4⟩)
                          | (go_at_call 57; with_reducible refine (D2.out _ _ _ (by first | assumption | exact Below.refl _ _ | exact (Below.refl _ _).drew)).mono ?_; rintro e w4 ⟨rfl, hb4⟩)
                          | (go_at_call 56; refine (HPP.out _ (by first | assumption | exact Below.refl _ _ | exact (Below.refl _ _).drew)).mono ?_; rintro e w4 ⟨A3, c3, code, rfl, hR3, hb4⟩))
                      all_goals
                        go_wp2_with fail
                        go_meet
                        exact ⟨_, _, rfl, by assumption, by assumption⟩
                    case rest =>
                      obtain ⟨A3, c3, rfl, hR3, hb5⟩ := hcut
                      have hR4 := hR.later hb5
                      have hB5 := bthen hb hb5
                      have HWX : Hid (candB hd f k y = true → leastL Y X = rowP hd f k B (y + 1)) := Lib.hid fun h1 => HT.out _ (by rw [stepP, if_pos h1, HX.out])
                      have HWY : Hid (candB hd f k y = false → Y = rowP hd f k B (y + 1)) := Lib.hid fun h1 => HT.out Y (step_no h1).symm
                      have HLL := Lib.hid (leastL_or Y X)
                      clear HT HX hR hb5 HPP D1 D2 HK4 d0 d1
                      by_cases h3 : 3 ≤ X.length
                      · have g0 : decide ((3 : Int) ≤ X.length) = true := decide_eq_true (by omega)
                        have g0n : decide (3 ≤ X.length) = true := decide_eq_true h3
                        have HW := Lib.hid (HWX.out (by rw [HC.out]; exact decide_eq_true h3))
                        have HLE := Lib.hid (least_any A2 A3 Y X c2 c3 wc (by omega) (by omega) hR4 hR3 (by omega))
                        have hl9 : (leastL Y X).length ≤ 30 := by
                          rcases HLL.out with e | e <;> rw [e] <;> assumption
                        clear HWX HWY HC HLL h3
                        go_wp2_with fail
                        with_reducible refine HLE.out.mono ?_
                        rintro e w5 ⟨A4, c4, rfl, hwh, nd, rfl⟩
                        have hR5 : Rd (wc.drewN nd) (wc.drewN nd).heap.size A4 (ns (leastL Y X)) := by
                          rcases hwh with ⟨rfl, e⟩ | ⟨rfl, e⟩ <;> rw [e]
                          · exact hR4.later (below_drewN (Below.refl _ _) nd)
                          · exact hR3.later (below_drewN (Below.refl _ _) nd)
                        clear hwh
                        generalize leastL Y X = S at HW hl9 hR5 ⊢
                        go_wp2_with fail
                        go_roundg (n - (y + 1))
                        case measure => omega
                        case rel => exact ⟨y + 1, A4, c4, S, by omega, by omega, rfl, by go_num, rfl, HW, hR5, hl9, below_drewN hB5 nd⟩
                      · have g0 : decide ((3 : Int) ≤ X.length) = false := decide_eq_false (by omega)
                        have g0n : decide (3 ≤ X.length) = false := decide_eq_false h3
                        have HW := Lib.hid (HWY.out (by rw [HC.out]; exact decide_eq_false h3))
                        clear HWX HWY HC HLL h3
                        go_wp2_with fail
                        go_roundg (n - (y + 1))
                        case measure => omega
                        case rel => exact ⟨y + 1, A2, c2, Y, by omega, by omega, rfl, by go_num, rfl, HW, hR4, h30, hB5⟩
              · obtain rfl : y = n := by omega
                have HW := Lib.hid (HA.out Y hY.out)
                go_wp2_with fail
                go_roundw
                case measure => simp [intOf]; omega
                case rel => exact ⟨k + 1, A2, c2, Y, by omega, by go_num, rfl, HW, hR, h30, hb⟩
          · obtain rfl : k = n := by omega
            have HB := Lib.hid (HK.out Z (HN.out Z hZ.out))
            go_wp2_with fail
            go_ret2
            exact ⟨A1, Z, c1, _, rfl, hR, HB, hB3.trans (hb.mono hB3.size)⟩
      · have HZ : Hid (Path17Is V E head [] 0) := Lib.hid ⟨_, _, _, _, K.out, .inl ⟨.inr (.inr rfl), rfl, rfl⟩⟩
        go_wp2_with fail
        go_ret2
        exact ⟨none, [], 0, _, rfl, Rd.nil, HZ, hB2⟩
  · have HZ : Hid (Path17Is V E head [] q) := Lib.hid ⟨_, _, _, _, K.out, .inl ⟨.inl hq, rfl, rfl⟩⟩
    have hqb : (q != 0) = true := by simpa using hq
    clear hq
    go_wp2_with fail
    go_ret2
    exact ⟨none, [], 0, _, rfl, Rd.nil, HZ, hB2⟩
end Go.Proofs.YtbgbjodehbcgiaaDoor
