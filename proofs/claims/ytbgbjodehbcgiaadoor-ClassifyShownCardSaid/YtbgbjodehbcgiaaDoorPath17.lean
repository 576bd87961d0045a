/- The contract of classify.Path. -/
import Derived.Test.YtbgbjodehbcgiaaDoorCmpW
import Derived.Test.YtbgbjodehbcgiaaDoorP17Law
import Derived.Test.YtbgbjodehbcgiaaDoorPathLen
import Derived.Laws.Cover3
namespace Go.Proofs.YtbgbjodehbcgiaaDoor
open Go.RowKit
attribute [local go_sem ↓] uz_and uz_or uz_andNot uz_and_one uz_shr uz_shl_one uz_shl uz_sub uz_sub_one uz_add uz_beq_zero uz_bne_zero uz_beq uz_bne uz_beq_one

theorem uz_not (x : BitVec 32) : bits .xor .u32 IntKind.u32.max (uz x) = uz (~~~x) := by
  have e : IntKind.u32.max = ((4294967295 : Nat) : Int) := rfl
  rw [e]
  unfold uz
  rw [u32_xor_nat _ _ (by omega) x.isLt]
  have h : (BitVec.allOnes 32 ^^^ x).toNat = 4294967295 ^^^ x.toNat := by rw [BitVec.toNat_xor]; rfl
  rw [← h, BitVec.allOnes_xor]
theorem not_bit {b : Bool} {x : BitVec 32} {k : Nat} (h : x.getLsbD k = b) : (x >>> k &&& 1#32 == 0#32) = !b := by
  have e : x >>> k &&& 1#32 = if x.getLsbD k then 1#32 else 0#32 := by
    apply BitVec.eq_of_getLsbD_eq
    intro i hi
    by_cases h : x.getLsbD k <;> simp [h] <;> rcases i with _ | i <;> simp [h]
  rw [e, h]; cases b <;> rfl

theorem eql_nil_ints (a : Option Addr) (l c : Nat) (w : World) : (binOp .eql 39 (.slice a l c) (.slice none 0 0)).run Tryd.prog w = .ok (.bool a.isNone) w := by
  have h := run_equal_slice_nil (P := Tryd.prog) w 39 3 a l c Tryd.underlying39
  simp [binOp, h]
attribute [local go_sem ↓] uz_not eql_nil_ints
/-- The best so far, in memory: nil if there is none. -/
def BestAt (w : World) (B : Nat) (A : Option Addr) (Z : List Nat) : Prop := Rd w B A (ns Z) ∧ (Z = [] → A = none) ∧ Z.length ≤ 30

set_option maxHeartbeats 40000000 in
set_option maxRecDepth 100000 in
theorem path17_any (V : Int) (ad : Addr) (E : List (BitVec 32)) (c : Nat) (head : BitVec 32) (w : World) (hl : E.length ≤ 35184372087808) (hE : Rd w w.heap.size (some ad) (us E)) (hT : Tab w) :
    Calls Tryd.prog 14 #[.agg #[.int .i64 V, .slice (some ad) E.length c], .int .u32 (uz head)] w fun e w' => ∃ A1 Z c1 code, e = .returned (.tuple #[.slice A1 Z.length c1, .int .i64 code]) ∧ Rd w' w'.heap.size A1 (ns Z) ∧ Hid (Path17Is V E head Z code) ∧ Below w.heap.size w w' := by
  go_enter Tryd.func14, Tryd.ntmps14
  go_wp2_with fail
  have hb0 := below_alloc w (.cells #[.int .i64 V, .slice (some ad) E.length c] 28)
  have hG0 : Row (w.alloc (.cells #[.int .i64 V, .slice (some ad) E.length c] 28)) w.heap.size 28 [.int .i64 V, .slice (some ad) E.length c] := Row.new _ _ _
  generalize w.alloc _ = w0 at hb0 hG0 ⊢
  refine (classify_any V ad E c head w0 hl (hE.later hb0)).mono ?_
  rintro e w1 ⟨a, x, h, q, rfl, K, hb1⟩
  have hB1 := bthen hb0 hb1
  have hG1 := hG0.later hb1
  have hE1 := hE.later hB1
  have hT1 := hT.later hB1
  clear hb0 hb1 hG0 hE hT
  go_upto_region 2 with fail
  have hb2 := below_alloc w1 (.cells #[.bool a, .bool x, .bool h] 48)
  have hK2 : Row (w1.alloc (.cells #[.bool a, .bool x, .bool h] 48)) w1.heap.size 48 [.bool a, .bool x, .bool h] := Row.new _ _ _
  have hB2 := bthen hB1 hb2
  have hG2 := hG1.later hb2
  have hE2 := hE1.later hb2
  have hT2 := hT1.later hb2
  generalize w1.heap.size = p at hK2 ⊢
  generalize w1.alloc _ = w2 at hK2 hB2 hG2 hE2 hT2 ⊢
  have k0 : w2.cell? ⟨p, 0, none⟩ = some (.bool a) := hK2.cell 0
  have k1 : w2.cell? ⟨p, 1, none⟩ = some (.bool x) := hK2.cell 1
  clear hb2 hB1 hG1 hE1 hK2 hT1
  by_cases hq : q = 0
  · subst hq
    cases a
    · have HZ : Hid (Path17Is V E head [] 0) := Lib.hid ⟨_, _, _, _, K.out, .inl ⟨.inr (.inl rfl), rfl, rfl⟩⟩
      go_wp2_with fail
      go_ret2
      exact ⟨none, [], 0, _, rfl, Rd.nil, HZ, hB2⟩
    · cases x
      · have HV : Hid (validB V E = true) := Lib.hid (by
          rcases K.out with ⟨_, z, _⟩ | ⟨g, _⟩
          · cases z
          · exact (goodB_iff.1 g).1)
        have HK := Lib.hid (fun (Z : List Nat) (r : bestC V E (head &&& covB E) Z) => (show Path17Is V E head Z 0 from ⟨_, _, _, _, K.out, .inr ⟨rfl, rfl, rfl, rfl, r⟩⟩))
        obtain ⟨v0, v30, _, _⟩ := validB_of HV.out
        have d0 : w2.cell? ⟨w.heap.size, 0, none⟩ = some (.int .i64 V) := hG2.cell 0
        have d1 : w2.cell? ⟨w.heap.size, 1, none⟩ = some (.slice (some ad) E.length c) := hG2.cell 1
        go_wp2_with fail
        refine (covered_any V (some ad) E c w2 hl hE2).mono ?_
        rintro e w3 ⟨rfl, hb3⟩
        have hB3 := bthen hB2 hb3
        have hG3 := hG2.later hb3
        have hE3 := hE2.later hb3
        have hT3 := hT2.later hb3
        obtain ⟨n, rfl⟩ : ∃ n : Nat, V = n := ⟨V.toNat, by omega⟩
        clear d0 d1 k0 k1 hb3 hB2 hG2 hE2 hT2 K
        go_upto_region 5 with fail
        obtain ⟨hd, hhd⟩ : ∃ hd, head &&& covB E = hd := ⟨_, rfl⟩
        rw [hhd] at HK ⊢
        clear hhd
        obtain ⟨f, hf⟩ : ∃ f, pthC n E hd = f := ⟨_, rfl⟩
        have HF := Lib.hid hf
        have HN : Hid (∀ b, b = allP hd f n n → bestC n E hd b) := Lib.hid fun b hb => by rw [bestC, HF.out, Int.toNat_natCast]; exact hb
        have HP : Hid (∀ (x y : Nat) (wr : World), Below w3.heap.size w3 wr → x < y → y < n → Calls Tryd.prog 48 #[.agg #[.int .i64 n, .slice (some ad) E.length c], .int .i64 x, .int .i64 y, .int .u32 (uz (~~~hd))] wr fun e w' => ∃ A1 c1 code, e = .returned (.tuple #[.slice A1 (f x y).length c1, .int .i64 code]) ∧ Rd w' w'.heap.size A1 (ns (f x y)) ∧ (f x y).length ≤ 30 ∧ Below wr.heap.size wr w') := Lib.hid fun x y wr hb hxy hy => by
          refine (path_any n x y (~~~hd) (some ad) E c wr hl (hE3.later hb) (hT3.later hb)).mono ?_
          rintro e w' ⟨v, Z, code, rfl, hown, hP, hb'⟩
          obtain ⟨A1, c1, rfl, _, _, hZ, _⟩ := Rd.of_own hown
          have hc : code = 0 := pathIs_code hP.out HV.out (by omega) (by omega) (by omega) (by omega)
          subst hc
          have hz : f x y = Z := by rw [← HF.out]; exact pthC_eq hP.out
          rw [hz]
          exact ⟨A1, c1, _, rfl, hZ, pathIs_len hP.out, hb'⟩
        clear HF hf
        have d0 : w3.cell? ⟨w.heap.size, 0, none⟩ = some (.int .i64 n) := hG3.cell 0
        go_wp2_with fail
        clear d0
        go_loopw [8, 37] (fun v i wr => ∃ (k : Nat) (A1 : Option Addr) (c1 : Nat) (Z : List Nat), k ≤ n ∧ i = .int .i64 k ∧ v = .slice A1 Z.length c1 ∧ Hid (Z = allP hd f n k) ∧ Rd wr wr.heap.size A1 (ns Z) ∧ (Z = [] → A1 = none) ∧ Z.length ≤ 30 ∧ Below w3.heap.size w3 wr) (fun _ i _ => n - (intOf i).toNat)
        case atStart => exact ⟨0, none, 0, [], Nat.zero_le _, rfl, rfl, Lib.hid rfl, Rd.nil, fun _ => rfl, Nat.zero_le _, Below.refl _ _⟩
        case round =>
          obtain ⟨k, A1, c1, Z, hk, rfl, rfl, hZ, hR, hnil, h30, hb⟩ := hrel
          have d0 : wr.cell? ⟨w.heap.size, 0, none⟩ = some (.int .i64 n) := (hG3.later hb).cell 0
          by_cases hlt : k < n
          · have b1 : (k : Int) < n := by omega
            have HA : Hid (∀ b, b = rowP hd f k (allP hd f n k) n → b = allP hd f n (k + 1)) := Lib.hid fun b h => h.trans (allP_next hd f n k).symm
            have HS : Hid (Z = rowP hd f k (allP hd f n k) (k + 1)) := Lib.hid (by rw [rowP_start]; exact hZ.out)
            clear hZ
            generalize allP hd f n k = B at HA HS
            go_wp2_with fail
            go_loopg [8, 10] (n - (k + 1)) (fun g v j wi => ∃ (y : Nat) (A2 : Option Addr) (c2 : Nat) (Y : List Nat), k < y ∧ y ≤ n ∧ g = n - y ∧ j = .int .i64 y ∧ v = .slice A2 Y.length c2 ∧ Hid (Y = rowP hd f k B y) ∧ Rd wi wi.heap.size A2 (ns Y) ∧ (Y = [] → A2 = none) ∧ Y.length ≤ 30 ∧ Below w3.heap.size w3 wi)
            case atStart => exact ⟨k + 1, A1, c1, Z, by omega, by omega, rfl, by go_num, rfl, HS, hR, hnil, h30, hb⟩
            case round =>
              clear hR hnil h30 hb HS d0
              obtain ⟨y, A2, c2, Y, hy, hyn, rfl, rfl, rfl, hY, hR, hnil, h30, hb⟩ := hrel
              have d0 : wr.cell? ⟨w.heap.size, 0, none⟩ = some (.int .i64 n) := (hG3.later hb).cell 0
              have d1 : wr.cell? ⟨w.heap.size, 1, none⟩ = some (.slice (some ad) E.length c) := (hG3.later hb).cell 1
              by_cases hylt : y < n
              · have b2 : (y : Int) < n := by omega
                have HT : Hid (∀ S, S = stepP hd f k Y y → S = rowP hd f k B (y + 1)) := Lib.hid fun S h => by rw [rowP_next hd f k B hy, ← hY.out]; exact h
                clear hY
                obtain ⟨xb, hxb⟩ : ∃ b, hd.getLsbD k = b := ⟨_, rfl⟩
                obtain ⟨yb, hyb⟩ : ∃ b, hd.getLsbD y = b := ⟨_, rfl⟩
                have ex := not_bit hxb
                have ey := not_bit hyb
                have HXB := Lib.hid hxb
                have HYB := Lib.hid hyb
                clear hxb hyb
                cases xb
                · have HW := Lib.hid (HT.out Y (step_no (cand_left HXB.out)).symm)
                  go_wp2_with fail
                  go_roundg (n - (y + 1))
                  case measure => omega
                  case rel => exact ⟨y + 1, A2, c2, Y, by omega, by omega, rfl, by go_num, rfl, HW, hR, hnil, h30, hb⟩
                · cases yb
                  · have HW := Lib.hid (HT.out Y (step_no (cand_right HYB.out)).symm)
                    go_wp2_with fail
                    go_roundg (n - (y + 1))
                    case measure => omega
                    case rel => exact ⟨y + 1, A2, c2, Y, by omega, by omega, rfl, by go_num, rfl, HW, hR, hnil, h30, hb⟩
                  · have HC := Lib.hid (cand_iff (f := f) HXB.out HYB.out)
                    go_wp2_with fail
                    with_reducible refine (HP.out k y wr hb hy hylt).mono ?_
                    rintro e w4 ⟨A3, c3, code, rfl, hR3, h303, hb4⟩
                    have hR4 := hR.later hb4
                    have hb5 := bthen hb hb4
                    clear d0 d1 ex ey
                    go_upto_region 14 with fail
                    generalize hX : f k y = X at hR3 h303 HC ⊢
                    have HX := Lib.hid hX
                    clear hX
                    have HWX : Hid (candB hd f k y = true → (Y = [] ∨ lessL X Y = true) → X = rowP hd f k B (y + 1)) := Lib.hid fun h1 h2 => HT.out X (by rw [step_take h1 (by rw [HX.out]; exact h2), HX.out])
                    have HWY : Hid ((candB hd f k y = false ∨ (candB hd f k y = true ∧ Y ≠ [] ∧ lessL X Y = false)) → Y = rowP hd f k B (y + 1)) := Lib.hid fun h1 => HT.out Y (by
                      rcases h1 with h | ⟨h, h2, h4⟩
                      · exact (step_no h).symm
                      · exact (step_keep h h2 (by rw [HX.out]; exact h4)).symm)
                    clear HT HX
                    by_cases h3 : 3 ≤ X.length
                    · have g0 : decide ((2 : Int) < X.length) = true := decide_eq_true (by omega)
                      have hcd : candB hd f k y = true := by rw [HC.out]; exact decide_eq_true h3
                      have hX0 : X = [] → A3 = none := fun e => by rw [e] at h3; simp at h3
                      clear HC
                      by_cases hY0 : Y = []
                      · have HW := Lib.hid (HWX.out hcd (.inl hY0))
                        have hA2 := hnil hY0
                        subst hA2
                        subst hY0
                        clear HWX HWY hnil hR hcd h3
                        go_wp2_with fail
                        go_roundg (n - (y + 1))
                        case measure => omega
                        case rel => exact ⟨y + 1, A3, c3, X, by omega, by omega, rfl, by go_num, rfl, HW, hR3, hX0, h303, hb5⟩
                      · have hpos : 0 < Y.length := List.length_pos_iff.2 hY0
                        obtain ⟨ad2, rfl, _, _⟩ := hR4.n_at hpos
                        have hY1 : Y = [] → (some ad2 : Option Addr) = none := fun e => absurd e hY0
                        by_cases hl1 : X.length < Y.length
                        · have g1 : decide ((X.length : Int) < Y.length) = true := decide_eq_true (by omega)
                          have g1n : decide (X.length < Y.length) = true := decide_eq_true (by omega)
                          have HW := Lib.hid (HWX.out hcd (.inr (by rw [lessL, if_neg (by omega)]; exact decide_eq_true hl1)))
                          clear HWX HWY hnil hR hcd h3 hl1 hY0
                          go_wp2_with fail
                          go_roundg (n - (y + 1))
                          case measure => omega
                          case rel => exact ⟨y + 1, A3, c3, X, by omega, by omega, rfl, by go_num, rfl, HW, hR3, hX0, h303, hb5⟩
                        · have g1 : decide ((X.length : Int) < Y.length) = false := decide_eq_false (by omega)
                          have g1n : decide (X.length < Y.length) = false := decide_eq_false (by omega)
                          by_cases hl2 : X.length = Y.length
                          · have g2 : ((X.length : Int) == (Y.length : Int)) = true := by simp [hl2]
                            have g2n : (X.length == Y.length) = true := by simp [hl2]
                            have HCM := Lib.hid (compareL_any A3 (some ad2) X Y c3 c2 w4 hl2 (by omega) hR3 hR4)
                            have HLL : Hid (lessL X Y = lexLt X Y) := Lib.hid (by rw [lessL, if_pos hl2])
                            clear hl2 hl1
                            cases hxl : lexLt X Y
                            · have HW := Lib.hid (HWY.out (.inr ⟨hcd, hY0, by rw [HLL.out, hxl]⟩))
                              rw [hxl] at HCM
                              clear HWX HWY hnil hR hcd h3 hY0 hxl HLL
                              go_wp2_with fail
                              with_reducible refine HCM.out.mono ?_
                              rintro e w5 ⟨r, rfl, hr, nd, rfl⟩
                              have hr2 := hr.out
                              go_wp2_with fail
                              go_roundg (n - (y + 1))
                              case measure => omega
                              case rel => exact ⟨y + 1, some ad2, c2, Y, by omega, by omega, rfl, by go_num, rfl, HW, hR4.later (below_drewN (Below.refl _ _) nd), hY1, h30, below_drewN hb5 nd⟩
                            · have HW := Lib.hid (HWX.out hcd (.inr (by rw [HLL.out, hxl])))
                              rw [hxl] at HCM
                              clear HWX HWY hnil hR hcd h3 hY0 hxl HLL
                              go_wp2_with fail
                              with_reducible refine HCM.out.mono ?_
                              rintro e w5 ⟨r, rfl, hr, nd, rfl⟩
                              have hr2 := hr.out
                              go_wp2_with fail
                              go_roundg (n - (y + 1))
                              case measure => omega
                              case rel => exact ⟨y + 1, A3, c3, X, by omega, by omega, rfl, by go_num, rfl, HW, hR3.later (below_drewN (Below.refl _ _) nd), hX0, h303, below_drewN hb5 nd⟩
                          · have g2 : ((X.length : Int) == (Y.length : Int)) = false := by rw [beq_eq_false_iff_ne]; omega
                            have g2n : (X.length == Y.length) = false := by rw [beq_eq_false_iff_ne]; exact hl2
                            have HW := Lib.hid (HWY.out (.inr ⟨hcd, hY0, by rw [lessL, if_neg hl2]; exact decide_eq_false hl1⟩))
                            clear HWX HWY hnil hR hcd h3 hl1 hl2 hY0
                            go_wp2_with fail
                            go_roundg (n - (y + 1))
                            case measure => omega
                            case rel => exact ⟨y + 1, some ad2, c2, Y, by omega, by omega, rfl, by go_num, rfl, HW, hR4, hY1, h30, hb5⟩
                    · have g0 : decide ((2 : Int) < X.length) = false := decide_eq_false (by omega)
                      have HW := Lib.hid (HWY.out (.inl (by rw [HC.out]; exact decide_eq_false h3)))
                      clear HWX HWY hR h3
                      go_wp2_with fail
                      go_roundg (n - (y + 1))
                      case measure => omega
                      case rel => exact ⟨y + 1, A2, c2, Y, by omega, by omega, rfl, by go_num, rfl, HW, hR4, hnil, h30, hb5⟩
              · obtain rfl : y = n := by omega
                have HW := Lib.hid (HA.out Y hY.out)
                go_wp2_with fail
                go_roundw
                case measure => simp [intOf]; omega
                case rel => exact ⟨k + 1, A2, c2, Y, by omega, by go_num, rfl, HW, hR, hnil, h30, hb⟩
          · obtain rfl : k = n := by omega
            have HB := Lib.hid (HK.out Z (HN.out Z hZ.out))
            go_wp2_with fail
            go_ret2
            exact ⟨A1, Z, c1, _, rfl, hR, HB, hB3.trans (hb.mono hB3.size)⟩
      · have HZ : Hid (Path17Is V E head [] 0) := Lib.hid ⟨_, _, _, _, K.out, .inl ⟨.inr (.inr rfl), rfl, rfl⟩⟩
        go_wp2_with fail
        go_ret2
        exact ⟨none, [], 0, _, rfl, Rd.nil, HZ, hB2⟩
  · have HZ : Hid (Path17Is V E head [] q) := Lib.hid ⟨_, _, _, _, K.out, .inl ⟨.inl hq, rfl, rfl⟩⟩
    have hqb : (q != 0) = true := by simpa using hq
    clear hq
    go_wp2_with fail
    go_ret2
    exact ⟨none, [], 0, _, rfl, Rd.nil, HZ, hB2⟩
end Go.Proofs.YtbgbjodehbcgiaaDoor
