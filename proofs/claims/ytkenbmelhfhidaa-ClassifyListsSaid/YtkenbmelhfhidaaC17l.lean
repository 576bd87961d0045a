/- The contracts of classify.CheckPath and osierref17.CheckPath. -/
import Derived.Test.YtkenbmelhfhidaaC17k
import Derived.Test.YtkenbmelhfhidaaBG
import Derived.Deep.RegionHeld3
namespace Go.Proofs.Ytkenbmelhfhidaa
open Go.RowKit
attribute [local go_sem ↓] uz_and uz_or uz_andNot uz_and_one uz_shr uz_shl_one uz_shl uz_sub uz_sub_one uz_add uz_beq_zero uz_bne_zero uz_beq uz_bne uz_beq_one

/-- What CheckPath answers. -/
def CPIs (V : Int) (E : List (BitVec 32)) (h : BitVec 32) (P : List Int) (ok : Bool) : Prop := ok = true ↔ FreeIs V E h P
theorem cpi_no {V : Int} {E : List (BitVec 32)} {h : BitVec 32} {P : List Int} (k : ¬ FreeIs V E h P) : CPIs V E h P false := ⟨fun z => (by cases z), fun z => absurd z k⟩
theorem cpi_yes {V : Int} {E : List (BitVec 32)} {h : BitVec 32} {P : List Int} (k : FreeIs V E h P) : CPIs V E h P true := ⟨fun _ => k, fun _ => rfl⟩
theorem cpi_uniq {V : Int} {E : List (BitVec 32)} {h : BitVec 32} {P : List Int} {a b : Bool} (k : CPIs V E h P a) (l : CPIs V E h P b) : a = b := by
  unfold CPIs at k l
  rw [Bool.eq_iff_iff, k, l]
/-- Has the vertex been seen? -/
theorem seen_iff {P : List Int} {k : Nat} {v : Nat} (hs : ∀ i, i < k → (pz P i).toNat < 32 ∧ 0 ≤ pz P i) : (sn P k).getLsbD v = true ↔ ∃ j, j < k ∧ pz P j = v := by
  have := hv_sn (P := P) v (k := k) fun i hi => (hs i hi).1
  unfold hv at this
  rw [this]
  constructor
  · rintro ⟨j, hj, e⟩; exact ⟨j, hj, by have := (hs j hj).2; omega⟩
  · rintro ⟨j, hj, e⟩; exact ⟨j, hj, by omega⟩

set_option maxHeartbeats 40000000 in
set_option maxRecDepth 100000 in
theorem checkPath_any (V : Int) (A : Option Addr) (E : List (BitVec 32)) (c : Nat) (head : BitVec 32) (A' : Option Addr) (P : List Int) (c' : Nat) (w : World) (hl : E.length ≤ 35184372087808) (hE : Rd w w.heap.size A (us E)) (hl' : P.length ≤ 35184372087808) (hP : Rd w w.heap.size A' (is P)) :
    Calls Try.prog 79 #[.agg #[.int .i64 V, .slice A E.length c], .int .u32 (uz head), .slice A' P.length c'] w fun e w' => ∃ ok : Bool, e = .returned (.bool ok) ∧ Hid (CPIs V E (head &&& covB E) P ok) ∧ Below w.heap.size w w' := by
  obtain ⟨h, hh⟩ : ∃ h, head &&& covB E = h := ⟨_, rfl⟩
  rw [hh]
  have HH := Lib.hid hh
  clear hh
  go_enter Try.func79, Try.ntmps79
  go_wp2_with fail
  have hb0 := below_alloc w (.cells #[.int .i64 V, .slice A E.length c] 24)
  have hG0 : Row (w.alloc (.cells #[.int .i64 V, .slice A E.length c] 24)) w.heap.size 24 [.int .i64 V, .slice A E.length c] := Row.new _ _ _
  generalize w.alloc _ = w0 at hb0 hG0 ⊢
  refine (valid_any V A E c _ hl (hE.later hb0)).mono ?_
  rintro e w1 ⟨rfl, hb1⟩
  have hB1 := bthen hb0 hb1
  have hG1 := hG0.later hb1
  have hE1 := hE.later hB1
  have hP1 := hP.later hB1
  clear hb0 hb1 hG0 hE hP
  cases hv : validB V E
  · have HC : Hid (CPIs V E h P false) := Lib.hid (cpi_no fun z => by have := z.valid; rw [hv] at this; cases this)
    clear hv
    go_wp2_with fail
    refine bodyPost_ret (v := .bool false) (by simp [results, Try.results79, go_sem]) rfl ?_
    exact ⟨false, rfl, HC, hB1⟩
  · by_cases h3 : P.length < 3
    · have e0 : decide ((P.length : Int) < 3) = true := decide_eq_true (by omega)
      have HC : Hid (CPIs V E h P false) := Lib.hid (cpi_no fun z => by have := z.three; omega)
      clear h3 hv
      go_wp2_with fail
      refine bodyPost_ret (v := .bool false) (by simp [results, Try.results79, go_sem]) rfl ?_
      exact ⟨false, rfl, HC, hB1⟩
    · have e0 : decide ((P.length : Int) < 3) = false := decide_eq_false (by omega)
      obtain ⟨v0, v30, _, _⟩ := validB_of hv
      have HV := Lib.hid hv
      have HF : Hid (¬ FreeIs V E h P → CPIs V E h P false) := Lib.hid cpi_no
      have HT : Hid (FreeIs V E h P → CPIs V E h P true) := Lib.hid cpi_yes
      have H3 : Hid (3 ≤ P.length) := Lib.hid (by omega)
      have d0 : w1.cell? ⟨w.heap.size, 0, none⟩ = some (.int .i64 V) := hG1.cell 0
      have d1 : w1.cell? ⟨w.heap.size, 1, none⟩ = some (.slice A E.length c) := hG1.cell 1
      clear h3 hv
      go_wp2_with fail
      refine (covered_any V A E c w1 hl hE1).mono ?_
      rintro e w2 ⟨rfl, hb2⟩
      have hB2 := bthen hB1 hb2
      have hG2 := hG1.later hb2
      have hE2 := hE1.later hb2
      have hP2 := hP1.later hb2
      have HK : Hid (∀ x, Below w2.heap.size w2 x → x.cell? ⟨w.heap.size, 0, none⟩ = some (.int .i64 V) ∧ x.cell? ⟨w.heap.size, 1, none⟩ = some (.slice A E.length c)) := Lib.hid fun x hx => ⟨(hG2.later hx).cell 0, (hG2.later hx).cell 1⟩
      have HNB : Hid (∀ (v : Int) x, Below w2.heap.size w2 x → 0 ≤ v → v < V → Calls Try.prog 106 #[.agg #[.int .i64 V, .slice A E.length c], .int .i64 v] x fun e w' => e = .returned (.tuple #[.int .u32 (uz (nearS E v)), .int .i64 0]) ∧ Below w2.heap.size w2 w') := Lib.hid fun v x hx h0 h1 => by
        have := neighbours_any V v A E c x hl (hE2.later hx)
        rw [HV.out, if_pos rfl, if_pos ⟨h0, h1⟩] at this
        exact this.mono fun e w' ⟨he, hb⟩ => ⟨he, bthen hx hb⟩
      clear d0 d1 hG1 hE1 hP1 hb2 hB1 hE2 hG2
      go_upto_region 4 with fail
      rw [HH.out]
      clear HH
      go_wp2_with fail
      go_loopw [7, 28] (fun s i wr => ∃ k : Nat, k ≤ P.length ∧ i = .int .i64 k ∧ s = .int .u32 (uz (sn P k)) ∧ Hid (∀ i, i < k → stepOk V E h P i) ∧ Below w2.heap.size w2 wr) (fun _ i _ => P.length - (intOf i).toNat)
      case atStart => exact ⟨0, Nat.zero_le _, rfl, rfl, Lib.hid fun i hi => absurd hi (Nat.not_lt_zero _), Below.refl _ _⟩
      case round =>
        obtain ⟨k, hk, rfl, rfl, hno, hb⟩ := hrel
        obtain ⟨d0, d1⟩ := HK.out _ hb
        by_cases hlt : k < P.length
        · obtain ⟨ad, hA, _, hc⟩ := (hP2.later hb).p_at hlt
          subst hA
          have b1 : (0 : Int) ≤ k := by omega
          have b2 : (k : Int) < P.length := by omega
          have HST : Hid (FreeIs V E h P → stepOk V E h P k) := Lib.hid fun z => z.step k hlt
          have HNX : Hid (stepOk V E h P k → ∀ i, i < k + 1 → stepOk V E h P i) := Lib.hid fun z i hi => by
            rcases Nat.lt_or_ge i k with d | d
            · exact hno.out i d
            · obtain rfl : i = k := by omega
              exact z
          have HSE := Lib.hid (fun (v : Nat) => seen_iff (P := P) (k := k) (v := v) fun i hi => by have z := hno.out i hi; have z1 := z.1; have z2 := z.2.1; omega)
          have HNA := Lib.hid (fun z => near_ahead (k := k) v30 hno.out z)
          have HSN : Hid (sn P (k + 1) = sn P k ||| 1#32 <<< (pz P k).toNat) := Lib.hid rfl
          by_cases q0 : 0 ≤ pz P k
          · by_cases q1 : pz P k < V
            · obtain ⟨v, hvk⟩ : ∃ v : Nat, pz P k = v := ⟨(pz P k).toNat, by omega⟩
              have HVK := Lib.hid hvk
              have g0 : (0 : Int) ≤ v := by omega
              have g1 : (v : Int) < V := by omega
              rw [hvk] at hc HSN
              rw [Int.toNat_natCast] at HSN
              have hx1 := shr_one (sn P k) v
              have hx2 := shr_one h v
              obtain ⟨sb, hsb⟩ : ∃ sb, (sn P k).getLsbD v = sb := ⟨_, rfl⟩
              rw [hsb] at hx1
              have HSB := Lib.hid hsb
              obtain ⟨fb, hfb⟩ : ∃ fb, h.getLsbD v = fb := ⟨_, rfl⟩
              rw [hfb] at hx2
              have HFB : Hid (inB h (pz P k) = fb) := Lib.hid (by rw [hvk, inB_nat, hfb])
              clear hvk hsb hfb q0 q1
              cases sb
              · have HDI : Hid (∀ j, j < k → pz P j ≠ pz P k) := Lib.hid fun j hj e => by
                  have := (HSE.out v).2 ⟨j, hj, by rw [e, HVK.out]⟩
                  rw [HSB.out] at this; cases this
                by_cases k0 : k = 0
                · have HPOS : Hid (inB h (pz P k) = (decide (k = 0) || decide (k + 1 = P.length)) ↔ fb = true) := Lib.hid (by rw [HFB.out, decide_eq_true k0]; rfl)
                  have HAH : Hid (nearS E v &&& sn P k = 0#32 ↔ ∀ j, j < k → nearB E (pz P j) (pz P k) = decide (j + 1 = k)) := Lib.hid (by
                    have z := HNA.out (by rw [HVK.out]; exact g0)
                    rw [show ahead P k = 0#32 from if_pos k0] at z
                    rw [HVK.out] at z ⊢
                    exact z)
                  have ek0 : ((k : Int) == 0) = true := by simp [k0]
                  have gt0 : decide (0 < k) = false := decide_eq_false (by omega)
                  have HV2 : Hid (0 ≤ pz P k ∧ pz P k < V) := Lib.hid (by rw [HVK.out]; exact ⟨g0, g1⟩)
                  have HN1 := Lib.hid (HNB.out v wr hb g0 g1)
                  clear k0 HSE HNA HSB HFB HVK hno
                  generalize sn P k = s at hx1 HSN HAH ⊢
                  generalize nearS E v = nr at HAH HN1
                  cases fb
                  · have HC := Lib.hid (HF.out fun z => absurd (HPOS.out.1 (HST.out z).2.2.1) (by decide))
                    go_wp2_with fail
                    refine bodyPost_ret (v := .bool false) (by simp [results, Try.results79, go_sem]) rfl ?_
                    exact ⟨false, rfl, HC, hB2.trans (hb.mono hB2.size)⟩
                  · go_wp2_with fail
                    refine HN1.out.mono ?_
                    rintro e w3 ⟨rfl, hb3⟩
                    cases hq : (nr &&& s != 0#32)
                    · have HX := Lib.hid (HNX.out ⟨HV2.out.1, HV2.out.2, HPOS.out.2 (by first | rfl | trivial), fun j hj => ⟨HDI.out j hj, HAH.out.1 (by simpa using hq) j hj⟩⟩)
                      go_wp2_with fail
                      go_roundw
                      case measure => simp [intOf]; omega
                      case rel => exact ⟨k + 1, by omega, by go_num, by rw [HSN.out], HX, hb3⟩
                    · have HC := Lib.hid (HF.out fun z => by
                        have := HAH.out.2 fun j hj => ((HST.out z).2.2.2 j hj).2
                        rw [this] at hq; cases hq)
                      go_wp2_with fail
                      refine bodyPost_ret (v := .bool false) (by simp [results, Try.results79, go_sem]) rfl ?_
                      exact ⟨false, rfl, HC, hB2.trans (hb3.mono hB2.size)⟩
                · obtain ⟨m, hm⟩ : ∃ m, k = m + 1 := ⟨k - 1, by omega⟩
                  have hkm : (k : Int) - 1 = m := by omega
                  obtain ⟨u, hu⟩ : ∃ u : Nat, pz P m = u := ⟨(pz P m).toNat, by have := (hno.out m (by omega)).1; omega⟩
                  obtain ⟨lb, hlb⟩ : ∃ lb, ((k : Int) == (P.length : Int) - 1) = lb := ⟨_, rfl⟩
                  have HPOS : Hid (inB h (pz P k) = (decide (k = 0) || decide (k + 1 = P.length)) ↔ fb = lb) := Lib.hid (by
                    rw [HFB.out, decide_eq_false k0, ← hlb, Bool.false_or]
                    have : decide (k + 1 = P.length) = ((k : Int) == (P.length : Int) - 1) := by rw [Bool.eq_iff_iff, decide_eq_true_eq, beq_iff_eq]; omega
                    rw [this])
                  have HAH : Hid (nearS E v &&& sn P k = 1#32 <<< u ↔ ∀ j, j < k → nearB E (pz P j) (pz P k) = decide (j + 1 = k)) := Lib.hid (by
                    have z := HNA.out (by rw [HVK.out]; exact g0)
                    rw [show ahead P k = 1#32 <<< u from by unfold ahead; rw [if_neg k0, show k - 1 = m by omega, hu, Int.toNat_natCast]] at z
                    rw [HVK.out] at z ⊢
                    exact z)
                  have HUC : Hid (∀ x, Below w2.heap.size w2 x → x.cell? (ad.add m) = some (.int .i64 u)) := Lib.hid fun x hx => by
                    obtain ⟨ad2, hA2, _, hc2⟩ := (hP2.later hx).p_at (show m < P.length by omega)
                    obtain rfl : ad = ad2 := by injection hA2
                    rw [hc2, hu]
                  have ek0 : ((k : Int) == 0) = false := by rw [beq_eq_false_iff_ne]; omega
                  have gt0 : decide (0 < k) = true := decide_eq_true (by omega)
                  have m1 : (0 : Int) ≤ m := by omega
                  have m2 : (m : Int) < P.length := by omega
                  have HV2 : Hid (0 ≤ pz P k ∧ pz P k < V) := Lib.hid (by rw [HVK.out]; exact ⟨g0, g1⟩)
                  have HN1 := Lib.hid (HNB.out v wr hb g0 g1)
                  clear k0 HSE HNA HSB HFB HVK hno hu hm
                  generalize sn P k = s at hx1 HSN HAH ⊢
                  generalize nearS E v = nr at HAH HN1
                  cases fb <;> cases lb
                  all_goals first
                    | (have HC := Lib.hid (HF.out fun z => absurd (HPOS.out.1 (HST.out z).2.2.1) (by decide))
                       clear hkm
                       go_wp2_with fail
                       refine bodyPost_ret (v := .bool false) (by simp [results, Try.results79, go_sem]) rfl ?_
                       exact ⟨false, rfl, HC, hB2.trans (hb.mono hB2.size)⟩)
                    | (have HPK := Lib.hid (HPOS.out.2 (by first | rfl | trivial))
                       clear HPOS
                       go_wp2_with fail
                       refine HN1.out.mono ?_
                       rintro e w3 ⟨rfl, hb3⟩
                       have hc4 := HUC.out _ hb3
                       cases hq : (nr &&& s != 1#32 <<< u)
                       · have HX := Lib.hid (HNX.out ⟨HV2.out.1, HV2.out.2, HPK.out, fun j hj => ⟨HDI.out j hj, HAH.out.1 (by simpa using hq) j hj⟩⟩)
                         go_wp2_with fail
                         go_roundw
                         case measure => simp [intOf]; omega
                         case rel => exact ⟨k + 1, by omega, by go_num, by rw [HSN.out], HX, hb3⟩
                       · have HC := Lib.hid (HF.out fun z => by
                           have := HAH.out.2 fun j hj => ((HST.out z).2.2.2 j hj).2
                           rw [this] at hq; simp at hq)
                         go_wp2_with fail
                         refine bodyPost_ret (v := .bool false) (by simp [results, Try.results79, go_sem]) rfl ?_
                         exact ⟨false, rfl, HC, hB2.trans (hb3.mono hB2.size)⟩)
              · have HC := Lib.hid (HF.out fun z => by
                  obtain ⟨j, hj, e⟩ := (HSE.out v).1 HSB.out
                  exact ((HST.out z).2.2.2 j hj).1 (by rw [e, HVK.out]))
                clear HST HNX HSE HNA HSN hno
                generalize sn P k = s at hx1 ⊢
                go_wp2_with fail
                refine bodyPost_ret (v := .bool false) (by simp [results, Try.results79, go_sem]) rfl ?_
                exact ⟨false, rfl, HC, hB2.trans (hb.mono hB2.size)⟩
            · have HC := Lib.hid (HF.out fun z => q1 (HST.out z).2.1)
              have g0 : decide (pz P k < 0) = false := decide_eq_false (by omega)
              have g1 : decide (V ≤ pz P k) = true := decide_eq_true (by omega)
              clear HST HNX HSE HNA HSN hno q0 q1
              generalize pz P k = v at hc g0 g1
              generalize sn P k = s
              go_wp2_with fail
              refine bodyPost_ret (v := .bool false) (by simp [results, Try.results79, go_sem]) rfl ?_
              exact ⟨false, rfl, HC, hB2.trans (hb.mono hB2.size)⟩
          · have HC := Lib.hid (HF.out fun z => q0 (HST.out z).1)
            have g0 : decide (pz P k < 0) = true := decide_eq_true (by omega)
            clear HST HNX HSE HNA HSN hno q0
            generalize pz P k = v at hc g0
            generalize sn P k = s
            go_wp2_with fail
            refine bodyPost_ret (v := .bool false) (by simp [results, Try.results79, go_sem]) rfl ?_
            exact ⟨false, rfl, HC, hB2.trans (hb.mono hB2.size)⟩
        · obtain rfl : k = P.length := by omega
          have HC := Lib.hid (HT.out ⟨HV.out, H3.out, sn_few v30 hno.out, hno.out⟩)
          have HS := Lib.hid (sn_size v30 hno.out)
          have HO := Lib.hid (ones32_any (sn P P.length) wr)
          rw [HS.out] at HO
          generalize sn P P.length = s at HO ⊢
          go_wp2_with fail
          refine HO.out.mono ?_
          rintro e w3 ⟨rfl, m, rfl⟩
          go_wp2_with fail
          refine bodyPost_ret (v := .bool true) (by simp [results, Try.results79, go_sem]) rfl ?_
          exact ⟨true, rfl, HC, hB2.trans ((below_drewN hb _).mono hB2.size)⟩
end Go.Proofs.Ytkenbmelhfhidaa
