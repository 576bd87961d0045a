/- The contract of osierref17.CheckPath. -/
import Derived.Test.YtkenbmelhfhidaaC17l
import Derived.Deep.RegionHeld3
namespace Go.Proofs.Ytkenbmelhfhidaa
open Go.RowKit
attribute [local go_sem ↓] uz_and uz_or uz_andNot uz_and_one uz_shr uz_shl_one uz_shl uz_sub uz_sub_one uz_add uz_beq_zero uz_bne_zero uz_beq uz_bne uz_beq_one

set_option maxHeartbeats 40000000 in
set_option maxRecDepth 100000 in
theorem r17checkPath_any (V : Int) (A : Option Addr) (E : List (BitVec 32)) (c : Nat) (head : BitVec 32) (A' : Option Addr) (P : List Int) (c' : Nat) (w : World) (hl : E.length ≤ 35184372087808) (hE : Rd w w.heap.size A (us E)) (hl' : P.length ≤ 35184372087808) (hP : Rd w w.heap.size A' (is P)) :
    Calls Try.prog 80 #[.agg #[.int .i64 V, .slice A E.length c], .int .u32 (uz head), .slice A' P.length c'] w fun e w' => ∃ ok : Bool, e = .returned (.bool ok) ∧ Hid (CPIs V E (head &&& covB E) P ok) ∧ Below w.heap.size w w' := by
  obtain ⟨h, hh⟩ : ∃ h, head &&& covB E = h := ⟨_, rfl⟩
  rw [hh]
  have HH := Lib.hid hh
  clear hh
  go_enter Try.func80, Try.ntmps80
  go_wp2_with fail
  have hb0 := below_alloc w (.cells #[.int .i64 V, .slice A E.length c] 24)
  have hG0 : Row (w.alloc (.cells #[.int .i64 V, .slice A E.length c] 24)) w.heap.size 24 [.int .i64 V, .slice A E.length c] := Row.new _ _ _
  generalize w.alloc _ = w0 at hb0 hG0 ⊢
  refine (r14valid_any V A E c _ hl (hE.later hb0)).mono ?_
  rintro e w1 ⟨rfl, hb1⟩
  have hB1 := bthen hb0 hb1
  have hG1 := hG0.later hb1
  have hE1 := hE.later hB1
  have hP1 := hP.later hB1
  clear hb0 hb1 hG0 hE hP
  cases hv : validB V E
  · have HC : Hid (CPIs V E h P false) := Lib.hid (cpi_no fun z => by have := z.valid; rw [hv] at this; cases this)
    clear hv
    go_wp2_with fail
    refine bodyPost_ret (v := .bool false) (by simp [results, Try.results80, go_sem]) rfl ?_
    exact ⟨false, rfl, HC, hB1⟩
  · by_cases h3 : P.length < 3
    · have e0 : decide ((P.length : Int) < 3) = true := decide_eq_true (by omega)
      have HC : Hid (CPIs V E h P false) := Lib.hid (cpi_no fun z => by have := z.three; omega)
      clear h3 hv
      go_wp2_with fail
      refine bodyPost_ret (v := .bool false) (by simp [results, Try.results80, go_sem]) rfl ?_
      exact ⟨false, rfl, HC, hB1⟩
    · by_cases h30 : P.length ≤ 30
      · have e0 : decide ((P.length : Int) < 3) = false := decide_eq_false (by omega)
        have e1 : decide ((30 : Int) < (P.length : Int)) = false := decide_eq_false (by omega)
        obtain ⟨v0, v30, _, _⟩ := validB_of hv
        have HV := Lib.hid hv
        have HF : Hid (¬ FreeIs V E h P → CPIs V E h P false) := Lib.hid cpi_no
        have HT : Hid ((∀ i, i < P.length → stepOk V E h P i) → CPIs V E h P true) := Lib.hid fun z => cpi_yes ⟨HV.out, by omega, h30, z⟩
        have d0 : w1.cell? ⟨w.heap.size, 0, none⟩ = some (.int .i64 V) := hG1.cell 0
        have d1 : w1.cell? ⟨w.heap.size, 1, none⟩ = some (.slice A E.length c) := hG1.cell 1
        clear h3 hv
        go_wp2_with fail
        refine (r17covered_any V A E c w1 hl hE1).mono ?_
        rintro e w2 ⟨rfl, hb2⟩
        have hB2 := bthen hB1 hb2
        have hG2 := hG1.later hb2
        have hE2 := hE1.later hb2
        have hP2 := hP1.later hb2
        have HK : Hid (∀ x, Below w2.heap.size w2 x → x.cell? ⟨w.heap.size, 0, none⟩ = some (.int .i64 V) ∧ x.cell? ⟨w.heap.size, 1, none⟩ = some (.slice A E.length c)) := Lib.hid fun x hx => ⟨(hG2.later hx).cell 0, (hG2.later hx).cell 1⟩
        have HNB : Hid (∀ (v u : Int) x, Below w2.heap.size w2 x → Calls Try.prog 108 #[.agg #[.int .i64 V, .slice A E.length c], .int .i64 v, .int .i64 u] x fun e w' => e = .returned (.bool (nearB E v u)) ∧ Below w2.heap.size w2 w') := Lib.hid fun v u x hx =>
          (r14near_any V v u A E c x hl (hE2.later hx)).mono fun e w' ⟨he, hb⟩ => ⟨he, bthen hx hb⟩
        have HBO := Lib.hid (both_any head (covB E))
        rw [HH.out] at HBO
        clear d0 d1 hG1 hE1 hP1 hb2 hB1 hE2 hG2 HH
        go_wp2_with fail
        refine (HBO.out _).mono ?_
        rintro e w' ⟨rfl, rfl⟩
        clear HBO
        go_wp2_with fail
        go_loopw [8] (fun i wr => ∃ k : Nat, k ≤ P.length ∧ i = .int .i64 k ∧ Hid (∀ i, i < k → stepOk V E h P i) ∧ Below w2.heap.size w2 wr) (fun i _ => P.length - (intOf i).toNat)
        case atStart => exact ⟨0, Nat.zero_le _, rfl, Lib.hid fun i hi => absurd hi (Nat.not_lt_zero _), Below.refl _ _⟩
        case round =>
          obtain ⟨k, hk, rfl, hno, hb⟩ := hrel
          obtain ⟨d0, d1⟩ := HK.out _ hb
          by_cases hlt : k < P.length
          · obtain ⟨ad, hA, _, hc⟩ := (hP2.later hb).p_at hlt
            subst hA
            have b1 : (0 : Int) ≤ k := by omega
            have b2 : (k : Int) < P.length := by omega
            have HST : Hid (FreeIs V E h P → stepOk V E h P k) := Lib.hid fun z => z.step k hlt
            have HNX : Hid (stepOk V E h P k → ∀ i, i < k + 1 → stepOk V E h P i) := Lib.hid fun z i hi => by
              rcases Nat.lt_or_ge i k with d | d
              · exact hno.out i d
              · obtain rfl : i = k := by omega
                exact z
            clear hno
            by_cases q0 : 0 ≤ pz P k
            · by_cases q1 : pz P k < V
              · obtain ⟨v, hvk⟩ : ∃ v : Nat, pz P k = v := ⟨(pz P k).toNat, by omega⟩
                have HVK := Lib.hid hvk
                have g0 : (0 : Int) ≤ v := by omega
                have g1 : (v : Int) < V := by omega
                rw [hvk] at hc
                have HV2 : Hid (0 ≤ pz P k ∧ pz P k < V) := Lib.hid ⟨q0, q1⟩
                obtain ⟨fb, hfb⟩ : ∃ fb, inB h (v : Int) = fb := ⟨_, rfl⟩
                obtain ⟨pb, hpb⟩ : ∃ pb, ((k : Int) == 0) = pb := ⟨_, rfl⟩
                obtain ⟨lb, hlb⟩ : ∃ lb, ((k : Int) == (P.length : Int) - 1) = lb := ⟨_, rfl⟩
                have HPOS : Hid (inB h (pz P k) = (decide (k = 0) || decide (k + 1 = P.length)) ↔ fb = (pb || lb)) := Lib.hid (by
                  have e1 : decide (k + 1 = P.length) = ((k : Int) == (P.length : Int) - 1) := by rw [Bool.eq_iff_iff, decide_eq_true_eq, beq_iff_eq]; omega
                  have e2 : decide (k = 0) = ((k : Int) == 0) := by rw [Bool.eq_iff_iff, decide_eq_true_eq, beq_iff_eq]; omega
                  rw [e1, e2, hpb, hlb, hvk, hfb])
                clear hvk q0 q1
                have HC : Hid (fb ≠ (pb || lb) → CPIs V E h P false) := Lib.hid fun hne => HF.out fun z => hne (HPOS.out.1 (HST.out z).2.2.1)
                go_upto_region 7 with fail
                go_cut [64] (fun t wx => t = .bool (fb != (pb || lb)) ∧ Below w2.heap.size w2 wx)
                case first =>
                  clear HPOS HC HST HNX HT HF HK HNB
                  cases pb
                  · go_wp2_with fail
                    go_quiet (first | (go_at_call 58; exact pure_quiet (in_any h _)))
                    go_wp2_with fail
                    go_meet
                    exact ⟨by
                      rw [decide_eq_false (show ¬ (v : Int) < 0 by omega), decide_eq_false (show ¬ V ≤ (v : Int) by omega), show IntKind.i64.wrap ((P.length : Int) - 1) = (P.length : Int) - 1 from IntWalk.i64_in _ (by omega), hlb]
                      cases fb <;> cases lb <;> rfl, below_drewN hb _⟩
                  · go_wp2_with fail
                    go_quiet (first | (go_at_call 58; exact pure_quiet (in_any h _)))
                    go_wp2_with fail
                    go_meet
                    exact ⟨by
                      rw [decide_eq_false (show ¬ (v : Int) < 0 by omega), decide_eq_false (show ¬ V ≤ (v : Int) by omega)]
                      cases fb <;> rfl, below_drewN hb _⟩
                case rest =>
                  obtain ⟨rfl, hbc⟩ := hcut
                  clear hb hc d0 d1 hfb hpb hlb
                  cases hne : (fb != (pb || lb))
                  · have HPK := Lib.hid (HPOS.out.2 (by simpa using hne))
                    clear HC HPOS hne
                    go_wp2_with fail
                    go_loopg [9] k (fun gk j wr => ∃ m : Nat, m ≤ k ∧ gk = k - m ∧ j = .int .i64 m ∧ Hid (∀ j, j < m → pz P j ≠ pz P k ∧ nearB E (pz P j) (pz P k) = decide (j + 1 = k)) ∧ Below w2.heap.size w2 wr)
                    case atStart => exact ⟨0, Nat.zero_le _, rfl, rfl, Lib.hid fun j hj => absurd hj (Nat.not_lt_zero _), hbc⟩
                    clear hbc
                    case round =>
                      obtain ⟨m, hm, rfl, rfl, hin, hb⟩ := hrel
                      obtain ⟨d0, d1⟩ := HK.out _ hb
                      by_cases hmk : m < k
                      · have HU : Hid (∀ x, Below w2.heap.size w2 x → x.cell? (ad.add k) = some (.int .i64 v) ∧ x.cell? (ad.add m) = some (.int .i64 (pz P m))) := Lib.hid fun x hx => by
                          obtain ⟨ad2, hA2, _, hc2⟩ := (hP2.later hx).p_at hlt
                          obtain rfl : ad = ad2 := by injection hA2
                          obtain ⟨ad3, hA3, _, hc3⟩ := (hP2.later hx).p_at (show m < P.length by omega)
                          obtain rfl : ad = ad3 := by injection hA3
                          exact ⟨by rw [hc2, HVK.out], hc3⟩
                        obtain ⟨hc, hc2⟩ := HU.out _ hb
                        have m0 : (m : Int) < k := by omega
                        have m1 : (0 : Int) ≤ m := by omega
                        have m2 : (m : Int) < P.length := by omega
                        obtain ⟨lm, hlm⟩ : ∃ lm, ((m : Int) == (k : Int) - 1) = lm := ⟨_, rfl⟩
                        have HLM : Hid (decide (m + 1 = k) = lm) := Lib.hid (by rw [← hlm, Bool.eq_iff_iff, decide_eq_true_eq, beq_iff_eq]; omega)
                        have HN : Hid (pz P m ≠ v → nearB E (pz P m) v = lm → ∀ j, j < m + 1 → pz P j ≠ pz P k ∧ nearB E (pz P j) (pz P k) = decide (j + 1 = k)) := Lib.hid fun e1 e2 j hj => by
                          rcases Nat.lt_or_ge j m with d | d
                          · exact hin.out j d
                          · obtain rfl : j = m := by omega
                            rw [HVK.out, HLM.out]
                            exact ⟨e1, e2⟩
                        have HN1 : Hid (pz P m = v → CPIs V E h P false) := Lib.hid fun e => HF.out fun z => ((HST.out z).2.2.2 m hmk).1 (by rw [e, HVK.out])
                        have HN2 : Hid (nearB E (pz P m) v ≠ lm → CPIs V E h P false) := Lib.hid fun e => HF.out fun z => e (by
                          have := ((HST.out z).2.2.2 m hmk).2
                          rwa [HVK.out, HLM.out] at this)
                        have HNB2 := Lib.hid (fun x hx => HNB.out (pz P m) v x hx)
                        clear hin
                        generalize nearB E (pz P m) v = nb at HN HN2 HNB2
                        generalize pz P m = u at hc2 HU HN HN1 HNB2
                        go_upto_region 12 with fail
                        go_cut [95] (fun t wx => ∃ tb : Bool, t = .bool tb ∧ Hid (tb = (((v : Int) == u) || (nb != lm))) ∧ Below w2.heap.size w2 wx)
                        case first =>
                          cases hvu : ((v : Int) == u)
                          · go_region_held3 (fun x : World => Below w2.heap.size w2 x ∧ (x.cell? ⟨w.heap.size, 0, none⟩ = some (.int .i64 V) ∧ x.cell? ⟨w.heap.size, 1, none⟩ = some (.slice A E.length c)) ∧ x.cell? (ad.add k) = some (.int .i64 v) ∧ x.cell? (ad.add m) = some (.int .i64 u))
                              (first | exact ⟨hb, HK.out _ hb, HU.out _ hb⟩ | exact ⟨by assumption, HK.out _ (by assumption), HU.out _ (by assumption)⟩ | exact ⟨below_drewN (by assumption) 1, HK.out _ (below_drewN (by assumption) 1), HU.out _ (below_drewN (by assumption) 1)⟩)
                              (first | (go_at_call 108; refine (HNB2.out _ (by first | assumption | exact below_drewN (by assumption) 1)).mono ?_; rintro e w4 ⟨rfl, hb4⟩))
                            all_goals
                              go_wp2_with fail
                              go_meet
                              exact ⟨_, rfl, Lib.hid (by
                                rw [show IntKind.i64.wrap ((k : Int) - 1) = (k : Int) - 1 from IntWalk.i64_in _ (by omega), hlm, hvu]
                                cases nb <;> cases lm <;> rfl), by assumption⟩
                          · go_wp2_with fail
                            go_quiet (fail)
                            go_wp2_with fail
                            go_meet
                            exact ⟨_, rfl, Lib.hid (by rw [hvu]; rfl), below_drewN hb _⟩
                        case rest =>
                          obtain ⟨tb, rfl, HTB, hbd⟩ := hcut
                          clear hb hc hc2 d0 d1 hlm
                          cases tb
                          · have HX := Lib.hid (HN.out (fun e => by
                              have := HTB.out
                              rw [e] at this; simp at this) (by
                              have := HTB.out
                              cases h1 : ((v : Int) == u) <;> cases nb <;> cases lm <;> rw [h1] at this <;> first | rfl | cases this))
                            clear HN HN1 HN2 HTB
                            go_wp2_with fail
                            go_roundg (k - (m + 1))
                            case measure => omega
                            case rel => exact ⟨m + 1, by omega, rfl, by go_num, HX, hbd⟩
                          · have HC : Hid (CPIs V E h P false) := Lib.hid (by
                              have := HTB.out
                              cases h1 : ((v : Int) == u)
                              · rw [h1] at this
                                exact HN2.out fun e => by rw [e] at this; simp at this
                              · exact HN1.out (by rw [beq_iff_eq] at h1; exact h1.symm))
                            clear HN HN1 HN2 HTB
                            go_wp2_with fail
                            refine bodyPost_ret (v := .bool false) (by simp [results, Try.results80, go_sem]) rfl ?_
                            exact ⟨false, rfl, HC, hB2.trans (hbd.mono hB2.size)⟩
                      · obtain rfl : m = k := by omega
                        have HX := Lib.hid (HNX.out ⟨HV2.out.1, HV2.out.2, HPK.out, fun j hj => hin.out j hj⟩)
                        go_wp2_with fail
                        go_roundw
                        case measure => simp [intOf]; omega
                        case rel => exact ⟨m + 1, by omega, by go_num, HX, hb⟩
                  · have HCC := Lib.hid (HC.out (by simpa using hne))
                    clear HC HPOS HST HNX hne
                    go_wp2_with fail
                    refine bodyPost_ret (v := .bool false) (by simp [results, Try.results80, go_sem]) rfl ?_
                    exact ⟨false, rfl, HCC, hB2.trans (hbc.mono hB2.size)⟩
              · have HC := Lib.hid (HF.out fun z => q1 (HST.out z).2.1)
                have g0 : decide (pz P k < 0) = false := decide_eq_false (by omega)
                have g1 : decide (V ≤ pz P k) = true := decide_eq_true (by omega)
                clear HST HNX q0 q1
                generalize pz P k = v at hc g0 g1
                go_wp2_with fail
                go_quiet (fail)
                go_wp2_with fail
                refine bodyPost_ret (v := .bool false) (by simp [results, Try.results80, go_sem]) rfl ?_
                exact ⟨false, rfl, HC, hB2.trans ((below_drewN hb _).mono hB2.size)⟩
            · have HC := Lib.hid (HF.out fun z => q0 (HST.out z).1)
              have g0 : decide (pz P k < 0) = true := decide_eq_true (by omega)
              clear HST HNX q0
              generalize pz P k = v at hc g0
              go_wp2_with fail
              go_quiet (fail)
              go_wp2_with fail
              refine bodyPost_ret (v := .bool false) (by simp [results, Try.results80, go_sem]) rfl ?_
              exact ⟨false, rfl, HC, hB2.trans ((below_drewN hb _).mono hB2.size)⟩
          · obtain rfl : k = P.length := by omega
            have HC := Lib.hid (HT.out hno.out)
            go_wp2_with fail
            refine bodyPost_ret (v := .bool true) (by simp [results, Try.results80, go_sem]) rfl ?_
            exact ⟨true, rfl, HC, hB2.trans (hb.mono hB2.size)⟩
      · have e0 : decide ((P.length : Int) < 3) = false := decide_eq_false (by omega)
        have e1 : decide ((30 : Int) < (P.length : Int)) = true := decide_eq_true (by omega)
        have HC : Hid (CPIs V E h P false) := Lib.hid (cpi_no fun z => h30 z.few)
        clear h3 h30 hv
        go_wp2_with fail
        refine bodyPost_ret (v := .bool false) (by simp [results, Try.results80, go_sem]) rfl ?_
        exact ⟨false, rfl, HC, hB1⟩
end Go.Proofs.Ytkenbmelhfhidaa
