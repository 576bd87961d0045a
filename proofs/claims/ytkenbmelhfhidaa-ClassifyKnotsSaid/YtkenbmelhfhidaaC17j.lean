/- The contract of osierref17.CheckRest. -/
import Derived.Test.YtkenbmelhfhidaaC17i
import Derived.Deep.RegionHeld3
namespace Go.Proofs.Ytkenbmelhfhidaa
open Go.RowKit
attribute [local go_sem ↓] uz_and uz_or uz_andNot uz_and_one uz_shr uz_shl_one uz_shl uz_sub uz_sub_one uz_add uz_beq_zero uz_bne_zero uz_beq uz_bne uz_beq_one

def antiTo (R : List (BitVec 32)) (k : Nat) : Prop := ∀ i, i < k → ed R i ≠ 0#32 ∧ ∀ j, j < R.length → i ≠ j → subB (ed R i) (ed R j) = false
theorem take_any_succ {E : List (BitVec 32)} {q : Nat} (hq : q < E.length) (p : BitVec 32 → Bool) : (E.take (q + 1)).any p = ((E.take q).any p || p (ed E q)) := by
  rw [List.take_succ_eq_append_getElem hq, ed_eq E q hq]; simp

set_option maxHeartbeats 40000000 in
set_option maxRecDepth 100000 in
theorem r17checkRest_any (V : Int) (A : Option Addr) (E : List (BitVec 32)) (c : Nat) (A' : Option Addr) (R : List (BitVec 32)) (c' : Nat) (w : World) (hl : E.length ≤ 35184372087808) (hE : Rd w w.heap.size A (us E)) (hl' : R.length ≤ 35184372087808) (hR : Rd w w.heap.size A' (us R)) :
    Calls Try.prog 78 #[.agg #[.int .i64 V, .slice A E.length c], .slice A' R.length c'] w fun e w' => ∃ ok : Bool, e = .returned (.bool ok) ∧ Hid (CRIs V E R ok) ∧ Below w.heap.size w w' := by
  go_enter Try.func78, Try.ntmps78
  go_wp2_with fail
  have hb0 := below_alloc w (.cells #[.int .i64 V, .slice A E.length c] 24)
  have hG0 : Row (w.alloc (.cells #[.int .i64 V, .slice A E.length c] 24)) w.heap.size 24 [.int .i64 V, .slice A E.length c] := Row.new _ _ _
  generalize w.alloc _ = w0 at hb0 hG0 ⊢
  refine (r14valid_any V A E c _ hl (hE.later hb0)).mono ?_
  rintro e w1 ⟨rfl, hb1⟩
  have hB1 := bthen hb0 hb1
  have hG1 := hG0.later hb1
  have hE1 := hE.later hB1
  have hR1 := hR.later hB1
  clear hb0 hb1 hG0 hE hR
  cases hv : validB V E
  · have HC : Hid (CRIs V E R false) := Lib.hid (cri_no fun h => by rw [hv] at h; cases h.1)
    clear hv
    go_wp2_with fail
    refine bodyPost_ret (v := .bool false) (by simp [results, Try.results78, go_sem]) rfl ?_
    exact ⟨false, rfl, HC, hB1⟩
  · by_cases h0 : R.length = 0
    · have e0 : ((R.length : Int) == 0) = true := by simp [h0]
      have HC : Hid (CRIs V E R false) := Lib.hid (cri_no fun h => by have := h.2.some; omega)
      clear h0 hv
      go_wp2_with fail
      refine bodyPost_ret (v := .bool false) (by simp [results, Try.results78, go_sem]) rfl ?_
      exact ⟨false, rfl, HC, hB1⟩
    · have e0 : ((R.length : Int) == 0) = false := by rw [beq_eq_false_iff_ne]; omega
      have HV := Lib.hid hv
      have HF : Hid (¬ KnotP E R → CRIs V E R false) := Lib.hid fun h => cri_no fun z => h z.2
      have HT : Hid (KnotP E R → CRIs V E R true) := Lib.hid fun h => cri_yes ⟨HV.out, h⟩
      have HP : Hid (0 < R.length) := Lib.hid (by omega)
      have HG : Hid (∀ x, Below w1.heap.size w1 x → x.cell? ⟨w.heap.size, 1, none⟩ = some (.slice A E.length c)) := Lib.hid fun x hx => (hG1.later hx).cell 1
      have HEr : Hid (∀ x, Below w1.heap.size w1 x → Rd x w1.heap.size A (us E)) := Lib.hid fun x hx => hE1.below hx
      have HRr : Hid (∀ x, Below w1.heap.size w1 x → Rd x w1.heap.size A' (us R)) := Lib.hid fun x hx => hR1.below hx
      clear h0 hv hG1 hE1 hR1
      go_wp2_with fail
      go_loopw [5, 6] (fun s i wr => ∃ k : Nat, k ≤ R.length ∧ i = .int .i64 k ∧ s = .int .u32 (uz (orTo R k)) ∧ Hid (antiTo R k) ∧ Below w1.heap.size w1 wr) (fun _ i _ => R.length - (intOf i).toNat)
      case atStart => exact ⟨0, Nat.zero_le _, rfl, rfl, Lib.hid fun i hi => absurd hi (Nat.not_lt_zero _), Below.refl _ _⟩
      case round =>
        obtain ⟨k, hk, rfl, rfl, hno, hb⟩ := hrel
        by_cases hlt : k < R.length
        · obtain ⟨ad, hA, _, hc⟩ := (HRr.out _ hb).e_at hlt
          subst hA
          have b1 : (0 : Int) ≤ k := by omega
          have b2 : (k : Int) < R.length := by omega
          cases hz : (ed R k == 0#32)
          · have HNE : Hid (ed R k ≠ 0#32) := Lib.hid (by simpa using hz)
            have HSN : Hid (∀ m, m < R.length → k ≠ m → subB (ed R k) (ed R m) = true → ¬ KnotP E R) := Lib.hid fun m hm hne h hK => by
              rw [hK.anti k m hlt hm hne] at h; cases h
            have HNX : Hid ((∀ j, j < R.length → k ≠ j → subB (ed R k) (ed R j) = false) → antiTo R (k + 1)) := Lib.hid fun h i hi => by
              rcases Nat.lt_or_ge i k with d | d
              · exact hno.out i d
              · obtain rfl : i = k := by omega
                exact ⟨HNE.out, h⟩
            have HO : Hid (orTo R (k + 1) = orTo R k ||| ed R k) := Lib.hid rfl
            generalize hzk : ed R k = z at hc hz HO HSN HNX HNE
            generalize orTo R k = s at HO ⊢
            clear hno HNE
            have HZK := Lib.hid hzk
            clear hzk
            go_wp2_with fail
            go_loopg [7] R.length (fun gk j wr => ∃ m : Nat, m ≤ R.length ∧ gk = R.length - m ∧ j = .int .i64 m ∧ Hid (∀ j, j < m → k ≠ j → subB z (ed R j) = false) ∧ Below w1.heap.size w1 wr)
            case atStart => exact ⟨0, Nat.zero_le _, rfl, rfl, Lib.hid fun j hj => absurd hj (Nat.not_lt_zero _), hb⟩
            clear hb hc
            case round =>
              obtain ⟨m, hm, rfl, rfl, hin, hb⟩ := hrel
              by_cases hltm : m < R.length
              · obtain ⟨ad2, hA2, _, hc2⟩ := (HRr.out _ hb).e_at hltm
                obtain rfl : ad = ad2 := by injection hA2
                obtain ⟨ad3, hA3, _, hc⟩ := (HRr.out _ hb).e_at hlt
                obtain rfl : ad = ad3 := by injection hA3
                rw [HZK.out] at hc
                have b3 : (0 : Int) ≤ m := by omega
                have b4 : (m : Int) < R.length := by omega
                by_cases hkm : k = m
                · have hne : ((k : Int) != (m : Int)) = false := by simp [hkm]
                  have HN : Hid (∀ j, j < m + 1 → k ≠ j → subB z (ed R j) = false) := Lib.hid fun j hj hkj => hin.out j (by omega) hkj
                  clear hkm hin hc2
                  go_wp2_with fail
                  go_quiet (fail)
                  go_wp2_with fail
                  go_roundg (R.length - (m + 1))
                  case measure => omega
                  case rel => exact ⟨m + 1, by omega, rfl, by go_num, HN, below_drewN hb _⟩
                · have hne : ((k : Int) != (m : Int)) = true := by rw [bne_iff_ne]; omega
                  have HN : Hid (subB z (ed R m) = false → ∀ j, j < m + 1 → k ≠ j → subB z (ed R j) = false) := Lib.hid fun h j hj hkj => by
                    rcases Nat.lt_or_ge j m with d | d
                    · exact hin.out j d hkj
                    · obtain rfl : j = m := by omega
                      exact h
                  have HS := Lib.hid (HSN.out m hltm hkm)
                  generalize ed R m = y at hc2 HN HS
                  clear hkm hin
                  cases hs : subB z y
                  · have HX := Lib.hid (HN.out hs)
                    clear HN HS
                    go_wp2_with fail
                    go_quiet (first | (go_at_call 57; exact pure_quiet (within_any z y)))
                    go_wp2_with fail
                    go_roundg (R.length - (m + 1))
                    case measure => omega
                    case rel => exact ⟨m + 1, by omega, rfl, by go_num, HX, below_drewN hb _⟩
                  · have HC := Lib.hid (HF.out (HS.out hs))
                    clear HN HS
                    go_wp2_with fail
                    go_quiet (first | (go_at_call 57; exact pure_quiet (within_any z y)))
                    go_wp2_with fail
                    refine bodyPost_ret (v := .bool false) (by simp [results, Try.results78, go_sem]) rfl ?_
                    exact ⟨false, rfl, HC, hB1.trans ((below_drewN hb _).mono hB1.size)⟩
              · obtain rfl : m = R.length := by omega
                obtain ⟨ad3, hA3, _, hc⟩ := (HRr.out _ hb).e_at hlt
                obtain rfl : ad = ad3 := by injection hA3
                rw [HZK.out] at hc
                have HX := Lib.hid (HNX.out fun j hj hkj => hin.out j hj hkj)
                have HAD := Lib.hid (add_less s z)
                clear hin HSN HNX
                go_wp2_with (go_at_call 74; refine (r14less_any _ _ _).mono ?_; rintro e w' ⟨rfl, rfl⟩)
                go_roundw
                case measure => simp [intOf]; omega
                case rel => exact ⟨k + 1, by omega, by go_num, by rw [HO.out, ← HAD.out], HX, hb⟩
          · have HC := Lib.hid (HF.out fun hK => hK.nz k hlt (by simpa using hz))
            generalize ed R k = z at hc hz
            clear hno
            go_wp2_with fail
            refine bodyPost_ret (v := .bool false) (by simp [results, Try.results78, go_sem]) rfl ?_
            exact ⟨false, rfl, HC, hB1.trans (hb.mono hB1.size)⟩
        · obtain rfl : k = R.length := by omega
          have HFA := Lib.hid (fun i hi => (hno.out i hi).1)
          have HFB := Lib.hid (fun i j hi hj hij => (hno.out i hi).2 j hj hij)
          have HFIN : Hid ((∀ v, v < 32 → mt R R.length v ≠ 1) → (∀ i, i < R.length → E.any (onTo (orTo R R.length) (ed R i)) = true) → (∀ j, j < E.length → R.any (inTo (orTo R R.length) (ed E j)) = true) → KnotP E R) := Lib.hid fun h1 h2 h3 =>
            ⟨HP.out, HFA.out, HFB.out, h1, fun i hi => by
              obtain ⟨j, hj, e⟩ := (any_ed _).1 (h2 i hi)
              exact ⟨j, hj, by unfold onTo at e; simpa using e⟩, fun j hj => by
              obtain ⟨i, hi, e⟩ := (any_ed _).1 (h3 j hj)
              exact ⟨i, hi, by unfold inTo at e; unfold subB; exact e⟩⟩
          have HMN : Hid (∀ v, v < 32 → mt R R.length v = 1 → ¬ KnotP E R) := Lib.hid fun v hv h hK => hK.twice v hv h
          have HEN : Hid (∀ i, i < R.length → E.any (onTo (orTo R R.length) (ed R i)) = false → ¬ KnotP E R) := Lib.hid fun i hi h hK => by
            obtain ⟨j, hj, e⟩ := hK.edge i hi
            rw [(any_ed _).2 ⟨j, hj, by unfold onTo; rw [e]; simp⟩] at h
            cases h
          have HPN : Hid (∀ j, j < E.length → R.any (inTo (orTo R R.length) (ed E j)) = false → ¬ KnotP E R) := Lib.hid fun j hj h hK => by
            obtain ⟨i, hi, e⟩ := hK.part j hj
            rw [(any_ed _).2 ⟨i, hi, by unfold inTo; unfold subB at e; exact e⟩] at h
            cases h
          generalize orTo R R.length = x at HFIN HEN HPN ⊢
          clear hno HFA HFB
          go_wp2_with fail
          go_loopw [8] (fun i wr => ∃ v : Nat, v ≤ 32 ∧ i = .int .i64 v ∧ Hid (∀ u, u < v → mt R R.length u ≠ 1) ∧ Below w1.heap.size w1 wr) (fun i _ => 32 - (intOf i).toNat)
          case atStart => exact ⟨0, Nat.zero_le _, rfl, Lib.hid fun i hi => absurd hi (Nat.not_lt_zero _), hb⟩
          clear hb
          case round =>
            obtain ⟨v, hv32, rfl, hno, hb⟩ := hrel
            by_cases hlv : v < 32
            · have b0 : (v : Int) < 32 := by omega
              go_wp2_with fail
              go_loopw [9, 10] (fun n i wr => ∃ q : Nat, q ≤ R.length ∧ i = .int .i64 q ∧ n = .int .i64 (mt R q v : Nat) ∧ Below w1.heap.size w1 wr) (fun _ i _ => R.length - (intOf i).toNat)
              case atStart => exact ⟨0, Nat.zero_le _, rfl, rfl, hb⟩
              clear hb
              case round =>
                obtain ⟨q, hq, rfl, rfl, hb⟩ := hrel
                by_cases hlq : q < R.length
                · obtain ⟨ad, hA, _, hc⟩ := (HRr.out _ hb).e_at hlq
                  subst hA
                  have hcl : mt R q v ≤ q := cntB_le _ _
                  have HM : Hid (mt R (q + 1) v = mt R q v + if (ed R q).getLsbD v then 1 else 0) := Lib.hid rfl
                  have i1 := inB_nat (ed R q) v
                  generalize (ed R q).getLsbD v = pv at HM i1
                  generalize ed R q = z at hc i1
                  generalize mt R q v = n at hcl HM ⊢
                  have b3 : (0 : Int) ≤ q := by omega
                  have b4 : (q : Int) < R.length := by omega
                  cases pv
                  · have HN : Hid (mt R (q + 1) v = n) := Lib.hid HM.out
                    clear HM
                    go_wp2_with fail
                    refine (in_any _ _ _).mono ?_
                    rintro e w' ⟨rfl, rfl⟩
                    go_wp2_with fail
                    go_roundw
                    case rel =>
                      exact ⟨q + 1, by omega, by go_num, by rw [HN.out], hb⟩
                    case measure => simp [intOf]; omega
                  · have HN : Hid (mt R (q + 1) v = n + 1) := Lib.hid HM.out
                    clear HM
                    go_wp2_with fail
                    refine (in_any _ _ _).mono ?_
                    rintro e w' ⟨rfl, rfl⟩
                    go_wp2_with fail
                    go_roundw
                    case rel =>
                      exact ⟨q + 1, by omega, by go_num, by rw [HN.out]; go_num, hb⟩
                    case measure => simp [intOf]; omega
                · obtain rfl : q = R.length := by omega
                  have HN := Lib.hid (HMN.out v hlv)
                  have HY : Hid (mt R R.length v ≠ 1 → ∀ u, u < v + 1 → mt R R.length u ≠ 1) := Lib.hid fun h u hu => by
                    rcases Nat.lt_or_ge u v with d | d
                    · exact hno.out u d
                    · obtain rfl : u = v := by omega
                      exact h
                  generalize mt R R.length v = n at HN HY ⊢
                  clear hno
                  by_cases h1 : n = 1
                  · have HC := Lib.hid (HF.out (HN.out h1))
                    subst h1
                    clear HN HY
                    go_wp2_with fail
                    refine bodyPost_ret (v := .bool false) (by simp [results, Try.results78, go_sem]) rfl ?_
                    exact ⟨false, rfl, HC, hB1.trans (hb.mono hB1.size)⟩
                  · have HX := Lib.hid (HY.out h1)
                    have e1 : ((n : Int) == 1) = false := by rw [beq_eq_false_iff_ne]; omega
                    clear HN HY h1
                    go_wp2_with fail
                    go_roundw
                    case rel => exact ⟨v + 1, by omega, by go_num, HX, hb⟩
                    case measure => simp [intOf]; omega
            · obtain rfl : v = 32 := by omega
              have HFE := Lib.hid (HFIN.out hno.out)
              clear hno HFIN HMN hlv
              go_wp2_with fail
              go_loopw [11] (fun i wr => ∃ k : Nat, k ≤ R.length ∧ i = .int .i64 k ∧ Hid (∀ i, i < k → E.any (onTo x (ed R i)) = true) ∧ Below w1.heap.size w1 wr) (fun i _ => R.length - (intOf i).toNat)
              case atStart => exact ⟨0, Nat.zero_le _, rfl, Lib.hid fun i hi => absurd hi (Nat.not_lt_zero _), hb⟩
              clear hb
              case round =>
                obtain ⟨k, hk, rfl, hno, hb⟩ := hrel
                by_cases hlt : k < R.length
                · have HN := Lib.hid (HEN.out k hlt)
                  have HY : Hid (E.any (onTo x (ed R k)) = true → ∀ i, i < k + 1 → E.any (onTo x (ed R i)) = true) := Lib.hid fun h i hi => by
                    rcases Nat.lt_or_ge i k with d | d
                    · exact hno.out i d
                    · obtain rfl : i = k := by omega
                      exact h
                  have b1 : (0 : Int) ≤ k := by omega
                  have b2 : (k : Int) < R.length := by omega
                  clear hno
                  go_wp2_with fail
                  go_loopw [12, 13] (fun s i wr => ∃ q : Nat, q ≤ E.length ∧ i = .int .i64 q ∧ s = .bool ((E.take q).any (onTo x (ed R k))) ∧ Below w1.heap.size w1 wr) (fun _ i _ => E.length - (intOf i).toNat)
                  case atStart => exact ⟨0, Nat.zero_le _, rfl, by simp, hb⟩
                  clear hb
                  case round =>
                    obtain ⟨q, hq, rfl, rfl, hb⟩ := hrel
                    have d1 := HG.out _ hb
                    by_cases hlq : q < E.length
                    · obtain ⟨ad, hA, _, hc⟩ := (HEr.out _ hb).e_at hlq
                      obtain ⟨ad2, hA2, _, hc2⟩ := (HRr.out _ hb).e_at hlt
                      subst hA hA2
                      have HS : Hid ((E.take (q + 1)).any (onTo x (ed R k)) = ((E.take q).any (onTo x (ed R k)) || (ed E q &&& x == ed R k))) := Lib.hid (take_any_succ hlq _)
                      have b3 : (0 : Int) ≤ q := by omega
                      have b4 : (q : Int) < E.length := by omega
                      generalize (E.take q).any (onTo x (ed R k)) = st at HS ⊢
                      generalize ed E q = y at hc HS
                      generalize ed R k = z at hc2 HS ⊢
                      clear HN HY
                      cases st
                      · have HX : Hid ((E.take (q + 1)).any (onTo x z) = (y &&& x == z)) := Lib.hid (by rw [HS.out]; rfl)
                        clear HS
                        go_wp2_with fail
                        go_quiet (first | (go_at_call 41; exact pure_quiet (both_any y x)))
                        go_wp2_with fail
                        go_roundw
                        case rel => exact ⟨q + 1, by omega, by go_num, by rw [HX.out], below_drewN hb _⟩
                        case measure => simp [intOf]; omega
                      · have HX : Hid ((E.take (q + 1)).any (onTo x z) = true) := Lib.hid (by rw [HS.out]; rfl)
                        clear HS
                        go_wp2_with fail
                        go_quiet (fail)
                        go_wp2_with fail
                        go_roundw
                        case rel => exact ⟨q + 1, by omega, by go_num, by rw [HX.out], below_drewN hb _⟩
                        case measure => simp [intOf]; omega
                    · obtain rfl : q = E.length := by omega
                      rw [List.take_length]
                      generalize E.any (onTo x (ed R k)) = an at HN HY ⊢
                      cases an
                      · have HC := Lib.hid (HF.out (HN.out rfl))
                        clear HN HY
                        go_wp2_with fail
                        refine bodyPost_ret (v := .bool false) (by simp [results, Try.results78, go_sem]) rfl ?_
                        exact ⟨false, rfl, HC, hB1.trans (hb.mono hB1.size)⟩
                      · have HX := Lib.hid (HY.out rfl)
                        clear HN HY
                        go_wp2_with fail
                        go_roundw
                        case rel => exact ⟨k + 1, by omega, by go_num, HX, hb⟩
                        case measure => simp [intOf]; omega
                · obtain rfl : k = R.length := by omega
                  have HFP := Lib.hid (HFE.out hno.out)
                  clear hno HFE HEN
                  go_wp2_with fail
                  go_loopw [14] (fun i wr => ∃ k : Nat, k ≤ E.length ∧ i = .int .i64 k ∧ Hid (∀ i, i < k → R.any (inTo x (ed E i)) = true) ∧ Below w1.heap.size w1 wr) (fun i _ => E.length - (intOf i).toNat)
                  case atStart => exact ⟨0, Nat.zero_le _, rfl, Lib.hid fun i hi => absurd hi (Nat.not_lt_zero _), hb⟩
                  clear hb
                  case round =>
                    obtain ⟨k, hk, rfl, hno, hb⟩ := hrel
                    have d1 := HG.out _ hb
                    by_cases hlt : k < E.length
                    · have HN := Lib.hid (HPN.out k hlt)
                      have HY : Hid (R.any (inTo x (ed E k)) = true → ∀ i, i < k + 1 → R.any (inTo x (ed E i)) = true) := Lib.hid fun h i hi => by
                        rcases Nat.lt_or_ge i k with d | d
                        · exact hno.out i d
                        · obtain rfl : i = k := by omega
                          exact h
                      have b1 : (0 : Int) ≤ k := by omega
                      have b2 : (k : Int) < E.length := by omega
                      clear hno
                      go_wp2_with fail
                      clear d1
                      go_loopw [15, 16] (fun s i wr => ∃ q : Nat, q ≤ R.length ∧ i = .int .i64 q ∧ s = .bool ((R.take q).any (inTo x (ed E k))) ∧ Below w1.heap.size w1 wr) (fun _ i _ => R.length - (intOf i).toNat)
                      case atStart => exact ⟨0, Nat.zero_le _, rfl, by simp, hb⟩
                      clear hb
                      case round =>
                        obtain ⟨q, hq, rfl, rfl, hb⟩ := hrel
                        have d1 := HG.out _ hb
                        by_cases hlq : q < R.length
                        · obtain ⟨ad, hA, _, hc⟩ := (HEr.out _ hb).e_at hlt
                          obtain ⟨ad2, hA2, _, hc2⟩ := (HRr.out _ hb).e_at hlq
                          subst hA hA2
                          have HS : Hid ((R.take (q + 1)).any (inTo x (ed E k)) = ((R.take q).any (inTo x (ed E k)) || subB (ed E k &&& x) (ed R q))) := Lib.hid (take_any_succ hlq _)
                          have b3 : (0 : Int) ≤ q := by omega
                          have b4 : (q : Int) < R.length := by omega
                          generalize (R.take q).any (inTo x (ed E k)) = st at HS ⊢
                          generalize ed R q = z at hc2 HS
                          generalize ed E k = y at hc HS ⊢
                          clear HN HY
                          cases st
                          · have HX : Hid ((R.take (q + 1)).any (inTo x y) = subB (y &&& x) z) := Lib.hid (by rw [HS.out]; rfl)
                            clear HS
                            go_wp2_with fail
                            go_quiet (first | (go_at_call 41; exact pure_quiet (both_any y x)) | (go_at_call 57; exact pure_quiet (within_any (y &&& x) z)))
                            go_wp2_with fail
                            go_roundw
                            case rel => exact ⟨q + 1, by omega, by go_num, by rw [HX.out], below_drewN hb _⟩
                            case measure => simp [intOf]; omega
                          · have HX : Hid ((R.take (q + 1)).any (inTo x y) = true) := Lib.hid (by rw [HS.out]; rfl)
                            clear HS
                            go_wp2_with fail
                            go_quiet (fail)
                            go_wp2_with fail
                            go_roundw
                            case rel => exact ⟨q + 1, by omega, by go_num, by rw [HX.out], below_drewN hb _⟩
                            case measure => simp [intOf]; omega
                        · obtain rfl : q = R.length := by omega
                          rw [List.take_length]
                          generalize R.any (inTo x (ed E k)) = an at HN HY ⊢
                          cases an
                          · have HC := Lib.hid (HF.out (HN.out rfl))
                            clear HN HY
                            go_wp2_with fail
                            refine bodyPost_ret (v := .bool false) (by simp [results, Try.results78, go_sem]) rfl ?_
                            exact ⟨false, rfl, HC, hB1.trans (hb.mono hB1.size)⟩
                          · have HX := Lib.hid (HY.out rfl)
                            clear HN HY
                            go_wp2_with fail
                            go_roundw
                            case rel => exact ⟨k + 1, by omega, by go_num, HX, hb⟩
                            case measure => simp [intOf]; omega
                    · obtain rfl : k = E.length := by omega
                      have HC := Lib.hid (HT.out (HFP.out hno.out))
                      go_wp2_with fail
                      refine bodyPost_ret (v := .bool true) (by simp [results, Try.results78, go_sem]) rfl ?_
                      exact ⟨true, rfl, HC, hB1.trans (hb.mono hB1.size)⟩
end Go.Proofs.Ytkenbmelhfhidaa
