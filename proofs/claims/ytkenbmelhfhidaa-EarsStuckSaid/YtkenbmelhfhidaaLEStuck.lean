/- The walk of osierlaw15.EarsStuck. -/
import Derived.Test.YtkenbmelhfhidaaStuckLaw
import Derived.Test.YtkenbmelhfhidaaJtW1
import Derived.Deep.DeepCutAuto
namespace Go.Proofs.Ytkenbmelhfhidaa
open Go.RowKit

attribute [local go_sem ↓] uz_and uz_or uz_andNot uz_and_one uz_shr uz_shl_one uz_shl uz_sub uz_sub_one uz_add uz_beq_zero uz_bne_zero uz_beq uz_bne uz_beq_one

theorem orTo_next (Z : List (BitVec 32)) (k : Nat) : orTo Z (k + 1) = orTo Z k ||| ed Z k := rfl
theorem any_take {α : Type} {p : α → Bool} {l : List α} {k : Nat} (h : k < l.length) : (l.take (k + 1)).any p = ((l.take k).any p || p l[k]) := by
  rw [take_snoc l k h, any_snoc]
theorem any_ed {p : BitVec 32 → Bool} {E : List (BitVec 32)} {k : Nat} (h : k < E.length) : (E.take (k + 1)).any p = ((E.take k).any p || p (ed E k)) := by
  rw [any_take h, ed_eq E k h]
theorem LeftIs.two {E Z : List (BitVec 32)} {keep : BitVec 32} (h : LeftIs E keep Z) {k v : Nat} (hk : k < Z.length) (h1 : inB (ed Z k) (v : Int) = true) (h2 : inB keep (v : Int) = false) : 2 ≤ cntB (fun j => inB (ed Z j) (v : Int)) Z.length := by
  rw [inB_nat] at h1 h2
  obtain ⟨j, hj, hne, hh⟩ := h.twice k v hk h1 (by unfold hv; rw [h2]; simp)
  exact cntB_ge_two hk hj (Ne.symm hne) (by rw [inB_nat]; exact h1) (by rw [inB_nat]; exact hh)
theorem LeftIs.is_ {E Z : List (BitVec 32)} {keep : BitVec 32} (h : LeftIs E keep Z) {k : Nat} (hk : k < Z.length) : E.any (fun b => b &&& orTo Z Z.length == ed Z k) = true := by
  obtain ⟨j, hj, e⟩ := h.edge k hk
  rw [List.any_eq_true]
  exact ⟨_, ed_mem E j hj, by rw [e]; simp⟩
theorem LeftIs.in_ {E Z : List (BitVec 32)} {keep : BitVec 32} (h : LeftIs E keep Z) {k : Nat} (hk : k < E.length) : ((ed E k &&& orTo Z Z.length == 0#32) || Z.any (fun a => subB (ed E k &&& orTo Z Z.length) a)) = true := by
  rcases h.part k hk with e | ⟨i, hi, e⟩
  · rw [e]; rfl
  · rw [Bool.or_eq_true]
    right
    rw [List.any_eq_true]
    exact ⟨_, ed_mem Z i hi, e⟩

set_option maxHeartbeats 8000000 in
set_option maxRecDepth 100000 in
theorem law_estuck (V : Int) (A : Option Addr) (E : List (BitVec 32)) (c : Nat) (keep : BitVec 32) (w : World) (hl : E.length ≤ 35184372087808) (hE : Rd w w.heap.size A (us E)) :
    Calls Try.prog 14 #[.agg #[.int .i64 V, .slice A E.length c], .int .u32 (uz keep)] w fun e w' => e = .returned (.bool true) ∧ Below w.heap.size w w' := by
  go_enter Try.func14, Try.ntmps14
  go_wp2_with fail
  have hb0 := below_alloc w (.cells #[.int .i64 V, .slice A E.length c] 24)
  have hG0 : Row (w.alloc (.cells #[.int .i64 V, .slice A E.length c] 24)) w.heap.size 24 [.int .i64 V, .slice A E.length c] := Row.new _ _ _
  generalize w.alloc _ = w0 at hb0 hG0 ⊢
  refine (copy_any V A E c _ hl (hE.later hb0)).mono ?_
  rintro e w1 ⟨g, rfl, hg, hRg, hb1⟩
  have hB1 := bthen hb0 hb1
  have hG1 := hG0.later hb1
  go_wp2_with fail
  refine (rest_any V _ E _ keep w1 hl hRg.rd).mono ?_
  rintro e w2 ⟨v, Z, code, rfl, hown, HR, hb2⟩
  obtain ⟨A', c', rfl, _, _, hZ, _⟩ := Rd.of_own hown
  have hB2 := bthen hB1 hb2
  have hG2 := hG1.later hb2
  have hE2 := hE.later hB2
  have d0 : w2.cell? ⟨w.heap.size, 0, none⟩ = some (.int .i64 V) := hG2.cell 0
  have d1 : w2.cell? ⟨w.heap.size, 1, none⟩ = some (.slice A E.length c) := hG2.cell 1
  clear hE hb0 hG0 hg hRg hb1 hB1 hG1 hb2 hown
  go_wp2_with fail
  refine (r14valid_any V A E c w2 hl hE2).mono ?_
  rintro e w3 ⟨rfl, hb3⟩
  have hB3 := bthen hB2 hb3
  have hG3 := hG2.later hb3
  have hE3 := hE2.later hb3
  have hZ3 := hZ.later hb3
  have hlt3 := hG3.lt
  clear hZ hG2 hE2 hB2 hb3 d0 d1
  cases hv : validB V E
  · obtain rfl : code = 140 := by
      rcases HR.out with ⟨_, _, h⟩ | ⟨h, _⟩
      · exact h
      · rw [hv] at h; cases h
    clear hv HR
    go_wp2_with fail
    refine (awake15_any w3).mono ?_
    rintro e w5 ⟨rfl, hb5⟩
    go_wp2_with fail
    go_ret
    exact ⟨rfl, bthen hB3 hb5⟩
  · have h7 := (validB_of hv).2.2.1
    obtain ⟨hcode, hLI⟩ : code = 0 ∧ LeftIs E keep Z := by
      rcases HR.out with ⟨h, _⟩ | ⟨_, h1, h2, h3⟩
      · rw [hv] at h; cases h
      · exact ⟨h1, left_is h7 h2 h3⟩
    subst hcode
    have hz7 := hLI.len
    have HL := Lib.hid hLI
    have d1 : w3.cell? ⟨w.heap.size, 1, none⟩ = some (.slice A E.length c) := hG3.cell 1
    clear hv HR hLI
    go_wp2_with fail
    go_loop [7, 45] (fun x i => ∃ k : Nat, k ≤ Z.length ∧ i = .int .i64 k ∧ x = .int .u32 (uz (orTo Z k))) (fun _ i => Z.length - (intOf i).toNat)
    case atStart => exact ⟨0, Nat.zero_le _, rfl, rfl⟩
    case round =>
      obtain ⟨k, hk, rfl, rfl⟩ := hrel
      by_cases hlt : k < Z.length
      · obtain ⟨ad, hA, _, hc⟩ := hZ3.e_at hlt
        subst hA
        have HN := Lib.hid (orTo_next Z k)
        have HNE := Lib.hid (HL.out.ne k hlt)
        have HTW := Lib.hid (fun v => HL.out.two (v := v) hlt)
        have HAN := Lib.hid (fun j hj => HL.out.anti k j hlt hj)
        have HIN : Hid (∀ d, k = d + 1 → (ed Z d).toNat < (ed Z k).toNat) := Lib.hid (fun d e => by subst e; exact HL.out.inc d hlt)
        generalize ed Z k = x at hc HN HNE HTW HAN HIN
        generalize orTo Z k = s at HN ⊢
        have hx0 : (x == 0#32) = false := by simpa using HNE.out
        have b1 : (0 : Int) ≤ k := by omega
        have b2 : (k : Int) < Z.length := by omega
        go_upto_region 11 with fail
        go_cut [67] (fun b wx => b = .bool false ∧ wx = w3)
        case first =>
          rcases Nat.eq_zero_or_pos k with h0 | h0
          · subst h0
            go_wp2_with fail
            go_meet
            exact ⟨rfl, rfl⟩
          · obtain ⟨d, rfl⟩ : ∃ d, k = d + 1 := ⟨k - 1, by omega⟩
            obtain ⟨ad2, hA2, _, hc2⟩ := hZ3.e_at (show d < Z.length by omega)
            obtain rfl : ad = ad2 := by injection hA2
            have hlt2 : uz (ed Z d) < uz x := by unfold uz; have := HIN.out d rfl; omega
            generalize ed Z d = y at hc2 hlt2
            have hdec : decide (uz x ≤ uz y) = false := decide_eq_false (by omega)
            have b3 : (0 : Int) ≤ d := by omega
            have b4 : (d : Int) < Z.length := by omega
            have b5 : (0 : Int) < (d : Int) + 1 := by omega
            go_wp2_with fail
            go_meet
            exact ⟨rfl, rfl⟩
        case rest =>
          obtain ⟨rfl, rfl⟩ := hcut
          go_wp2_with fail
          go_loop [70] (fun i => ∃ m : Nat, m ≤ Z.length ∧ i = .int .i64 m) (fun i => Z.length - (intOf i).toNat)
          case atStart => exact ⟨0, Nat.zero_le _, rfl⟩
          case round =>
            obtain ⟨m, hm, rfl⟩ := hrel
            by_cases hlm : m < Z.length
            · obtain ⟨ad2, hA2, _, hc2⟩ := hZ3.e_at hlm
              obtain rfl : ad = ad2 := by injection hA2
              have HA2 := Lib.hid (HAN.out m hlm)
              generalize ed Z m = y at hc2 HA2
              have b3 : (0 : Int) ≤ m := by omega
              have b4 : (m : Int) < Z.length := by omega
              clear hA2
              by_cases hkm : k = m
              · have d2 : ((k : Int) != (m : Int)) = false := by simp [hkm]
                clear hkm
                go_wp2_with fail
                go_round
                case rel => exact ⟨m + 1, by omega, by go_num⟩
                case measure => simp [intOf]; omega
              · have d2 : ((k : Int) != (m : Int)) = true := by simp; omega
                have hs := HA2.out hkm
                have HW : Hid (∀ w, Calls Try.prog 57 #[.int .u32 (uz x), .int .u32 (uz y)] w fun e w' => e = .returned (.bool false) ∧ w = w') := Lib.hid (fun w => by rw [← hs]; exact within_any _ _ w)
                clear hkm hs
                go_wp2_with (go_at_call 57; refine (HW.out _).mono ?_; rintro e w' ⟨rfl, rfl⟩)
                go_round
                case rel => exact ⟨m + 1, by omega, by go_num⟩
                case measure => simp [intOf]; omega
            · have hme : m = Z.length := by omega
              clear hlm hm
              subst hme
              go_wp2_with fail
              go_loop [12] (fun i => ∃ v : Nat, v ≤ 32 ∧ i = .int .i64 v) (fun i => 32 - (intOf i).toNat)
              case atStart => exact ⟨0, Nat.zero_le _, rfl⟩
              case round =>
                obtain ⟨v, hv32, rfl⟩ := hrel
                by_cases hlv : v < 32
                · have HTV := Lib.hid (HTW.out v)
                  go_wp2_with fail
                  go_loop [13, 90] (fun n i => ∃ q : Nat, q ≤ Z.length ∧ i = .int .i64 q ∧ n = .int .i64 (cntB (fun j => inB (ed Z j) (v : Int)) q : Nat)) (fun _ i => Z.length - (intOf i).toNat)
                  case atStart => exact ⟨0, Nat.zero_le _, rfl, rfl⟩
                  case round =>
                    obtain ⟨q, hq, rfl, rfl⟩ := hrel
                    have hcl := cntB_le (fun j => inB (ed Z j) (v : Int)) q
                    by_cases hlq : q < Z.length
                    · obtain ⟨ad2, hA2, _, hc2⟩ := hZ3.e_at hlq
                      obtain rfl : ad = ad2 := by injection hA2
                      have HT := Lib.hid (cntB_t (p := fun j => inB (ed Z j) (v : Int)) (k := q))
                      have HF := Lib.hid (cntB_f (p := fun j => inB (ed Z j) (v : Int)) (k := q))
                      try simp only at HT HF
                      generalize ed Z q = y at hc2 HT HF
                      generalize hcn : cntB (fun j => inB (ed Z j) (v : Int)) q = cn at hcl HT HF ⊢
                      have b3 : (0 : Int) ≤ q := by omega
                      have b4 : (q : Int) < Z.length := by omega
                      clear hA2 hcn
                      cases hy : inB y (v : Int)
                      · have HN2 := Lib.hid (HF.out hy)
                        clear HT HF
                        go_wp2_with (go_at_call 58; refine (in_any _ _ _).mono ?_; rintro e w' ⟨rfl, rfl⟩)
                        go_round
                        case rel => exact ⟨q + 1, by omega, by go_num, by rw [HN2.out]⟩
                        case measure => simp [intOf]; omega
                      · have HN2 := Lib.hid (HT.out hy)
                        clear HT HF
                        go_wp2_with (go_at_call 58; refine (in_any _ _ _).mono ?_; rintro e w' ⟨rfl, rfl⟩)
                        go_round
                        case rel => exact ⟨q + 1, by omega, by go_num, by rw [HN2.out]; go_num⟩
                        case measure => simp [intOf]; omega
                    · have hqe : q = Z.length := by omega
                      clear hlq hq
                      subst hqe
                      generalize cntB (fun j => inB (ed Z j) (v : Int)) Z.length = cn at hcl HTV ⊢
                      cases h1 : inB x (v : Int)
                      · clear HTV
                        go_wp2_with (go_at_call 58; refine (in_any _ _ _).mono ?_; rintro e w' ⟨rfl, rfl⟩)
                        go_round
                        case rel => exact ⟨v + 1, by omega, by go_num⟩
                        case measure => simp [intOf]; omega
                      · cases h2 : inB keep (v : Int)
                        · have h3 := HTV.out h1 h2
                          have d2 : decide ((cn : Int) < 2) = false := decide_eq_false (by omega)
                          clear HTV
                          go_wp2_with (go_at_call 58; refine (in_any _ _ _).mono ?_; rintro e w' ⟨rfl, rfl⟩)
                          go_round
                          case rel => exact ⟨v + 1, by omega, by go_num⟩
                          case measure => simp [intOf]; omega
                        · clear HTV
                          go_wp2_with (go_at_call 58; refine (in_any _ _ _).mono ?_; rintro e w' ⟨rfl, rfl⟩)
                          go_round
                          case rel => exact ⟨v + 1, by omega, by go_num⟩
                          case measure => simp [intOf]; omega
                · go_wp2_with fail
                  go_round
                  case rel => exact ⟨k + 1, by omega, by go_num, by rw [HN.out]⟩
                  case measure => simp [intOf]; omega
      · have hke : k = Z.length := by omega
        clear hlt hk
        subst hke
        have HIS := Lib.hid (fun k hk => HL.out.is_ (k := k) hk)
        have HINN := Lib.hid (fun k hk => HL.out.in_ (k := k) hk)
        generalize orTo Z Z.length = X at HIS HINN ⊢
        go_wp2_with fail
        go_loop [116] (fun i => ∃ k : Nat, k ≤ Z.length ∧ i = .int .i64 k) (fun i => Z.length - (intOf i).toNat)
        case atStart => exact ⟨0, Nat.zero_le _, rfl⟩
        case round =>
          obtain ⟨k, hk, rfl⟩ := hrel
          by_cases hlt : k < Z.length
          · obtain ⟨ad, hA, _, hc⟩ := hZ3.e_at hlt
            subst hA
            have HI := Lib.hid (HIS.out k hlt)
            generalize ed Z k = x at hc HI
            have b1 : (0 : Int) ≤ k := by omega
            have b2 : (k : Int) < Z.length := by omega
            go_wp2_with fail
            go_loop [18, 123] (fun s i => ∃ q : Nat, q ≤ E.length ∧ i = .int .i64 q ∧ s = .bool ((E.take q).any (fun b => b &&& X == x))) (fun _ i => E.length - (intOf i).toNat)
            case atStart => exact ⟨0, Nat.zero_le _, rfl, rfl⟩
            case round =>
              obtain ⟨q, hq, rfl, rfl⟩ := hrel
              by_cases hlq : q < E.length
              · obtain ⟨ad2, hA2, _, hc2⟩ := hE3.e_at hlq
                subst hA2
                have HN := Lib.hid (any_ed (p := fun b => b &&& X == x) hlq)
                try simp only at HN
                generalize ed E q = y at hc2 HN
                have b3 : (0 : Int) ≤ q := by omega
                have b4 : (q : Int) < E.length := by omega
                cases h1 : (E.take q).any (fun b => b &&& X == x)
                · rw [h1] at HN
                  clear h1
                  cases h2 : (y &&& X == x)
                  all_goals
                    rw [h2] at HN
                    go_wp2_with (go_at_call 41; refine (both_any _ _ _).mono ?_; rintro e w' ⟨rfl, rfl⟩)
                    go_round
                    case rel => exact ⟨q + 1, by omega, by go_num, by rw [HN.out]; rfl⟩
                    case measure => simp [intOf]; omega
                · rw [h1] at HN
                  clear h1
                  go_wp2_with fail
                  go_round
                  case rel => exact ⟨q + 1, by omega, by go_num, by rw [HN.out]; rfl⟩
                  case measure => simp [intOf]; omega
              · have hqe : q = E.length := by omega
                clear hlq hq
                subst hqe
                rw [List.take_length, HI.out]
                go_wp2_with fail
                go_round
                case rel => exact ⟨k + 1, by omega, by go_num⟩
                case measure => simp [intOf]; omega
          · clear HIS
            go_wp2_with fail
            go_loop [142] (fun i => ∃ k : Nat, k ≤ E.length ∧ i = .int .i64 k) (fun i => E.length - (intOf i).toNat)
            case atStart => exact ⟨0, Nat.zero_le _, rfl⟩
            case round =>
              obtain ⟨k, hk, rfl⟩ := hrel
              by_cases hlt : k < E.length
              · obtain ⟨ad, hA, _, hc⟩ := hE3.e_at hlt
                subst hA
                have HI := Lib.hid (HINN.out k hlt)
                generalize ed E k = x at hc HI
                have b1 : (0 : Int) ≤ k := by omega
                have b2 : (k : Int) < E.length := by omega
                obtain ⟨z0, hz0⟩ : ∃ z0, (x &&& X == 0#32) = z0 := ⟨_, rfl⟩
                rw [hz0] at HI
                go_wp2_with (go_at_call 41; refine (both_any _ _ _).mono ?_; rintro e w' ⟨rfl, rfl⟩)
                go_loop [23, 152] (fun s i => ∃ q : Nat, q ≤ Z.length ∧ i = .int .i64 q ∧ s = .bool (z0 || (Z.take q).any (fun a => subB (x &&& X) a))) (fun _ i => Z.length - (intOf i).toNat)
                case atStart => exact ⟨0, Nat.zero_le _, rfl, by simp⟩
                case round =>
                  clear hz0
                  obtain ⟨q, hq, rfl, rfl⟩ := hrel
                  by_cases hlq : q < Z.length
                  · obtain ⟨ad2, hA2, _, hc2⟩ := hZ3.e_at hlq
                    subst hA2
                    have HN := Lib.hid (any_ed (p := fun a => subB (x &&& X) a) hlq)
                    try simp only at HN
                    generalize ed Z q = y at hc2 HN
                    have b3 : (0 : Int) ≤ q := by omega
                    have b4 : (q : Int) < Z.length := by omega
                    have HS : Hid ((z0 || (Z.take (q + 1)).any (fun a => subB (x &&& X) a)) = ((z0 || (Z.take q).any (fun a => subB (x &&& X) a)) || subB (x &&& X) y)) := Lib.hid (by rw [HN.out, Bool.or_assoc])
                    clear HN
                    generalize (z0 || (Z.take q).any (fun a => subB (x &&& X) a)) = st at HS ⊢
                    cases st
                    · have HW := Lib.hid (fun w => within_any (x &&& X) y w)
                      generalize subB (x &&& X) y = sb at HS HW
                      go_wp2_with (first | (go_at_call 41; refine (both_any _ _ _).mono ?_; rintro e w' ⟨rfl, rfl⟩) | (go_at_call 57; refine (HW.out _).mono ?_; rintro e w' ⟨rfl, rfl⟩))
                      go_round
                      case rel => exact ⟨q + 1, by omega, by go_num, by rw [HS.out]; rfl⟩
                      case measure => simp [intOf]; omega
                    · go_wp2_with fail
                      go_round
                      case rel => exact ⟨q + 1, by omega, by go_num, by rw [HS.out]; rfl⟩
                      case measure => simp [intOf]; omega
                  · have hqe : q = Z.length := by omega
                    clear hlq hq
                    subst hqe
                    rw [List.take_length, HI.out]
                    go_wp2_with fail
                    go_round
                    case rel => exact ⟨k + 1, by omega, by go_num⟩
                    case measure => simp [intOf]; omega
              · clear HINN
                go_wp2_with fail
                refine (awake15_any _).mono ?_
                rintro e w5 ⟨rfl, hb5⟩
                go_wp2_with fail
                go_ret
                exact ⟨rfl, bthen hB3 hb5⟩
end Go.Proofs.Ytkenbmelhfhidaa
