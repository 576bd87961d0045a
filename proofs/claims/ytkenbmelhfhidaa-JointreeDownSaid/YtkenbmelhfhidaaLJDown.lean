/- The walk of osierlaw16.JointreeDown. -/
import Derived.Test.YtkenbmelhfhidaaDownLaw
import Derived.Test.YtkenbmelhfhidaaJtOrd2
import Derived.Test.YtkenbmelhfhidaaJtW3
namespace Go.Proofs.Ytkenbmelhfhidaa
open Go.RowKit

set_option maxHeartbeats 40000000 in
set_option maxRecDepth 100000 in
theorem law_jdown (A' : Option Addr) (P : List Int) (c' : Nat) (w : World) (hl' : P.length ≤ 35184372087808) (hP : Rd w w.heap.size A' (is P)) :
    Calls Try.prog 8 #[.slice A' P.length c'] w fun e w' => e = .returned (.bool true) ∧ Below w.heap.size w w' := by
  go_enter Try.func8, Try.ntmps8
  go_wp2_with fail
  refine (ints_any A' P c' w hl' hP).mono ?_
  rintro e w1 ⟨h, rfl, hh, hR1, hb1⟩
  have hP1 := hP.later hb1
  clear hh
  go_wp2_with fail
  refine (order_any _ P _ w1 hl' hR1.rd).mono ?_
  rintro e w2 ⟨v2, Z, code, rfl, hown2, hZI, hb2⟩
  have hB2 := bthen hb1 hb2
  have hP2 := hP.later hB2
  have hZ7 := orderIs_len hZI.out
  obtain ⟨A2, c2, rfl, _, _, hZ2, _⟩ := Rd.of_own hown2
  clear hown2 hb1 hb2 hR1 hP1 hP
  by_cases hc : code = 0
  · subst hc
    obtain ⟨hT, h7, ht, hlen, hzl, hznd, hz0, hzq⟩ := down_facts hZI.out
    obtain ⟨d, hd⟩ := ht.rank
    have HW : Hid (∀ m q : Nat, m < P.length → q ∈ way P.length (pz P) m → m ≠ q → ∃ m' : Nat, pz P m = m' ∧ m' < P.length ∧ q ∈ way P.length (pz P) m' ∧ d m' < d m) := Lib.hid fun m q hm hq hne => by
      rcases (ht.mem_way hm).1 hq with e | ⟨e, hq'⟩
      · exact absurd e.symm hne
      · have h1 := hd m hm e
        have h2 := ht.rng m hm
        exact ⟨(pz P m).toNat, by omega, by omega, hq', h1⟩
    have HZL := Lib.hid hzl
    have HND := Lib.hid hznd
    have HZ0 := Lib.hid hz0
    have HZQ := Lib.hid hzq
    have hne : ((Z.length : Int) != (P.length : Int)) = false := by simp [hlen]
    have HT := Lib.hid hT
    rw [hlen] at HZL HND HZ0 HZQ
    clear hzl hznd hz0 hzq hd ht hT hZI
    go_wp2_with fail
    refine (r16isTree_any A' P c' w2 hl' hP2).mono ?_
    rintro e w3 ⟨rfl, hb3⟩
    rw [HT.out]
    have hB3 := bthen hB2 hb3
    have hP3 := hP2.later hb3
    have hZ3 := hZ2.later hb3
    clear hb3 hP2 hZ2 hB2
    go_upto_region 8 with fail
    have hb4 := below_alloc w3 (.cells #[.int .i64 0, .int .i64 0, .int .i64 0, .int .i64 0, .int .i64 0, .int .i64 0, .int .i64 0] 48)
    have hT4 : Row (w3.alloc (.cells #[.int .i64 0, .int .i64 0, .int .i64 0, .int .i64 0, .int .i64 0, .int .i64 0, .int .i64 0] 48)) w3.heap.size 48 (is (rowOf 7 fun _ => 0)) := Row.new w3 48 (is (rowOf 7 fun _ => 0))
    have hlo : w.heap.size ≤ w3.heap.size := hB3.size
    generalize w3.heap.size = b at hT4 hlo hb4 hP3 hZ3 ⊢
    generalize w3.alloc _ = w4 at hb4 hT4 ⊢
    go_loopw [41] (fun i wr => ∃ (k : Nat) (T : Nat → Int), k ≤ 7 ∧ i = .int .i64 k ∧ Row wr b 48 (is (rowOf 7 T)) ∧ Hid (∀ y, y < k → T y = -1) ∧ Below b w3 wr) (fun i _ => 7 - (intOf i).toNat)
    case atStart => exact ⟨0, _, by omega, rfl, hT4, Lib.hid fun y hy => absurd hy (Nat.not_lt_zero _), hb4⟩
    case round =>
      obtain ⟨k, T, hk, rfl, hTr, hT1, hbk⟩ := hrel
      by_cases hlt : k < 7
      · have q0 : World.cell? wr ⟨b, k, none⟩ = some (.int .i64 (T k)) := by rw [hTr.cell]; exact rowOf_at 7 T k hlt
        have qf := hTr.frozen k
        have b1 : (0 : Int) ≤ k := by omega
        have b2 : (k : Int) < 7 := by omega
        go_wp2_with fail
        go_roundw
        case rel =>
          refine ⟨k + 1, fun j => if j = k then -1 else T j, by omega, by go_num, ?_, Lib.hid fun y hy => ?_, hbk.setCell (by simp) _⟩
          · have := hTr.set_ k (.int .i64 (-1))
            rw [rowOf_set] at this
            exact this
          · by_cases e : y = k
            · exact if_pos e
            · exact (if_neg e).trans (hT1.out y (by omega))
        case measure => simp [intOf]; omega
      · obtain rfl : k = 7 := by omega
        go_wp2_with fail
        go_loopw [49] (fun i wr => ∃ (k : Nat) (T : Nat → Int), k ≤ P.length ∧ i = .int .i64 k ∧ Row wr b 48 (is (rowOf 7 T)) ∧ Hid (∀ j, j < k → 0 ≤ T (zed Z j)) ∧ Hid (∀ y, y < 7 → (∀ j, j < k → zed Z j ≠ y) → T y = -1) ∧ Below b w3 wr) (fun i _ => P.length - (intOf i).toNat)
        case atStart => exact ⟨0, T, Nat.zero_le _, rfl, hTr, Lib.hid fun j hj => absurd hj (Nat.not_lt_zero _), Lib.hid fun y hy _ => hT1.out y hy, hbk⟩
        clear hTr hT1 hbk
        case round =>
          obtain ⟨k, T, hk, rfl, hTr, hA, hF, hbk⟩ := hrel
          by_cases hlt : k < P.length
          · obtain ⟨az, hAz, _, cz⟩ := (hZ3.below hbk).z_at (k := k) (by omega)
            subst hAz
            have hx := HZL.out k hlt
            obtain ⟨ap, hAp, _, cp⟩ := (hP3.below hbk).p_at (k := zed Z k) hx
            subst hAp
            have hTx : T (zed Z k) = -1 := hF.out (zed Z k) (by omega) fun j hj => HND.out j k hj hlt
            have hST : Row (World.setCell wr ⟨b, zed Z k, none⟩ (.int .i64 k)) b 48 (is (rowOf 7 fun j => if j = zed Z k then (k : Int) else T j)) := by
              have := hTr.set_ (zed Z k) (.int .i64 k)
              rw [rowOf_set] at this
              exact this
            have hA' : Hid (∀ j, j < k + 1 → 0 ≤ (fun j => if j = zed Z k then (k : Int) else T j) (zed Z j)) := Lib.hid fun j hj => by
              by_cases e : zed Z j = zed Z k
              · simp [e]
              · simp only [e, if_false]
                refine hA.out j ?_
                rcases Nat.lt_or_ge j k with h | h
                · exact h
                · obtain rfl : j = k := by omega
                  exact absurd rfl e
            have hF' : Hid (∀ y, y < 7 → (∀ j, j < k + 1 → zed Z j ≠ y) → (fun j => if j = zed Z k then (k : Int) else T j) y = -1) := Lib.hid fun y hy hj => by
              exact (if_neg fun e => hj k (by omega) e.symm).trans (hF.out y hy fun j h => hj j (by omega))
            have q0 : World.cell? wr ⟨b, zed Z k, none⟩ = some (.int .i64 (-1)) := by rw [hTr.cell, ← hTx]; exact rowOf_at 7 T _ (by omega)
            have qf := hTr.frozen (zed Z k)
            have hbs := hbk.setCell (p := ⟨b, zed Z k, none⟩) (by simp) (.int .i64 k)
            generalize (fun j => if j = zed Z k then (k : Int) else T j) = T' at hST hA' hF'
            have b1 : (0 : Int) ≤ k := by omega
            have b2 : (k : Int) < P.length := by omega
            have b3 : (0 : Int) ≤ (zed Z k : Nat) := by omega
            have b4 : ((zed Z k : Nat) : Int) < P.length := by omega
            have b5 : ((zed Z k : Nat) : Int) < 7 := by omega
            have b6 : zed Z k < P.length := hx
            have b7 : ¬ (P.length ≤ zed Z k) := by omega
            go_upto_region 18 with fail
            generalize World.setCell wr _ _ = w5 at hST hbs ⊢
            clear cz cp q0 qf hTr hA hF hbk hTx
            obtain ⟨ap', hAp, _, cp⟩ := (hP3.below hbs).p_at (k := zed Z k) hx
            injection hAp with hAp
            subst hAp
            rcases k with _ | k
            · rw [HZ0.out (by omega)] at cp
              go_wp2_with fail
              go_roundw
              case rel =>
                (repeat apply Exists.intro)
                refine ⟨⟨1, T', ?ga, ?gb, hST, hA', hF', hbs⟩, rfl⟩
                case ga => omega
                case gb => go_num
              case measure => simp [intOf]; omega
            · obtain ⟨q, hq1, hq2, j, hj, hjq⟩ := HZQ.out k hlt
              rw [hq1] at cp
              have hq0 := hA'.out j (by omega)
              rw [hjq] at hq0
              have hqn : q < P.length := by rw [← hjq]; exact HZL.out j (by omega)
              have hq7 : (q : Int) < 7 := by omega
              have hqz : (0 : Int) ≤ q := by omega
              have cq : w5.cell? ⟨b, q, none⟩ = some (.int .i64 (T' q)) := by rw [hST.cell]; exact rowOf_at 7 T' q (by omega)
              obtain ⟨az', hAz, _, cz⟩ := (hZ3.below hbs).z_at (k := k) (by omega)
              injection hAz with hAz
              subst hAz
              have hzk := HZL.out k (by omega)
              have hk0 : (((k : Int) + 1) == 0) = false := by rw [beq_eq_false_iff_ne]; omega
              have hq2' := Lib.hid hq2
              have hw1 : IntKind.i64.wrap (k : Int) = k := IntWalk.i64_in _ (by omega)
              generalize T' q = tq at hq0 cq
              clear hq2 hq1 hjq hj
              go_wp2_with fail
              go_loopw [10] (fun y wr => ∃ m : Nat, m < P.length ∧ y = .int .i64 m ∧ Hid (q ∈ way P.length (pz P) m) ∧ Row wr b 48 (is (rowOf 7 T')) ∧ Below b w3 wr) (fun y _ => d (intOf y).toNat)
              case atStart => exact ⟨zed Z k, hzk, rfl, hq2', hST, hbs⟩
              case round =>
                obtain ⟨m, hm, rfl, hqm, hSTr, hbr⟩ := hrel
                by_cases e : m = q
                · subst e
                  go_wp2_with fail
                  go_roundw
                  case rel =>
                    (repeat apply Exists.intro)
                    refine ⟨⟨k + 1 + 1, T', ?ga, ?gb, hSTr, hA', hF', hbr⟩, rfl⟩
                    case ga => omega
                    case gb => go_num
                  case measure => simp [intOf]; omega
                · obtain ⟨m', hm1, hm2, hm3, hm4⟩ := HW.out m q hm hqm.out e
                  obtain ⟨ap', hAp, _, cm⟩ := (hP3.below hbr).p_at (k := m) hm
                  injection hAp with hAp
                  subst hAp
                  rw [hm1] at cm
                  have e1 : ((m : Int) != (q : Int)) = true := by simp; omega
                  have e2 : (0 : Int) ≤ m' := by omega
                  have e3 : (0 : Int) ≤ m := by omega
                  have e4 : (m : Int) < P.length := by omega
                  have HM := Lib.hid hm3
                  have HD := Lib.hid hm4
                  clear hm3 hm4 hm1
                  go_wp2_with fail
                  go_roundw
                  case rel => exact ⟨m', hm2, rfl, HM, hSTr, hbr⟩
                  case measure => simpa [intOf] using HD.out
          · obtain rfl : k = P.length := by omega
            go_wp2_with fail
            refine (awake16_any _).mono ?_
            rintro e w5 ⟨rfl, hb5⟩
            go_wp2_with fail
            go_ret
            exact ⟨rfl, bthen (hB3.trans (hbk.mono hlo)) hb5⟩
  · have hZ : Z = [] ∧ treeB P = false := by
      rcases hZI.out with ⟨b, a, _⟩ | ⟨_, _, a⟩
      · exact ⟨a, b⟩
      · exact absurd a hc
    obtain ⟨hZ, hT⟩ := hZ
    subst hZ
    have e1 : (code != 0) = true := by simpa using hc
    have HT := Lib.hid hT
    clear hZI hT
    go_wp2_with fail
    refine (ints_any A' P c' w2 hl' hP2).mono ?_
    rintro e w3 ⟨h3, rfl, _, hR3, hb3⟩
    have hB3 := bthen hB2 hb3
    go_wp2_with fail
    refine (isTree_any _ P _ w3 hl' hR3.rd).mono ?_
    rintro e w4 ⟨rfl, rfl⟩
    rw [HT.out]
    go_wp2_with fail
    refine (awake16_any w3).mono ?_
    rintro e w5 ⟨rfl, hb5⟩
    go_wp2_with fail
    go_ret
    exact ⟨rfl, bthen hB3 hb5⟩
end Go.Proofs.Ytkenbmelhfhidaa
