/- The walk of osierlaw16.JointreeRooted. -/
import Derived.Test.YtkenbmelhfhidaaRootedLaw
import Derived.Test.YtkenbmelhfhidaaJtRoot
import Derived.Test.YtkenbmelhfhidaaJtW3
import Derived.Deep.RegionHeld3
namespace Go.Proofs.Ytkenbmelhfhidaa
open Go.RowKit

attribute [local go_sem ↓] Go.wp_at_zero Go.wp_at_succ

/-- The root that the loop has found so far. -/
def OldIs (P : List Int) (k : Nat) (x : Int) : Prop := (x = -1 ∧ ∀ j, j < k → pz P j ≠ -1) ∨ ∃ o : Nat, x = o ∧ o < k ∧ pz P o = -1

theorem OldIs.step_t {P : List Int} {k : Nat} {x : Int} (_h : OldIs P k x) (hz : pz P k = -1) : OldIs P (k + 1) k := .inr ⟨k, rfl, by omega, hz⟩
theorem OldIs.step_f {P : List Int} {k : Nat} {x : Int} (h : OldIs P k x) (hz : pz P k ≠ -1) : OldIs P (k + 1) x := by
  rcases h with ⟨a, b⟩ | ⟨o, a, b, c⟩
  · refine .inl ⟨a, fun j hj => ?_⟩
    rcases Nat.lt_or_ge j k with h | h
    · exact b j h
    · obtain rfl : j = k := by omega
      exact hz
  · exact .inr ⟨o, a, by omega, c⟩
theorem adj5 {a b c d : Bool} (h : (a || b) = (c || d)) : (a = true ∧ c = true) ∨ (a = true ∧ c = false ∧ d = true) ∨ (a = false ∧ b = true ∧ c = true) ∨ (a = false ∧ b = true ∧ c = false ∧ d = true) ∨ (a = false ∧ b = false ∧ c = false ∧ d = false) := by
  revert h; cases a <;> cases b <;> cases c <;> cases d <;> simp

set_option maxHeartbeats 40000000 in
set_option maxRecDepth 100000 in
theorem law_jrooted (V : Int) (A : Option Addr) (E : List (BitVec 32)) (c : Nat) (A' : Option Addr) (P : List Int) (c' : Nat) (root : Int) (w : World) (hl : E.length ≤ 35184372087808) (hE : Rd w w.heap.size A (us E)) (hl' : P.length ≤ 35184372087808) (hP : Rd w w.heap.size A' (is P)) :
    Calls Try.prog 9 #[.agg #[.int .i64 V, .slice A E.length c], .slice A' P.length c', .int .i64 root] w fun e w' => e = .returned (.bool true) ∧ Below w.heap.size w w' := by
  go_enter Try.func9, Try.ntmps9
  go_wp2_with fail
  have hb0 := below_alloc w (.cells #[.int .i64 V, .slice A E.length c] 24)
  have hG0 : Row (w.alloc (.cells #[.int .i64 V, .slice A E.length c] 24)) w.heap.size 24 [.int .i64 V, .slice A E.length c] := Row.new _ _ _
  generalize w.alloc _ = w0 at hb0 hG0 ⊢
  refine (ints_any A' P c' w0 hl' (hP.later hb0)).mono ?_
  rintro e w1 ⟨h, rfl, hh, hR1, hb1⟩
  have hB1 := bthen hb0 hb1
  have hG1 := hG0.later hb1
  clear hh
  go_wp2_with fail
  refine (reroot_any _ P _ root w1 hl' hR1.rd).mono ?_
  rintro e w2 ⟨v2, Z, code, rfl, hown2, hZI, hb2⟩
  have hB2 := bthen hB1 hb2
  have hG2 := hG1.later hb2
  have hE2 := hE.later hB2
  have hP2 := hP.later hB2
  have hZ7 := rootIs_len hZI.out
  obtain ⟨A2, c2, rfl, _, _, hZ2, _⟩ := Rd.of_own hown2
  clear hown2 hb0 hb1 hb2 hR1 hB1 hG0 hG1 hE hP
  by_cases hc : code = 0
  · subst hc
    obtain ⟨r, hr, hrl, hlen, hT, hzr, hCH, hADJ, hOLD, hBACK⟩ := rooted_facts hZI.out
    subst hr
    obtain ⟨adz, hAz, _, hcz⟩ := hZ2.p_at (k := r) (by omega)
    subst hAz
    rw [hzr] at hcz
    have hne : ((Z.length : Int) != (P.length : Int)) = false := by simp [hlen]
    have b1 : (0 : Int) ≤ r := by omega
    have b2 : (r : Int) < Z.length := by omega
    have HADJ := Lib.hid hADJ
    have HOLD := Lib.hid hOLD
    have HBACK := Lib.hid hBACK
    have HK : Hid (∀ x, Below w2.heap.size w2 x → Below w2.heap.size w2 x ∧ x.cell? ⟨w.heap.size, 0, none⟩ = some (.int .i64 V) ∧ x.cell? ⟨w.heap.size, 1, none⟩ = some (.slice A E.length c) ∧ x.cell? (adz.add r) = some (.int .i64 (-1))) :=
      Lib.hid (fun x hx => ⟨hx, (hG2.later hx).cell 0, (hG2.later hx).cell 1, by
        obtain ⟨ad, ha, _, hcc⟩ := (hZ2.later hx).p_at (k := r) (by omega)
        injection ha with ha
        subst ha
        rw [hzr] at hcc
        exact hcc⟩)
    have C1 : Hid (∀ x, Below w2.heap.size w2 x → Calls Try.prog 31 #[.slice A' P.length c'] x fun e w' => e = .returned (.bool true) ∧ Below w2.heap.size w2 w') :=
      Lib.hid (fun x hx => (r16isTree_any A' P c' x hl' (hP2.later hx)).mono fun e w' ⟨he, hb⟩ => ⟨by rw [he, hT], bthen hx hb⟩)
    have C2 : Hid (∀ x, Below w2.heap.size w2 x → Calls Try.prog 27 #[.agg #[.int .i64 V, .slice A E.length c]] x fun e w' => ∃ g, e = .returned (.agg #[.int .i64 V, .slice (some ⟨g, 0, none⟩) E.length E.length]) ∧ Row w' g 39 (us E) ∧ Below w2.heap.size w2 w') :=
      Lib.hid (fun x hx => (copy_any V A E c x hl (hE2.later hx)).mono fun e w' ⟨g, he, _, hR, hb⟩ => ⟨g, he, hR, bthen hx hb⟩)
    have C3 : Hid (∀ x, Below w2.heap.size w2 x → Calls Try.prog 28 #[.slice A' P.length c'] x fun e w' => ∃ h, e = .returned (.slice (some ⟨h, 0, none⟩) P.length P.length) ∧ Row w' h 3 (is P) ∧ Below w2.heap.size w2 w' ∧ Below x.heap.size x w') :=
      Lib.hid (fun x hx => (ints_any A' P c' x hl' (hP2.later hx)).mono fun e w' ⟨g, he, _, hR, hb⟩ => ⟨g, he, hR, bthen hx hb, hb⟩)
    have C4 : Hid (∀ x g, Below w2.heap.size w2 x → Row x g 39 (us E) → Calls Try.prog 32 #[.agg #[.int .i64 V, .slice (some ⟨g, 0, none⟩) E.length E.length], .slice (some adz) P.length c2] x fun e w' => e = .returned (.bool (checkB V E P)) ∧ Below w2.heap.size w2 w') :=
      Lib.hid (fun x g hx hR => hlen ▸ (check_any V _ _ E Z _ _ x hl (by omega) hR.rd (hZ2.later hx)).mono fun e w' ⟨he, hb⟩ => ⟨by rw [he, hCH], bthen hx hb⟩)
    have C5 : Hid (∀ x g h, Below w2.heap.size w2 x → Row x g 39 (us E) → Row x h 3 (is P) → Calls Try.prog 32 #[.agg #[.int .i64 V, .slice (some ⟨g, 0, none⟩) E.length E.length], .slice (some ⟨h, 0, none⟩) P.length P.length] x fun e w' => e = .returned (.bool (checkB V E P)) ∧ Below w2.heap.size w2 w') :=
      Lib.hid (fun x g h hx hR hS => (check_any V _ _ E P _ _ x hl hl' hR.rd hS.rd).mono fun e w' ⟨he, hb⟩ => ⟨he, bthen hx hb⟩)
    clear hADJ hOLD hBACK hzr hZI
    generalize checkB V E P = u at C4 C5
    have huu : (u != u) = false := by simp
    have hge : ¬ ((Z.length : Int) ≤ r) := by omega
    have hge2 : ¬ (P.length ≤ r) := by omega
    have hge' : decide (P.length ≤ r) = false := by simpa using hrl
    have hlt0 : decide ((r : Int) < 0) = false := by simp
    go_upto_region 4 with fail
    go_cut [67] (fun x wx => x = .bool false ∧ Below w2.heap.size w2 wx)
    case first =>
      go_region_held3 (fun x : World => Below w2.heap.size w2 x ∧ x.cell? ⟨w.heap.size, 0, none⟩ = some (.int .i64 V) ∧ x.cell? ⟨w.heap.size, 1, none⟩ = some (.slice A E.length c) ∧ x.cell? (adz.add r) = some (.int .i64 (-1)))
        (first | exact HK.out _ (by assumption) | exact HK.out _ (Below.refl _ _) | exact HK.out _ (Below.refl _ _).drew)
        (first
          | (go_at_call 31; refine (C1.out _ (by first | assumption | exact Below.refl _ _ | exact (Below.refl _ _).drew)).mono ?_; rintro e w4 ⟨rfl, hb4⟩)
          | (go_at_call 27; refine (C2.out _ (by first | assumption | exact Below.refl _ _ | exact (Below.refl _ _).drew)).mono ?_; rintro e w4 ⟨g4, rfl, hR4, hb4⟩)
          | (go_at_call 28; refine (C3.out _ (by first | assumption | exact Below.refl _ _ | exact (Below.refl _ _).drew)).mono ?_; rintro e w5 ⟨g5, rfl, hR5, hb4, hb5⟩)
          | (go_at_call 32; with_reducible refine (C4.out _ _ (by assumption) hR4).mono ?_; rintro e w4 ⟨rfl, hb4⟩)
          | (go_at_call 32; with_reducible refine (C5.out _ _ _ (by assumption) (hR4.later hb5) hR5).mono ?_; rintro e w4 ⟨rfl, hb4⟩))
      all_goals
        go_wp2_with fail
        go_meet
        exact ⟨by first | rfl | simp, by assumption⟩
    case rest =>
      obtain ⟨rfl, hb⟩ := hcut
      have HZR : Hid (∀ x, Below w2.heap.size w2 x → Rd x x.heap.size (some adz) (is Z)) := Lib.hid fun x hx => hZ2.later hx
      have HPR : Hid (∀ x, Below w2.heap.size w2 x → Rd x x.heap.size A' (is P)) := Lib.hid fun x hx => hP2.later hx
      clear HK C1 C2 C3 C4 C5 huu hge hge2 hge' hlt0 hcz hG2 hE2 hne
      go_wp2_with fail
      go_loopw [9, 70] (fun o i wr => ∃ (k : Nat) (x : Int), k ≤ P.length ∧ i = .int .i64 k ∧ o = .int .i64 x ∧ Hid (OldIs P k x) ∧ Below w2.heap.size w2 wr) (fun _ i _ => P.length - (intOf i).toNat)
      case atStart => exact ⟨0, -1, Nat.zero_le _, rfl, rfl, Lib.hid (.inl ⟨rfl, fun j hj => absurd hj (Nat.not_lt_zero _)⟩), hb⟩
      case round =>
        obtain ⟨k, x, hk, rfl, rfl, hold, hbk⟩ := hrel
        by_cases hlt : k < P.length
        · obtain ⟨adp, hAp, _, hcp⟩ := (HPR.out _ hbk).p_at (k := k) hlt
          subst hAp
          have b6 : (0 : Int) ≤ k := by omega
          have b7 : (k : Int) < Z.length := by omega
          have b8 : (k : Int) < P.length := by omega
          by_cases hz : pz P k = -1
          · have hnew := Lib.hid (hold.out.step_t hz)
            rw [hz] at hcp
            have e0 : ((-1 : Int) == -1) = true := rfl
            clear hz hold
            go_wp2_with fail
            clear hcp e0
            go_loopw [81] (fun j wr => ∃ m : Nat, m ≤ P.length ∧ j = .int .i64 m ∧ Below w2.heap.size w2 wr) (fun j _ => P.length - (intOf j).toNat)
            case atStart => exact ⟨0, Nat.zero_le _, rfl, hbk⟩
            case round =>
              obtain ⟨m, hm, rfl, hbm⟩ := hrel
              by_cases hmlt : m < P.length
              · obtain ⟨adz', hAz1, _, q1⟩ := (HZR.out _ hbm).p_at (k := k) (by omega)
                injection hAz1 with hAz1
                subst hAz1
                obtain ⟨adz', hAz1, _, q2⟩ := (HZR.out _ hbm).p_at (k := m) (by omega)
                injection hAz1 with hAz1
                subst hAz1
                obtain ⟨adp', hAp1, _, q3⟩ := (HPR.out _ hbm).p_at (k := k) (by omega)
                injection hAp1 with hAp1
                subst hAp1
                obtain ⟨adp', hAp1, _, q4⟩ := (HPR.out _ hbm).p_at (k := m) (by omega)
                injection hAp1 with hAp1
                subst hAp1
                have hadj := adj5 (HADJ.out k m hlt hmlt)
                generalize pz Z k = z1 at q1 hadj
                generalize pz Z m = z2 at q2 hadj
                generalize pz P k = p1 at q3 hadj
                generalize pz P m = p2 at q4 hadj
                have b3 : (0 : Int) ≤ m := by omega
                have b4 : (m : Int) < Z.length := by omega
                have b5 : (m : Int) < P.length := by omega
                rcases hadj with ⟨e1, e3⟩ | ⟨e1, e3, e4⟩ | ⟨e1, e2, e3⟩ | ⟨e1, e2, e3, e4⟩ | ⟨e1, e2, e3, e4⟩
                all_goals
                  go_wp2_with fail
                  go_quiet (fail)
                  go_wp2_with fail
                  go_roundw
                  case rel => exact ⟨m + 1, by omega, by go_num, below_drewN hbm _⟩
                  case measure => simp [intOf]; omega
              · go_wp2_with fail
                go_roundw
                case rel => exact ⟨k + 1, _, by omega, by go_num, rfl, hnew, hbm⟩
                case measure => simp [intOf]; omega
          · have hnew := Lib.hid (hold.out.step_f hz)
            have e0 : (pz P k == -1) = false := by simpa using hz
            clear hz hold
            go_wp2_with fail
            clear hcp e0
            go_loopw [81] (fun j wr => ∃ m : Nat, m ≤ P.length ∧ j = .int .i64 m ∧ Below w2.heap.size w2 wr) (fun j _ => P.length - (intOf j).toNat)
            case atStart => exact ⟨0, Nat.zero_le _, rfl, hbk⟩
            case round =>
              obtain ⟨m, hm, rfl, hbm⟩ := hrel
              by_cases hmlt : m < P.length
              · obtain ⟨adz', hAz1, _, q1⟩ := (HZR.out _ hbm).p_at (k := k) (by omega)
                injection hAz1 with hAz1
                subst hAz1
                obtain ⟨adz', hAz1, _, q2⟩ := (HZR.out _ hbm).p_at (k := m) (by omega)
                injection hAz1 with hAz1
                subst hAz1
                obtain ⟨adp', hAp1, _, q3⟩ := (HPR.out _ hbm).p_at (k := k) (by omega)
                injection hAp1 with hAp1
                subst hAp1
                obtain ⟨adp', hAp1, _, q4⟩ := (HPR.out _ hbm).p_at (k := m) (by omega)
                injection hAp1 with hAp1
                subst hAp1
                have hadj := adj5 (HADJ.out k m hlt hmlt)
                generalize pz Z k = z1 at q1 hadj
                generalize pz Z m = z2 at q2 hadj
                generalize pz P k = p1 at q3 hadj
                generalize pz P m = p2 at q4 hadj
                have b3 : (0 : Int) ≤ m := by omega
                have b4 : (m : Int) < Z.length := by omega
                have b5 : (m : Int) < P.length := by omega
                rcases hadj with ⟨e1, e3⟩ | ⟨e1, e3, e4⟩ | ⟨e1, e2, e3⟩ | ⟨e1, e2, e3, e4⟩ | ⟨e1, e2, e3, e4⟩
                all_goals
                  go_wp2_with fail
                  go_quiet (fail)
                  go_wp2_with fail
                  go_roundw
                  case rel => exact ⟨m + 1, by omega, by go_num, below_drewN hbm _⟩
                  case measure => simp [intOf]; omega
              · go_wp2_with fail
                go_roundw
                case rel => exact ⟨k + 1, _, by omega, by go_num, rfl, hnew, hbm⟩
                case measure => simp [intOf]; omega
        · obtain rfl : k = P.length := by omega
          obtain ⟨o, ho, hpo⟩ := HOLD.out
          obtain ⟨q, rfl, hq, hpq⟩ : ∃ q : Nat, x = q ∧ q < P.length ∧ pz P q = -1 := by
            rcases hold.out with ⟨_, a⟩ | a
            · exact absurd hpo (a o ho)
            · exact a
          have HB := Lib.hid (HBACK.out q hq hpq)
          clear hpq hpo hold
          go_wp2_with fail
          have HI := ints_any (some adz) Z c2 wr (by omega) (HZR.out _ hbk)
          rw [hlen] at HI
          refine HI.mono ?_
          rintro e w5 ⟨g5, rfl, _, hR5, hb5⟩
          clear HI
          have hB5 := bthen hbk hb5
          go_wp2_with fail
          have HRR := reroot_any (some ⟨g5, 0, none⟩) Z P.length q w5 (by omega) hR5.rd
          rw [hlen] at HRR
          refine HRR.mono ?_
          rintro e w6 ⟨v6, Y, code, rfl, hown6, hYI, hb6⟩
          clear HRR
          obtain ⟨hY, hc⟩ := HB.out Y code hYI.out
          subst hc
          rw [hY] at hown6
          obtain ⟨A6, c6, rfl, _, _, hY6, _⟩ := Rd.of_own hown6
          have hB6 := bthen hB5 hb6
          have HS : Hid (Calls Try.prog 35 #[.slice A6 P.length c6, .slice A' P.length c'] w6 fun e w' => e = .returned (.bool true) ∧ ∃ n, w' = w6.drewN n) := Lib.hid (by
            have := sameInts_any A6 A' P P c6 c' w6 hl' hl' hY6 (HPR.out _ hB6)
            rw [beq_self_eq_true] at this
            exact this)
          clear hY
          clear hown6 hYI hb6 hb5 hR5 hB5 HB HBACK HADJ HOLD
          go_wp2_with fail
          refine HS.out.mono ?_
          rintro e w7 ⟨rfl, n, rfl⟩
          go_wp2_with fail
          refine (awake16_any _).mono ?_
          rintro e w8 ⟨rfl, hb8⟩
          go_wp2_with fail
          go_ret
          exact ⟨rfl, bthen hB2 (bthen (below_drewN hB6 n) hb8)⟩
  · have hZ : Z = [] := by
      rcases hZI.out with ⟨_, a, _⟩ | ⟨_, _, a, _⟩ | ⟨_, _, _, _, _, a⟩
      · exact a
      · exact a
      · exact absurd a hc
    subst hZ
    have e1 : (code != 0) = true := by simpa using hc
    clear hZI
    go_wp2_with fail
    refine (awake16_any w2).mono ?_
    rintro e w3 ⟨rfl, hb3⟩
    go_wp2_with fail
    go_ret
    exact ⟨rfl, bthen hB2 hb3⟩
end Go.Proofs.Ytkenbmelhfhidaa
