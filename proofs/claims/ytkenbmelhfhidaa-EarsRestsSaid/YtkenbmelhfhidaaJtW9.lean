/- The contracts of osierref15.rooted and Joined. -/
import Derived.Test.YtkenbmelhfhidaaJtW6
namespace Go.Proofs.Ytkenbmelhfhidaa
open Go.RowKit

attribute [local go_sem ↓] uz_and uz_or uz_andNot uz_and_one uz_shr uz_shl_one uz_shl uz_sub uz_sub_one uz_add uz_beq_zero uz_bne_zero uz_beq uz_bne uz_beq_one

/-- All edges below k come to the root. -/
def rtTo (n : Nat) (p : Nat → Int) (k : Nat) : Prop := ∀ i : Nat, i < k → up p n (i : Int) < 0
theorem rtTo_next {n k : Nat} {p : Nat → Int} (h : rtTo n p k) (hk : up p n (k : Int) < 0) : rtTo n p (k + 1) := fun i hi => by
  by_cases e : i = k
  · subst e; exact hk
  · exact h i (by omega)
theorem rtTo_all {n : Nat} {p : Nat → Int} (h : rtTo n p n) : rootedB n p = true := by
  unfold rootedB; rw [List.all_eq_true]
  intro i hi; simpa using h i (List.mem_range.1 hi)
theorem rt_false {n k : Nat} {p : Nat → Int} (hk : k < n) (h : ¬ up p n (k : Int) < 0) : rootedB n p = false := by
  unfold rootedB; rw [List.all_eq_false]
  exact ⟨k, List.mem_range.2 hk, by simpa using h⟩

set_option maxHeartbeats 2000000 in
set_option maxRecDepth 100000 in
theorem rooted_any (A : Option Addr) (P : List Int) (c : Nat) (w : World) (hl : P.length ≤ 35184372087808) (hP : Rd w w.heap.size A (is P)) (rng : ∀ i, i < P.length → -1 ≤ pz P i ∧ pz P i < P.length) :
    Calls Try.prog 113 #[.slice A P.length c] w fun e w' => e = .returned (.bool (rootedB P.length (pz P))) ∧ w = w' := by
  have HRNG := Lib.hid rng
  clear rng
  go_enter Try.func113, Try.ntmps113
  go_wp2_with fail
  go_loop [3, 4, 5] (fun j _ _ => ∃ k : Nat, k ≤ P.length ∧ j = .int .i64 k ∧ Hid (rtTo P.length (pz P) k)) (fun j _ _ => P.length - (intOf j).toNat)
  case atStart => exact ⟨0, Nat.zero_le _, rfl, Lib.hid (fun i hi => absurd hi (Nat.not_lt_zero i))⟩
  case round =>
    obtain ⟨k, hk, rfl, hok⟩ := hrel
    by_cases hlt : k < P.length
    · have HN := Lib.hid (rtTo_next hok.out)
      have HF := Lib.hid (rt_false (p := pz P) hlt)
      go_wp2_with fail
      go_loop [4, 5] (fun at_ st => ∃ (m : Nat) (y : Int), m ≤ P.length ∧ st = .int .i64 m ∧ at_ = .int .i64 y ∧ -1 ≤ y ∧ y < P.length ∧ Hid (up (pz P) (P.length - m) y = up (pz P) P.length (k : Int))) (fun _ st => P.length - (intOf st).toNat)
      case atStart => exact ⟨0, k, Nat.zero_le _, rfl, rfl, by omega, by omega, rfl⟩
      case round =>
        obtain ⟨m, y, hm, rfl, rfl, hy1, hy2, hup⟩ := hrel
        by_cases hy : y = -1
        · subst hy
          have hu : up (pz P) P.length (k : Int) < 0 := by rw [← hup.out, up_neg _ (by omega) _]; omega
          have HK := Lib.hid (HN.out hu)
          clear hu
          go_wp2_with fail
          go_round
          case rel => exact ⟨k + 1, by omega, by go_num, HK⟩
          case measure => simp [intOf]; omega
        · obtain ⟨j, rfl⟩ := Int.eq_ofNat_of_zero_le (show 0 ≤ y by omega)
          have hj : j < P.length := by omega
          have d1 : (0 : Int) ≤ j := by omega
          have d2 : (j : Int) < P.length := by omega
          by_cases hmn : m < P.length
          · obtain ⟨ad, hA, _, hc⟩ := hP.p_at hj
            subst hA
            have hr := HRNG.out j hj
            have HU2 : Hid (up (pz P) (P.length - (m + 1)) (pz P j) = up (pz P) P.length (k : Int)) := Lib.hid (by
              rw [← hup.out, show P.length - m = (P.length - (m + 1)) + 1 by omega, up_nat])
            generalize pz P j = z at hc hr HU2
            clear hy
            go_wp2_with fail
            go_round
            case rel => exact ⟨m + 1, z, by omega, by go_num, rfl, by omega, by omega, HU2⟩
            case measure => simp [intOf]; omega
          · obtain rfl : m = P.length := by omega
            have hf : Hid (rootedB P.length (pz P) = false) := Lib.hid (HF.out (by rw [← hup.out, Nat.sub_self]; first | (show (0 : Int) ≤ ((j : Nat) : Int); omega) | (show ¬ ((j : Nat) : Int) < 0; omega)))
            clear hy
            go_wp2_with fail
            go_ret
            exact ⟨by first | rfl | (rw [hf.out]; rfl), rfl⟩
    · obtain rfl : k = P.length := by omega
      have hf : Hid (rootedB P.length (pz P) = true) := Lib.hid (rtTo_all hok.out)
      go_wp2_with fail
      go_ret
      exact ⟨by first | rfl | (rw [hf.out]; rfl), rfl⟩

/-- All vertices below k hang together. -/
def vOk (E : List (BitVec 32)) (p : Nat → Int) (v : Nat) : Bool := !(cntB (fun i => (ed E i).getLsbD v) E.length != 0) || (cntB (topB E p v) E.length == 1)
def jnTo (E : List (BitVec 32)) (p : Nat → Int) (k : Nat) : Prop := ∀ v : Nat, v < k → vOk E p v = true
theorem jnTo_next {E : List (BitVec 32)} {k : Nat} {p : Nat → Int} (h : jnTo E p k) (hk : vOk E p k = true) : jnTo E p (k + 1) := fun i hi => by
  by_cases e : i = k
  · subst e; exact hk
  · exact h i (by omega)
theorem jnTo_all {V : Nat} {E : List (BitVec 32)} {p : Nat → Int} (h : jnTo E p V) : joinedB V E p = true := by
  unfold joinedB; rw [List.all_eq_true]
  intro i hi; exact h i (List.mem_range.1 hi)
theorem jn_false {V k : Nat} {E : List (BitVec 32)} {p : Nat → Int} (hk : k < V) (h : vOk E p k = false) : joinedB V E p = false := by
  unfold joinedB; rw [List.all_eq_false]
  exact ⟨k, List.mem_range.2 hk, by rw [show (!(cntB (fun i => (ed E i).getLsbD k) E.length != 0) || (cntB (topB E p k) E.length == 1)) = vOk E p k from rfl, h]; simp⟩
theorem vOk_of {E : List (BitVec 32)} {p : Nat → Int} {v t : Nat} {a : Bool} (h1 : t = cntB (topB E p v) E.length) (h2 : a = (cntB (fun i => (ed E i).getLsbD v) E.length != 0)) : vOk E p v = (!a || ((t : Int) == 1)) := by
  unfold vOk
  rw [h2, h1]
  congr 1
  rw [Bool.eq_iff_iff, beq_iff_eq, beq_iff_eq]; omega
theorem cnt_none {q : Nat → Bool} {k : Nat} {a : Bool} (h : a = (cntB q k != 0)) (hk : q k = false) : a = (cntB q (k + 1) != 0) := by rw [cntB_f hk]; exact h
theorem cnt_some {q : Nat → Bool} {k : Nat} (hk : q k = true) : true = (cntB q (k + 1) != 0) := by rw [cntB_t hk]; simp

set_option maxHeartbeats 4000000 in
set_option maxRecDepth 100000 in
theorem joined_any (V : Nat) (A A' : Option Addr) (E : List (BitVec 32)) (P : List Int) (c c' : Nat) (w : World) (hV : V ≤ 30) (h7 : E.length ≤ 7) (hlen : P.length = E.length) (hE : Rd w w.heap.size A (us E)) (hP : Rd w w.heap.size A' (is P)) (rng : ∀ i, i < P.length → -1 ≤ pz P i ∧ pz P i < P.length) :
    Calls Try.prog 114 #[.agg #[.int .i64 V, .slice A E.length c], .slice A' P.length c'] w fun e w' => e = .returned (.bool (joinedB V E (pz P))) ∧ Below w.heap.size w w' := by
  have HRNG := Lib.hid rng
  have HL := Lib.hid hlen
  clear rng hlen
  go_enter Try.func114, Try.ntmps114
  go_wp2_with fail
  have hb0 := below_alloc w (.cells #[.int .i64 V, .slice A E.length c] 24)
  have hG0 : Row (w.alloc (.cells #[.int .i64 V, .slice A E.length c] 24)) w.heap.size 24 [.int .i64 V, .slice A E.length c] := Row.new _ _ _
  have hE0 := hE.later hb0
  have hP0 := hP.later hb0
  generalize w.alloc _ = W0 at hb0 hG0 hE0 hP0 ⊢
  have hlt0 := hG0.lt
  clear hE hP
  go_loopw [5, 6, 7, 8] (fun j _ _ _ wr => ∃ k : Nat, k ≤ V ∧ j = .int .i64 k ∧ Hid (jnTo E (pz P) k) ∧ Below W0.heap.size W0 wr) (fun j _ _ _ _ => V - (intOf j).toNat)
  case atStart => exact ⟨0, Nat.zero_le _, rfl, Lib.hid (fun i hi => absurd hi (Nat.not_lt_zero i)), Below.refl _ _⟩
  case round =>
    obtain ⟨k, hk, rfl, hok, hb⟩ := hrel
    have d0 : wr.cell? ⟨w.heap.size, 0, none⟩ = some (.int .i64 V) := (hG0.later hb).cell 0
    by_cases hlt : k < V
    · have HN := Lib.hid (jnTo_next hok.out)
      have HF := Lib.hid (jn_false (E := E) (p := pz P) hlt)
      go_wp2_with fail
      go_loopw [6, 7, 8] (fun tp an i wi => ∃ (m t : Nat) (a : Bool), m ≤ E.length ∧ i = .int .i64 m ∧ tp = .int .i64 t ∧ t ≤ 7 ∧ an = .bool a ∧ Hid (t = cntB (topB E (pz P) k) m) ∧ Hid (a = (cntB (fun i => (ed E i).getLsbD k) m != 0)) ∧ Below W0.heap.size W0 wi) (fun _ _ i _ => E.length - (intOf i).toNat)
      case atStart => exact ⟨0, 0, false, Nat.zero_le _, rfl, rfl, by omega, rfl, Lib.hid rfl, Lib.hid rfl, hb⟩
      case round =>
        obtain ⟨m, t, a, hm, rfl, rfl, ht, rfl, HT, HA, hbi⟩ := hrel
        have f1 : World.cell? wr ⟨w.heap.size, 1, none⟩ = some (.slice A E.length c) := (hG0.later hbi).cell 1
        have hE1 := hE0.later hbi
        have hP1 := hP0.later hbi
        by_cases hlm : m < E.length
        · obtain ⟨ad, hAd, _, hc⟩ := hE1.e_at hlm
          subst hAd
          have hlm' : m < P.length := by have := HL.out; omega
          have b1 : (0 : Int) ≤ m := by omega
          have b2 : (m : Int) < E.length := by omega
          have hi := inB_nat (ed E m) k
          have HIN : Hid (∀ w, Calls Try.prog 58 #[.int .u32 (uz (ed E m)), .int .i64 k] w fun e w' => e = .returned (.bool ((ed E m).getLsbD k)) ∧ w = w') := Lib.hid (fun w => by rw [← hi]; exact in_any _ _ _)
          have HA0 := Lib.hid (cnt_none (q := fun i => (ed E i).getLsbD k) HA.out)
          have HA1 := Lib.hid (cnt_some (q := fun i => (ed E i).getLsbD k) (k := m))
          have HT0 := Lib.hid (cntB_f (p := topB E (pz P) k) (k := m))
          have HT1 := Lib.hid (cntB_t (p := topB E (pz P) k) (k := m))
          clear hi
          cases hbit : (ed E m).getLsbD k
          · rw [hbit] at HIN
            have HA2 := Lib.hid (HA0.out hbit)
            have HT2 := Lib.hid (HT.out.trans (HT0.out (by unfold topB; rw [hbit]; rfl)).symm)
            generalize ed E m = x at hc HIN
            clear hbit
            go_wp2_with fail
            refine (HIN.out _).mono ?_
            rintro e w5 ⟨rfl, rfl⟩
            go_wp2_with fail
            go_roundw
            case rel => exact ⟨m + 1, t, a, by omega, by go_num, rfl, ht, rfl, HT2, HA2, hbi⟩
            case measure => simp [intOf]; omega
          · rw [hbit] at HIN
            obtain ⟨ad', hAd', _, hc'⟩ := hP1.p_at hlm'
            subst hAd'
            have b3 : (m : Int) < P.length := by omega
            have hr := HRNG.out m hlm'
            have HA2 := Lib.hid (HA1.out hbit)
            have htt : t + 1 ≤ 7 ∨ topB E (pz P) k m = false := by
              cases h : topB E (pz P) k m
              · exact .inr rfl
              · left
                have h1 := HT1.out h
                have h2 := cntB_le (topB E (pz P) k) (m + 1)
                have h3 := HT.out
                omega
            by_cases hp : pz P m < 0
            · have htop : topB E (pz P) k m = true := by unfold topB; rw [hbit, decide_eq_true hp]; rfl
              have ht1 : t + 1 ≤ 7 := by rcases htt with h | h; exact h; rw [htop] at h; cases h
              have HT2 : Hid (t + 1 = cntB (topB E (pz P) k) (m + 1)) := Lib.hid (by rw [HT1.out htop, HT.out])
              generalize ed E m = x at hc HIN
              generalize pz P m = z at hc' hp
              have hd : decide (z < 0) = true := decide_eq_true hp
              clear hbit htop htt hr
              go_wp2_with fail
              refine (HIN.out _).mono ?_
              rintro e w5 ⟨rfl, rfl⟩
              go_wp2_with fail
              go_quiet (fail)
              go_wp2_with fail
              go_roundw
              case rel => exact ⟨m + 1, t + 1, true, by omega, by go_num, by go_num, ht1, rfl, HT2, HA2, below_drewN hbi _⟩
              case measure => simp [intOf]; omega
            · obtain ⟨q, hq⟩ := Int.eq_ofNat_of_zero_le (show 0 ≤ pz P m by omega)
              have hqE : q < E.length := by have := HL.out; omega
              obtain ⟨ad3, hA3, _, hc3⟩ := hE1.e_at hqE
              obtain rfl : ad = ad3 := by injection hA3
              have hi2 := inB_nat (ed E q) k
              have HI2 : Hid (∀ w, Calls Try.prog 58 #[.int .u32 (uz (ed E q)), .int .i64 k] w fun e w' => e = .returned (.bool ((ed E q).getLsbD k)) ∧ w = w') := Lib.hid (fun w => by rw [← hi2]; exact in_any _ _ _)
              have htq : topB E (pz P) k m = !(ed E q).getLsbD k := by unfold topB; rw [hbit, hq, Int.toNat_natCast, decide_eq_false (by omega)]; rfl
              rw [hq] at hc'
              have hd : decide ((q : Int) < 0) = false := decide_eq_false (by omega)
              have q1 : (0 : Int) ≤ q := by omega
              have q2 : (q : Int) < E.length := by omega
              have q3 : ¬ (q : Int) < 0 := by omega
              cases hqb : (ed E q).getLsbD k
              · rw [hqb] at HI2 htq
                have ht1 : t + 1 ≤ 7 := by rcases htt with h | h; exact h; rw [htq] at h; cases h
                have HT2 : Hid (t + 1 = cntB (topB E (pz P) k) (m + 1)) := Lib.hid (by rw [HT1.out htq, HT.out])
                generalize ed E m = x at hc HIN
                generalize ed E q = y at hc3 HI2
                clear hbit htq htt hr hp hq hqb hi2 hA3
                go_wp2_with fail
                refine (HIN.out _).mono ?_
                rintro e w5 ⟨rfl, rfl⟩
                go_wp2_with fail
                go_quiet ((go_at_call 58; exact pure_quiet HI2.out))
                go_wp2_with fail
                go_roundw
                case rel => exact ⟨m + 1, t + 1, true, by omega, by go_num, by go_num, ht1, rfl, HT2, HA2, below_drewN hbi _⟩
                case measure => simp [intOf]; omega
              · rw [hqb] at HI2 htq
                have HT2 : Hid (t = cntB (topB E (pz P) k) (m + 1)) := Lib.hid (by rw [HT0.out htq, HT.out])
                generalize ed E m = x at hc HIN
                generalize ed E q = y at hc3 HI2
                clear hbit htq htt hr hp hq hqb hi2 hA3
                go_wp2_with fail
                refine (HIN.out _).mono ?_
                rintro e w5 ⟨rfl, rfl⟩
                go_wp2_with fail
                go_quiet ((go_at_call 58; exact pure_quiet HI2.out))
                go_wp2_with fail
                go_roundw
                case rel => exact ⟨m + 1, t, true, by omega, by go_num, rfl, ht, rfl, HT2, HA2, below_drewN hbi _⟩
                case measure => simp [intOf]; omega
        · obtain rfl : m = E.length := by omega
          have hv := vOk_of HT.out HA.out
          cases a
          · have HK := Lib.hid (HN.out hv)
            clear hv
            go_wp2_with fail
            go_roundw
            case rel => exact ⟨k + 1, by omega, by go_num, HK, hbi⟩
            case measure => simp [intOf]; omega
          · by_cases h1 : t = 1
            · subst h1
              have HK := Lib.hid (HN.out hv)
              clear hv
              go_wp2_with fail
              go_roundw
              case rel => exact ⟨k + 1, by omega, by go_num, HK, hbi⟩
              case measure => simp [intOf]; omega
            · have hd : ((t : Int) != 1) = true := by simp; omega
              have hf : Hid (joinedB V E (pz P) = false) := Lib.hid (HF.out (by rw [hv]; simp; omega))
              clear hv h1
              go_wp2_with fail
              go_ret
              exact ⟨by first | rfl | (rw [hf.out]; rfl), bthen hb0 hbi⟩
    · obtain rfl : k = V := by omega
      have hf : Hid (joinedB k E (pz P) = true) := Lib.hid (jnTo_all hok.out)
      go_wp2_with fail
      go_ret
      exact ⟨by first | rfl | (rw [hf.out]; rfl), bthen hb0 hb⟩
end Go.Proofs.Ytkenbmelhfhidaa
