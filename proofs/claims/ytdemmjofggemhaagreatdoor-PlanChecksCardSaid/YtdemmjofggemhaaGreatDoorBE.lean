/- Several texts in one: JtW9 JtW10 SortA SortB Rest Acyc. -/
import Derived.Test.YtdemmjofggemhaaGreatDoorBC
import Derived.Test.YtdemmjofggemhaaGreatDoorBD
import Derived.StillTailTactics
import Derived.Test.YtdemmjofggemhaaGreatDoorBB
/- The contracts of osierref15.rooted and Joined. -/
namespace Go.Proofs.YtdemmjofggemhaaGreatDoor
open Go.RowKit

attribute [local go_sem ↓] uz_and uz_or uz_andNot uz_and_one uz_shr uz_shl_one uz_shl uz_sub uz_sub_one uz_add uz_beq_zero uz_bne_zero uz_beq uz_bne uz_beq_one

/-- All edges below k come to the root. -/
def rtTo (n : Nat) (p : Nat → Int) (k : Nat) : Prop := ∀ i : Nat, i < k → up p n (i : Int) < 0
theorem rtTo_next {n k : Nat} {p : Nat → Int} (h : rtTo n p k) (hk : up p n (k : Int) < 0) : rtTo n p (k + 1) := fun i hi => by
  by_cases e : i = k
  · subst e; exact hk
  · exact h i (by omega)
theorem rtTo_all {n : Nat} {p : Nat → Int} (h : rtTo n p n) : rootedB n p = true := by
  unfold rootedB; rw [List.all_eq_true]
  intro i hi; simpa using h i (List.mem_range.1 hi)
theorem rt_false {n k : Nat} {p : Nat → Int} (hk : k < n) (h : ¬ up p n (k : Int) < 0) : rootedB n p = false := by
  unfold rootedB; rw [List.all_eq_false]
  exact ⟨k, List.mem_range.2 hk, by simpa using h⟩

set_option maxHeartbeats 2000000 in
set_option maxRecDepth 100000 in
theorem rooted_any (A : Option Addr) (P : List Int) (c : Nat) (w : World) (hl : P.length ≤ 35184372087808) (hP : Rd w w.heap.size A (is P)) (rng : ∀ i, i < P.length → -1 ≤ pz P i ∧ pz P i < P.length) :
    Calls Tryz.prog 85 #[.slice A P.length c] w fun e w' => e = .returned (.bool (rootedB P.length (pz P))) ∧ w = w' := by
  have HRNG := Lib.hid rng
  clear rng
  go_enter Tryz.func85, Tryz.ntmps85
  go_wp2_with fail
  go_loop [3, 4, 5] (fun j _ _ => ∃ k : Nat, k ≤ P.length ∧ j = .int .i64 k ∧ Hid (rtTo P.length (pz P) k)) (fun j _ _ => P.length - (intOf j).toNat)
  case atStart => exact ⟨0, Nat.zero_le _, rfl, Lib.hid (fun i hi => absurd hi (Nat.not_lt_zero i))⟩
  case round =>
    obtain ⟨k, hk, rfl, hok⟩ := hrel
    by_cases hlt : k < P.length
    · have HN := Lib.hid (rtTo_next hok.out)
      have HF := Lib.hid (rt_false (p := pz P) hlt)
      go_wp2_with fail
      go_loop [4, 5] (fun at_ st => ∃ (m : Nat) (y : Int), m ≤ P.length ∧ st = .int .i64 m ∧ at_ = .int .i64 y ∧ -1 ≤ y ∧ y < P.length ∧ Hid (up (pz P) (P.length - m) y = up (pz P) P.length (k : Int))) (fun _ st => P.length - (intOf st).toNat)
      case atStart => exact ⟨0, k, Nat.zero_le _, rfl, rfl, by omega, by omega, rfl⟩
      case round =>
        obtain ⟨m, y, hm, rfl, rfl, hy1, hy2, hup⟩ := hrel
        by_cases hy : y = -1
        · subst hy
          have hu : up (pz P) P.length (k : Int) < 0 := by rw [← hup.out, up_neg _ (by omega) _]; omega
          have HK := Lib.hid (HN.out hu)
          clear hu
          go_wp2_with fail
          go_round
          case rel => exact ⟨k + 1, by omega, by go_num, HK⟩
          case measure => simp [intOf]; omega
        · obtain ⟨j, rfl⟩ := Int.eq_ofNat_of_zero_le (show 0 ≤ y by omega)
          have hj : j < P.length := by omega
          have d1 : (0 : Int) ≤ j := by omega
          have d2 : (j : Int) < P.length := by omega
          by_cases hmn : m < P.length
          · obtain ⟨ad, hA, _, hc⟩ := hP.p_at hj
            subst hA
            have hr := HRNG.out j hj
            have HU2 : Hid (up (pz P) (P.length - (m + 1)) (pz P j) = up (pz P) P.length (k : Int)) := Lib.hid (by
              rw [← hup.out, show P.length - m = (P.length - (m + 1)) + 1 by omega, up_nat])
            generalize pz P j = z at hc hr HU2
            clear hy
            go_wp2_with fail
            go_round
            case rel => exact ⟨m + 1, z, by omega, by go_num, rfl, by omega, by omega, HU2⟩
            case measure => simp [intOf]; omega
          · obtain rfl : m = P.length := by omega
            have hf : Hid (rootedB P.length (pz P) = false) := Lib.hid (HF.out (by rw [← hup.out, Nat.sub_self]; first | (show (0 : Int) ≤ ((j : Nat) : Int); omega) | (show ¬ ((j : Nat) : Int) < 0; omega)))
            clear hy
            go_wp2_with fail
            go_ret
            exact ⟨by first | rfl | (rw [hf.out]; rfl), rfl⟩
    · obtain rfl : k = P.length := by omega
      have hf : Hid (rootedB P.length (pz P) = true) := Lib.hid (rtTo_all hok.out)
      go_wp2_with fail
      go_ret
      exact ⟨by first | rfl | (rw [hf.out]; rfl), rfl⟩

/-- All vertices below k hang together. -/
def vOk (E : List (BitVec 32)) (p : Nat → Int) (v : Nat) : Bool := !(cntB (fun i => (ed E i).getLsbD v) E.length != 0) || (cntB (topB E p v) E.length == 1)
def jnTo (E : List (BitVec 32)) (p : Nat → Int) (k : Nat) : Prop := ∀ v : Nat, v < k → vOk E p v = true
theorem jnTo_next {E : List (BitVec 32)} {k : Nat} {p : Nat → Int} (h : jnTo E p k) (hk : vOk E p k = true) : jnTo E p (k + 1) := fun i hi => by
  by_cases e : i = k
  · subst e; exact hk
  · exact h i (by omega)
theorem jnTo_all {V : Nat} {E : List (BitVec 32)} {p : Nat → Int} (h : jnTo E p V) : joinedB V E p = true := by
  unfold joinedB; rw [List.all_eq_true]
  intro i hi; exact h i (List.mem_range.1 hi)
theorem jn_false {V k : Nat} {E : List (BitVec 32)} {p : Nat → Int} (hk : k < V) (h : vOk E p k = false) : joinedB V E p = false := by
  unfold joinedB; rw [List.all_eq_false]
  exact ⟨k, List.mem_range.2 hk, by rw [show (!(cntB (fun i => (ed E i).getLsbD k) E.length != 0) || (cntB (topB E p k) E.length == 1)) = vOk E p k from rfl, h]; simp⟩
theorem vOk_of {E : List (BitVec 32)} {p : Nat → Int} {v t : Nat} {a : Bool} (h1 : t = cntB (topB E p v) E.length) (h2 : a = (cntB (fun i => (ed E i).getLsbD v) E.length != 0)) : vOk E p v = (!a || ((t : Int) == 1)) := by
  unfold vOk
  rw [h2, h1]
  congr 1
  rw [Bool.eq_iff_iff, beq_iff_eq, beq_iff_eq]; omega
theorem cnt_none {q : Nat → Bool} {k : Nat} {a : Bool} (h : a = (cntB q k != 0)) (hk : q k = false) : a = (cntB q (k + 1) != 0) := by rw [cntB_f hk]; exact h
theorem cnt_some {q : Nat → Bool} {k : Nat} (hk : q k = true) : true = (cntB q (k + 1) != 0) := by rw [cntB_t hk]; simp

set_option maxHeartbeats 4000000 in
set_option maxRecDepth 100000 in
theorem joined_any (V : Nat) (A A' : Option Addr) (E : List (BitVec 32)) (P : List Int) (c c' : Nat) (w : World) (hV : V ≤ 30) (h7 : E.length ≤ 7) (hlen : P.length = E.length) (hE : Rd w w.heap.size A (us E)) (hP : Rd w w.heap.size A' (is P)) (rng : ∀ i, i < P.length → -1 ≤ pz P i ∧ pz P i < P.length) :
    Calls Tryz.prog 86 #[.agg #[.int .i64 V, .slice A E.length c], .slice A' P.length c'] w fun e w' => e = .returned (.bool (joinedB V E (pz P))) ∧ Below w.heap.size w w' := by
  have HRNG := Lib.hid rng
  have HL := Lib.hid hlen
  clear rng hlen
  go_enter Tryz.func86, Tryz.ntmps86
  go_wp2_with fail
  have hb0 := below_alloc w (.cells #[.int .i64 V, .slice A E.length c] 36)
  have hG0 : Row (w.alloc (.cells #[.int .i64 V, .slice A E.length c] 36)) w.heap.size 36 [.int .i64 V, .slice A E.length c] := Row.new _ _ _
  have hE0 := hE.later hb0
  have hP0 := hP.later hb0
  generalize w.alloc _ = W0 at hb0 hG0 hE0 hP0 ⊢
  have hlt0 := hG0.lt
  clear hE hP
  go_loopw [5, 6, 7, 8] (fun j _ _ _ wr => ∃ k : Nat, k ≤ V ∧ j = .int .i64 k ∧ Hid (jnTo E (pz P) k) ∧ Below W0.heap.size W0 wr) (fun j _ _ _ _ => V - (intOf j).toNat)
  case atStart => exact ⟨0, Nat.zero_le _, rfl, Lib.hid (fun i hi => absurd hi (Nat.not_lt_zero i)), Below.refl _ _⟩
  case round =>
    obtain ⟨k, hk, rfl, hok, hb⟩ := hrel
    have d0 : wr.cell? ⟨w.heap.size, 0, none⟩ = some (.int .i64 V) := (hG0.later hb).cell 0
    by_cases hlt : k < V
    · have HN := Lib.hid (jnTo_next hok.out)
      have HF := Lib.hid (jn_false (E := E) (p := pz P) hlt)
      go_wp2_with fail
      go_loopw [6, 7, 8] (fun tp an i wi => ∃ (m t : Nat) (a : Bool), m ≤ E.length ∧ i = .int .i64 m ∧ tp = .int .i64 t ∧ t ≤ 7 ∧ an = .bool a ∧ Hid (t = cntB (topB E (pz P) k) m) ∧ Hid (a = (cntB (fun i => (ed E i).getLsbD k) m != 0)) ∧ Below W0.heap.size W0 wi) (fun _ _ i _ => E.length - (intOf i).toNat)
      case atStart => exact ⟨0, 0, false, Nat.zero_le _, rfl, rfl, by omega, rfl, Lib.hid rfl, Lib.hid rfl, hb⟩
      case round =>
        obtain ⟨m, t, a, hm, rfl, rfl, ht, rfl, HT, HA, hbi⟩ := hrel
        have f1 : World.cell? wr ⟨w.heap.size, 1, none⟩ = some (.slice A E.length c) := (hG0.later hbi).cell 1
        have hE1 := hE0.later hbi
        have hP1 := hP0.later hbi
        by_cases hlm : m < E.length
        · obtain ⟨ad, hAd, _, hc⟩ := hE1.e_at hlm
          subst hAd
          have hlm' : m < P.length := by have := HL.out; omega
          have b1 : (0 : Int) ≤ m := by omega
          have b2 : (m : Int) < E.length := by omega
          have hi := inB_nat (ed E m) k
          have HIN : Hid (∀ w, Calls Tryz.prog 38 #[.int .u32 (uz (ed E m)), .int .i64 k] w fun e w' => e = .returned (.bool ((ed E m).getLsbD k)) ∧ w = w') := Lib.hid (fun w => by rw [← hi]; exact in_any _ _ _)
          have HA0 := Lib.hid (cnt_none (q := fun i => (ed E i).getLsbD k) HA.out)
          have HA1 := Lib.hid (cnt_some (q := fun i => (ed E i).getLsbD k) (k := m))
          have HT0 := Lib.hid (cntB_f (p := topB E (pz P) k) (k := m))
          have HT1 := Lib.hid (cntB_t (p := topB E (pz P) k) (k := m))
          clear hi
          cases hbit : (ed E m).getLsbD k
          · rw [hbit] at HIN
            have HA2 := Lib.hid (HA0.out hbit)
            have HT2 := Lib.hid (HT.out.trans (HT0.out (by unfold topB; rw [hbit]; rfl)).symm)
            generalize ed E m = x at hc HIN
            clear hbit
            go_wp2_with fail
            refine (HIN.out _).mono ?_
            rintro e w5 ⟨rfl, rfl⟩
            go_wp2_with fail
            go_roundw
            case rel => exact ⟨m + 1, t, a, by omega, by go_num, rfl, ht, rfl, HT2, HA2, hbi⟩
            case measure => simp [intOf]; omega
          · rw [hbit] at HIN
            obtain ⟨ad', hAd', _, hc'⟩ := hP1.p_at hlm'
            subst hAd'
            have b3 : (m : Int) < P.length := by omega
            have hr := HRNG.out m hlm'
            have HA2 := Lib.hid (HA1.out hbit)
            have htt : t + 1 ≤ 7 ∨ topB E (pz P) k m = false := by
              cases h : topB E (pz P) k m
              · exact .inr rfl
              · left
                have h1 := HT1.out h
                have h2 := cntB_le (topB E (pz P) k) (m + 1)
                have h3 := HT.out
                omega
            by_cases hp : pz P m < 0
            · have htop : topB E (pz P) k m = true := by unfold topB; rw [hbit, decide_eq_true hp]; rfl
              have ht1 : t + 1 ≤ 7 := by rcases htt with h | h; exact h; rw [htop] at h; cases h
              have HT2 : Hid (t + 1 = cntB (topB E (pz P) k) (m + 1)) := Lib.hid (by rw [HT1.out htop, HT.out])
              generalize ed E m = x at hc HIN
              generalize pz P m = z at hc' hp
              have hd : decide (z < 0) = true := decide_eq_true hp
              clear hbit htop htt hr
              go_wp2_with fail
              refine (HIN.out _).mono ?_
              rintro e w5 ⟨rfl, rfl⟩
              go_wp2_with fail
              go_quiet (fail)
              go_wp2_with fail
              go_roundw
              case rel => exact ⟨m + 1, t + 1, true, by omega, by go_num, by go_num, ht1, rfl, HT2, HA2, below_drewN hbi _⟩
              case measure => simp [intOf]; omega
            · obtain ⟨q, hq⟩ := Int.eq_ofNat_of_zero_le (show 0 ≤ pz P m by omega)
              have hqE : q < E.length := by have := HL.out; omega
              obtain ⟨ad3, hA3, _, hc3⟩ := hE1.e_at hqE
              obtain rfl : ad = ad3 := by injection hA3
              have hi2 := inB_nat (ed E q) k
              have HI2 : Hid (∀ w, Calls Tryz.prog 38 #[.int .u32 (uz (ed E q)), .int .i64 k] w fun e w' => e = .returned (.bool ((ed E q).getLsbD k)) ∧ w = w') := Lib.hid (fun w => by rw [← hi2]; exact in_any _ _ _)
              have htq : topB E (pz P) k m = !(ed E q).getLsbD k := by unfold topB; rw [hbit, hq, Int.toNat_natCast, decide_eq_false (by omega)]; rfl
              rw [hq] at hc'
              have hd : decide ((q : Int) < 0) = false := decide_eq_false (by omega)
              have q1 : (0 : Int) ≤ q := by omega
              have q2 : (q : Int) < E.length := by omega
              have q3 : ¬ (q : Int) < 0 := by omega
              cases hqb : (ed E q).getLsbD k
              · rw [hqb] at HI2 htq
                have ht1 : t + 1 ≤ 7 := by rcases htt with h | h; exact h; rw [htq] at h; cases h
                have HT2 : Hid (t + 1 = cntB (topB E (pz P) k) (m + 1)) := Lib.hid (by rw [HT1.out htq, HT.out])
                generalize ed E m = x at hc HIN
                generalize ed E q = y at hc3 HI2
                clear hbit htq htt hr hp hq hqb hi2 hA3
                go_wp2_with fail
                refine (HIN.out _).mono ?_
                rintro e w5 ⟨rfl, rfl⟩
                go_wp2_with fail
                go_quiet ((go_at_call 38; exact pure_quiet HI2.out))
                go_wp2_with fail
                go_roundw
                case rel => exact ⟨m + 1, t + 1, true, by omega, by go_num, by go_num, ht1, rfl, HT2, HA2, below_drewN hbi _⟩
                case measure => simp [intOf]; omega
              · rw [hqb] at HI2 htq
                have HT2 : Hid (t = cntB (topB E (pz P) k) (m + 1)) := Lib.hid (by rw [HT0.out htq, HT.out])
                generalize ed E m = x at hc HIN
                generalize ed E q = y at hc3 HI2
                clear hbit htq htt hr hp hq hqb hi2 hA3
                go_wp2_with fail
                refine (HIN.out _).mono ?_
                rintro e w5 ⟨rfl, rfl⟩
                go_wp2_with fail
                go_quiet ((go_at_call 38; exact pure_quiet HI2.out))
                go_wp2_with fail
                go_roundw
                case rel => exact ⟨m + 1, t, true, by omega, by go_num, rfl, ht, rfl, HT2, HA2, below_drewN hbi _⟩
                case measure => simp [intOf]; omega
        · obtain rfl : m = E.length := by omega
          have hv := vOk_of HT.out HA.out
          cases a
          · have HK := Lib.hid (HN.out hv)
            clear hv
            go_wp2_with fail
            go_roundw
            case rel => exact ⟨k + 1, by omega, by go_num, HK, hbi⟩
            case measure => simp [intOf]; omega
          · by_cases h1 : t = 1
            · subst h1
              have HK := Lib.hid (HN.out hv)
              clear hv
              go_wp2_with fail
              go_roundw
              case rel => exact ⟨k + 1, by omega, by go_num, HK, hbi⟩
              case measure => simp [intOf]; omega
            · have hd : ((t : Int) != 1) = true := by simp; omega
              have hf : Hid (joinedB V E (pz P) = false) := Lib.hid (HF.out (by rw [hv]; simp; omega))
              clear hv h1
              go_wp2_with fail
              go_ret
              exact ⟨by first | rfl | (rw [hf.out]; rfl), bthen hb0 hbi⟩
    · obtain rfl : k = V := by omega
      have hf : Hid (joinedB k E (pz P) = true) := Lib.hid (jnTo_all hok.out)
      go_wp2_with fail
      go_ret
      exact ⟨by first | rfl | (rw [hf.out]; rfl), bthen hb0 hb⟩
end Go.Proofs.YtdemmjofggemhaaGreatDoor

/- The contracts of osierref15.grow and Exists. -/
namespace Go.Proofs.YtdemmjofggemhaaGreatDoor
open Go.RowKit

attribute [local go_sem ↓] uz_and uz_or uz_andNot uz_and_one uz_shr uz_shl_one uz_shl uz_sub uz_sub_one uz_add uz_beq_zero uz_bne_zero uz_beq uz_bne uz_beq_one

theorem gthen {a b c : World} {r : Option Nat} (h : a.grownBy b r) (k : b.grownBy c r) : a.grownBy c r :=
  ⟨k.os.trans h.os, k.tape.trans h.tape, k.output.trans h.output, Nat.le_trans h.size k.size, fun i hi hn => (k.block i (Nat.lt_of_lt_of_le hi h.size) hn).trans (h.block i hi hn)⟩

def nearP (n i : Nat) (p q : Nat → Int) : Prop := ∀ j, (j < i ∨ n ≤ j) → q j = p j
def rngP (n : Nat) (p : Nat → Int) : Prop := ∀ i, i < n → -1 ≤ p i ∧ p i < n
theorem growB_near {V : Nat} {E : List (BitVec 32)} {m : Nat} {p q : Nat → Int} (hm : m ≤ E.length) (h : ∀ j, (j < E.length - m ∨ E.length ≤ j) → q j = p j) : growB V E m p = growB V E m q := by
  rw [Bool.eq_iff_iff, growB_iff m hm, growB_iff m hm]
  constructor
  · rintro ⟨r, h1, h2, h3, h4⟩
    exact ⟨r, fun i hi => (h1 i hi).trans (h i (.inl hi)).symm, h2, fun i hi => (h3 i hi).trans (h i (.inr hi)).symm, h4⟩
  · rintro ⟨r, h1, h2, h3, h4⟩
    exact ⟨r, fun i hi => (h1 i hi).trans (h i (.inl hi)), h2, fun i hi => (h3 i hi).trans (h i (.inr hi)), h4⟩
/-- None of the first k does as the parent of edge i. -/
def grTo (V : Nat) (E : List (BitVec 32)) (m i : Nat) (p : Nat → Int) (k : Nat) : Prop := ∀ q : Nat, q < k → q ≠ i → growB V E m (updI p i q) = false
theorem grTo_skip {V : Nat} {E : List (BitVec 32)} {m i : Nat} {p : Nat → Int} (h : grTo V E m i p i) : grTo V E m i p (i + 1) := fun q hq hn => h q (by omega) hn
theorem grTo_next {V : Nat} {E : List (BitVec 32)} {m i k : Nat} {p : Nat → Int} (h : grTo V E m i p k) (hk : growB V E m (updI p i k) = false) : grTo V E m i p (k + 1) := fun q hq hn => by
  by_cases e : q = k
  · subst e; exact hk
  · exact h q (by omega) hn
theorem grTo_all {V : Nat} {E : List (BitVec 32)} {m i : Nat} {p : Nat → Int} (hi : i + (m + 1) = E.length) (h : grTo V E m i p E.length) : growB V E (m + 1) p = false := by
  unfold growB
  rw [List.any_eq_false]
  intro q hq
  have hq := List.mem_range.1 hq
  rw [show E.length - (m + 1) = i by omega]
  by_cases e : q = i
  · subst e; simp
  · rw [h q hq e]; simp
theorem gr_true {V : Nat} {E : List (BitVec 32)} {m i k : Nat} {p : Nat → Int} (hi : i + (m + 1) = E.length) (hk : k < E.length) (hn : k ≠ i) (h : growB V E m (updI p i k) = true) : growB V E (m + 1) p = true := by
  unfold growB
  rw [List.any_eq_true]
  refine ⟨k, List.mem_range.2 hk, ?_⟩
  rw [show E.length - (m + 1) = i by omega, h]
  simp [hn]
theorem pz_rowOf {n i : Nat} {p : Nat → Int} (h : i < n) : pz (rowOf n p) i = p i := by
  unfold pz rowOf
  simp [h]
theorem rooted_row {n : Nat} {p : Nat → Int} (hr : rngP n p) : rootedB n (pz (rowOf n p)) = rootedB n p := by
  unfold rootedB
  rw [Bool.eq_iff_iff, List.all_eq_true, List.all_eq_true]
  have h : ∀ i, i < n → up (pz (rowOf n p)) n (i : Int) = up p n (i : Int) := fun i hi => (up_congr (fun j hj => (pz_rowOf hj).symm) (fun j hj => (hr j hj).2) n (i : Int) (by omega)).symm
  constructor
  · intro a i hi; rw [← h i (List.mem_range.1 hi)]; exact a i hi
  · intro a i hi; rw [h i (List.mem_range.1 hi)]; exact a i hi
theorem joined_row {V : Nat} {E : List (BitVec 32)} {p : Nat → Int} : joinedB V E (pz (rowOf E.length p)) = joinedB V E p := joinedB_congr fun _ hi => pz_rowOf hi

def GrowPost (V : Nat) (E : List (BitVec 32)) (g i m : Nat) (p : Nat → Int) (w : World) (e : Ending) (w' : World) : Prop :=
  e = .returned (.bool (growB V E m p)) ∧ w.grownBy w' (some g) ∧ ∃ q, Row w' g 3 (is (rowOf E.length q)) ∧ Hid (nearP E.length i p q) ∧ Hid (rngP E.length q)

set_option maxHeartbeats 4000000 in
set_option maxRecDepth 100000 in
theorem grow_end (V : Nat) (A : Option Addr) (E : List (BitVec 32)) (c g : Nat) (hV : V ≤ 30) (h7 : E.length ≤ 7) (p : Nat → Int) (w : World) (hE : Rd w g A (us E)) (hR : Row w g 3 (is (rowOf E.length p))) (hr : rngP E.length p) :
    Calls Tryz.prog 56 #[.agg #[.int .i64 V, .slice A E.length c], .slice (some ⟨g, 0, none⟩) E.length E.length, .int .i64 E.length] w (GrowPost V E g E.length 0 p w) := by
  have hb0 := below_alloc w (.cells #[.int .i64 V, .slice A E.length c] 36)
  have hG0 : Row (w.alloc (.cells #[.int .i64 V, .slice A E.length c] 36)) w.heap.size 36 [.int .i64 V, .slice A E.length c] := Row.new _ _ _
  have hR0 := hR.later hb0
  have hE0 := (hE.below (hb0.mono (Nat.le_of_lt hR.lt))).mono (Nat.le_of_lt hR0.lt)
  have hgr : w.grownBy _ (some g) := grown_below hb0 _
  have hrz : ∀ i, i < (rowOf E.length p).length → -1 ≤ pz (rowOf E.length p) i ∧ pz (rowOf E.length p) i < (rowOf E.length p).length := fun i hi => by
    rw [rowOf_length] at hi ⊢
    rw [pz_rowOf hi]; exact hr i hi
  go_enter Tryz.func56, Tryz.ntmps56
  go_wp2_with fail
  generalize w.alloc _ = W0 at hb0 hG0 hR0 hE0 hgr ⊢
  have d0 : W0.cell? ⟨w.heap.size, 0, none⟩ = some (.int .i64 V) := hG0.cell 0
  have d1 : W0.cell? ⟨w.heap.size, 1, none⟩ = some (.slice A E.length c) := hG0.cell 1
  have H1 := rooted_any (some ⟨g, 0, none⟩) (rowOf E.length p) E.length W0 (by simp; omega) hR0.rd hrz
  have H2 := joined_any V A (some ⟨g, 0, none⟩) E (rowOf E.length p) c E.length W0 hV h7 (by simp) hE0 hR0.rd hrz
  rw [rowOf_length, rooted_row hr] at H1
  rw [rowOf_length, joined_row] at H2
  have hf : growB V E 0 p = (rootedB E.length p && joinedB V E p) := rfl
  have HX1 := Lib.hid H1
  have HX2 := Lib.hid H2
  have HF := Lib.hid hf
  have HE : Hid (∀ w', Below W0.heap.size W0 w' → GrowPost V E g E.length 0 p w (.returned (.bool (growB V E 0 p))) w') := Lib.hid fun w' hb =>
    ⟨rfl, gthen hgr (grown_below hb _), p, hR0.later hb, Lib.hid fun _ _ => rfl, Lib.hid hr⟩
  clear H1 H2 hf hrz hR0 hE0 hgr hR hE hr hb0
  rw [HF.out] at HE
  clear HF
  generalize joinedB V E p = b at HX2 HE
  generalize rootedB E.length p = a at HX1 HE
  cases a
  · go_wp2_with fail
    refine HX1.out.mono ?_
    rintro e w1 ⟨rfl, rfl⟩
    go_wp2_with fail
    go_ret
    exact HE.out _ (Below.refl _ _)
  · go_wp2_with fail
    refine HX1.out.mono ?_
    rintro e w1 ⟨rfl, rfl⟩
    go_wp2_with fail
    refine HX2.out.mono ?_
    rintro e w1 ⟨rfl, hb⟩
    go_wp2_with fail
    go_ret
    exact HE.out _ hb

set_option maxHeartbeats 4000000 in
set_option maxRecDepth 100000 in
theorem grow_any (V : Nat) (A : Option Addr) (E : List (BitVec 32)) (c g : Nat) (hV : V ≤ 30) (h7 : E.length ≤ 7) : ∀ (m i : Nat), i + m = E.length → ∀ (p : Nat → Int) (w : World), Rd w g A (us E) → Row w g 3 (is (rowOf E.length p)) → rngP E.length p →
    Calls Tryz.prog 56 #[.agg #[.int .i64 V, .slice A E.length c], .slice (some ⟨g, 0, none⟩) E.length E.length, .int .i64 i] w (GrowPost V E g i m p w)
  | 0, i, hi, p, w, hE, hR, hr => by
    obtain rfl : i = E.length := by omega
    exact grow_end V A E c g hV h7 p w hE hR hr
  | m + 1, i, hi, p, w, hE, hR, hr => by
    have IH := Lib.hid (grow_any V A E c g hV h7 m (i + 1) (by omega))
    have hb0 := below_alloc w (.cells #[.int .i64 V, .slice A E.length c] 36)
    have hG0 : Row (w.alloc (.cells #[.int .i64 V, .slice A E.length c] 36)) w.heap.size 36 [.int .i64 V, .slice A E.length c] := Row.new _ _ _
    have hR0 := hR.later hb0
    have hE0 := hE.below (hb0.mono (Nat.le_of_lt hR.lt))
    have hgr : w.grownBy _ (some g) := grown_below hb0 _
    have hgw : g ≠ w.heap.size := by have := hR.lt; omega
    have hni : ((i : Int) == (E.length : Int)) = false := by rw [beq_eq_false_iff_ne]; omega
    have hiE : i < E.length := by omega
    have HR := Lib.hid hr
    have HI := Lib.hid hi
    clear hr hi
    go_enter Tryz.func56, Tryz.ntmps56
    go_wp2_with fail
    generalize w.alloc _ = W0 at hb0 hG0 hR0 hE0 hgr ⊢
    go_loopw [7] (fun x wr => ∃ (k : Nat) (q : Nat → Int), k ≤ E.length ∧ x = .int .i64 k ∧ Hid (grTo V E m i p k) ∧ Row wr g 3 (is (rowOf E.length q)) ∧ Hid (nearP E.length i p q) ∧ Hid (rngP E.length q) ∧ W0.grownBy wr (some g)) (fun x _ => E.length - (intOf x).toNat)
    case atStart => exact ⟨0, p, Nat.zero_le _, rfl, Lib.hid (fun q hq => absurd hq (Nat.not_lt_zero q)), hR0, Lib.hid (fun _ _ => rfl), HR, World.grownBy.refl _ _⟩
    case round =>
      obtain ⟨k, q, hk, rfl, HT, hRk, HN, HQ, hgk⟩ := hrel
      have hGk := hG0.grown hgk (fun h => hgw (by injection h))
      have d0 : wr.cell? ⟨w.heap.size, 0, none⟩ = some (.int .i64 V) := hGk.cell 0
      have d1 : wr.cell? ⟨w.heap.size, 1, none⟩ = some (.slice A E.length c) := hGk.cell 1
      by_cases hlt : k < E.length
      · have b1 : (0 : Int) ≤ k := by omega
        have b2 : (k : Int) < E.length := by omega
        by_cases hki : k = i
        · subst hki
          have HT2 := Lib.hid (grTo_skip HT.out)
          have hkk : ((k : Int) != (k : Int)) = false := by simp
          go_wp2_with fail
          go_roundw
          case rel => exact ⟨k + 1, q, by omega, by go_num, HT2, hRk, HN, HQ, hgk⟩
          case measure => simp [intOf]; omega
        · have hkk : ((k : Int) != (i : Int)) = true := by simp; omega
          have c1 : wr.cell? ⟨g, i, none⟩ = some (.int .i64 (q i)) := (hRk.cell i).trans (rowOf_at _ _ _ hiE)
          have c2 := hRk.frozen i
          have c3 : g < wr.heap.size := hRk.lt
          have b3 : (0 : Int) ≤ i := by omega
          have b4 : (i : Int) < E.length := by omega
          have e0 : (wr.setCell ⟨g, i, none⟩ (.int .i64 k)).cell? ⟨w.heap.size, 0, none⟩ = some (.int .i64 V) := (hGk.far (p := ⟨g, i, none⟩) (fun h => hgw h.symm) _).cell 0
          have e1 : (wr.setCell ⟨g, i, none⟩ (.int .i64 k)).cell? ⟨w.heap.size, 1, none⟩ = some (.slice A E.length c) := (hGk.far (p := ⟨g, i, none⟩) (fun h => hgw h.symm) _).cell 1
          have hR1 : Row (wr.setCell ⟨g, i, none⟩ (.int .i64 k)) g 3 (is (rowOf E.length (updI q i k))) := by
            have := hRk.set_ i (.int .i64 k)
            rw [rowOf_set] at this
            exact this
          have hg1 := grown_set hgk i (.int .i64 k)
          have hE1 : Rd (wr.setCell ⟨g, i, none⟩ (.int .i64 k)) g A (us E) := hE0.below (grown_to_below hg1 (Nat.le_refl _) (Nat.le_of_lt hR0.lt))
          have HQ1 : Hid (rngP E.length (updI q i k)) := Lib.hid (fun j hj => by
            unfold updI; split
            · omega
            · exact HQ.out j hj)
          have HV : Hid (growB V E m (updI q i k) = growB V E m (updI p i k)) := Lib.hid (growB_near (by have := HI.out; omega) (fun j hj => by
            unfold updI; split
            · rfl
            · rename_i hne
              exact (HN.out j (by have := HI.out; rcases hj with h | h; left; omega; right; exact h)).symm))
          have HC := Lib.hid (IH.out (updI q i k) _ hE1 hR1 HQ1.out)
          have HTR := Lib.hid (gr_true (V := V) (p := p) HI.out hlt hki)
          have HTN := Lib.hid (fun h => grTo_next (k := k) HT.out h)
          have HNE : Hid (∀ r, nearP E.length (i + 1) (updI q i k) r → nearP E.length i p r) := Lib.hid (fun r h j hj => by
            rw [h j (by rcases hj with a | a; left; omega; right; exact a)]
            unfold updI; rw [if_neg (by omega)]; exact HN.out j hj)
          clear hRk hGk hE0 HQ1 hgk
          rw [show ((i + 1 : Nat) : Int) = (i : Int) + 1 by omega] at HC
          go_wp2_with fail
          refine HC.out.mono ?_
          rintro e w5 ⟨rfl, hg5, r, hr5, hn5, hq5⟩
          have hgz := gthen hg1 hg5
          have HN5 := Lib.hid (HNE.out r hn5.out)
          rw [HV.out]
          clear HC HV HNE hg1 hg5 hR1 hE1 e0 e1 c1 c2 d0 d1 c3 hn5
          generalize growB V E m (updI p i k) = b at HTR HTN
          cases b
          · have HT2 := Lib.hid (HTN.out rfl)
            go_wp2_with fail
            go_roundw
            case rel => exact ⟨k + 1, r, by omega, by go_num, HT2, hr5, HN5, hq5, hgz⟩
            case measure => simp [intOf]; omega
          · have HF := Lib.hid (HTR.out rfl)
            go_wp2_with fail
            go_ret
            exact ⟨by rw [HF.out]; rfl, gthen hgr hgz, r, hr5, HN5, hq5⟩
      · obtain rfl : k = E.length := by omega
        have HF : Hid (growB V E (m + 1) p = false) := Lib.hid (grTo_all HI.out HT.out)
        go_wp2_with fail
        go_ret
        exact ⟨by rw [HF.out]; rfl, gthen hgr hgk, q, hRk, HN, HQ⟩

theorem existsB_pos {V : Nat} {E : List (BitVec 32)} (h : 0 < E.length) : existsB V E = growB V E (E.length - 1) (updI (fun _ => 0) 0 (-1)) := by
  unfold existsB
  cases E with
  | nil => cases h
  | cons => rfl

set_option maxHeartbeats 4000000 in
set_option maxRecDepth 100000 in
theorem exists_any (V : Nat) (A : Option Addr) (E : List (BitVec 32)) (c : Nat) (w : World) (hV : V ≤ 30) (h7 : E.length ≤ 7) (hE : Rd w w.heap.size A (us E)) :
    Calls Tryz.prog 18 #[.agg #[.int .i64 V, .slice A E.length c]] w fun e w' => e = .returned (.bool (existsB V E)) ∧ Below w.heap.size w w' := by
  have hmk := mk_int E.length (by omega)
  go_enter Tryz.func18, Tryz.ntmps18
  go_upto_region 1 with fail
  have hb0 := below_alloc w (.cells #[.int .i64 V, .slice A E.length c] 36)
  have hG0 : Row (w.alloc (.cells #[.int .i64 V, .slice A E.length c] 36)) w.heap.size 36 [.int .i64 V, .slice A E.length c] := Row.new _ _ _
  have hE0 := hE.later hb0
  generalize w.alloc _ = W0 at hb0 hG0 hE0 ⊢
  have d0 : W0.cell? ⟨w.heap.size, 0, none⟩ = some (.int .i64 V) := hG0.cell 0
  have d1 : W0.cell? ⟨w.heap.size, 1, none⟩ = some (.slice A E.length c) := hG0.cell 1
  rcases Nat.eq_zero_or_pos E.length with h0 | h0
  · have hf : Hid (existsB V E = true) := Lib.hid (by unfold existsB; rw [List.eq_nil_of_length_eq_zero h0]; rfl)
    have h0' : ((E.length : Int) == 0) = true := by simp [h0]
    clear hmk h0
    go_wp2_with fail
    go_ret
    exact ⟨by rw [hf.out]; rfl, hb0⟩
  · have h0' : ((E.length : Int) == 0) = false := by rw [beq_eq_false_iff_ne]; omega
    have HE := Lib.hid (existsB_pos (V := V) h0)
    have hlt0 := hG0.lt
    have h1 : (0 : Int) < E.length := by omega
    go_upto_region 4 with fail
    have hb1 := below_alloc W0 (.cells (zeros (.int .i64 0) E.length).toArray 3)
    have hR1 : Row (W0.alloc (.cells (zeros (.int .i64 0) E.length).toArray 3)) W0.heap.size 3 (is (rowOf E.length fun _ => 0)) := by
      have : is (rowOf E.length fun _ => 0) = zeros (.int .i64 0) E.length := by unfold is rowOf zeros; rw [List.map_map]; apply List.ext_getElem?; intro i; by_cases h : i < E.length <;> simp [h]
      rw [this]; exact Row.new _ _ _
    have hG1 := hG0.later hb1
    have hE1 := hE0.below hb1
    generalize hg : W0.heap.size = g at hb1 hR1 hE1 hlt0 ⊢
    generalize W0.alloc _ = W1 at hb1 hR1 hG1 hE1 ⊢
    have c1 : W1.cell? ⟨g, 0, none⟩ = some (.int .i64 0) := (hR1.cell 0).trans (rowOf_at _ _ _ h0)
    have c2 := hR1.frozen 0
    have c3 : g < W1.heap.size := hR1.lt
    have hR2 : Row (W1.setCell ⟨g, 0, none⟩ (.int .i64 (-1))) g 3 (is (rowOf E.length (updI (fun _ => 0) 0 (-1)))) := by
      have := hR1.set_ 0 (.int .i64 (-1))
      rw [rowOf_set] at this
      exact this
    have hb2 := hb1.setCell (Nat.le_refl _) (.int .i64 (-1)) (p := ⟨g, 0, none⟩)
    have hG2 := (hG1.far (p := ⟨g, 0, none⟩) (by show w.heap.size ≠ g; omega) (.int .i64 (-1)))
    have e0 : World.cell? _ ⟨w.heap.size, 0, none⟩ = some (.int .i64 V) := hG2.cell 0
    have e1 : World.cell? _ ⟨w.heap.size, 1, none⟩ = some (.slice A E.length c) := hG2.cell 1
    have hE2 : Rd (W1.setCell ⟨g, 0, none⟩ (.int .i64 (-1))) g A (us E) := hE1.below ((Below.refl g W1).setCell (p := ⟨g, 0, none⟩) (Nat.le_refl _) _)
    have HC := Lib.hid (grow_any V A E c g hV h7 (E.length - 1) 1 (by omega) _ _ hE2 hR2 (fun j hj => by show -1 ≤ (if j = 0 then (-1 : Int) else 0) ∧ (if j = 0 then (-1 : Int) else 0) < (E.length : Int); split <;> omega))
    have hgw : w.heap.size < g := hlt0
    have hs2 : g ≤ (W1.setCell ⟨g, 0, none⟩ (.int .i64 (-1))).heap.size := Nat.le_of_lt hR2.lt
    clear hE0 hG0 d0 d1 hE1 hG1 hR1 hR2 hE2 hmk hE
    go_wp2_with fail
    refine HC.out.mono ?_
    rintro e w5 ⟨rfl, hg5, _⟩
    go_wp2_with fail
    go_ret
    refine ⟨by rw [HE.out]; rfl, hb0.trans (?_ : Below w.heap.size W0 w5)⟩
    exact (hb2.mono (Nat.le_of_lt hgw)).trans (grown_to_below hg5 (Nat.le_of_lt hgw) (Nat.le_trans (Nat.le_of_lt hgw) hs2))
end Go.Proofs.YtdemmjofggemhaaGreatDoor

/- slices.Sort of few words: what it calls. -/
namespace Go.Proofs.YtdemmjofggemhaaGreatDoor
open Go.RowKit

theorem isNaN_any (x : Int) (w : World) : Calls Tryz.prog 139 #[.int .u32 x] w fun e w' => e = .returned (.bool false) ∧ w = w' := by
  go_enter Tryz.func139, Tryz.ntmps139
  go_wp2
  go_ret
  exact ⟨by first | rfl | simp, rfl⟩
theorem less_any (x y : Int) (w : World) : Calls Tryz.prog 128 #[.int .u32 x, .int .u32 y] w fun e w' => e = .returned (.bool (decide (x < y))) ∧ w = w' := by
  obtain ⟨b, hb⟩ : ∃ b, decide (x < y) = b := ⟨_, rfl⟩
  go_enter Tryz.func128, Tryz.ntmps128
  go_wp2_with fail
  refine (isNaN_any x w).mono ?_
  rintro e w1 ⟨rfl, rfl⟩
  go_wp2_with fail
  go_ret
  exact ⟨by first | (rw [hb]; rfl) | rw [hb] | simp [hb], rfl⟩
set_option maxRecDepth 100000 in
theorem len64_few (n : Nat) (h : n ≤ 7) (w : World) : Calls Tryz.prog 132 #[.int .u64 n] w fun e w' => (∃ m, e = .returned (.int .i64 m)) ∧ w = w' := by
  have hc : n = 0 ∨ n = 1 ∨ n = 2 ∨ n = 3 ∨ n = 4 ∨ n = 5 ∨ n = 6 ∨ n = 7 := by omega
  rcases hc with rfl | rfl | rfl | rfl | rfl | rfl | rfl | rfl
  all_goals
    go_enter Tryz.func132, Tryz.ntmps132
    go_wp2
    go_ret
    exact ⟨⟨_, rfl⟩, rfl⟩
theorem len_few (n : Nat) (h : n ≤ 7) (w : World) : Calls Tryz.prog 117 #[.int .u64 n] w fun e w' => (∃ m, e = .returned (.int .i64 m)) ∧ w = w' := by
  go_enter Tryz.func117, Tryz.ntmps117
  go_wp2_with fail
  refine (len64_few n h w).mono ?_
  rintro e w' ⟨⟨m, rfl⟩, rfl⟩
  go_wp2
  go_ret
  exact ⟨⟨_, rfl⟩, rfl⟩

/-! ### A row whose first n words a function tells, the rest unknown -/
def srow (n : Nat) (f : Nat → BitVec 32) (R : List Value) : List Value := us (wrow n f) ++ R
theorem srow_at {n k : Nat} {f : Nat → BitVec 32} {R : List Value} (h : k < n) : (srow n f R)[k]? = some (.int .u32 (uz (f k))) := by
  unfold srow
  rw [List.getElem?_append_left (by simpa using h)]
  unfold us wrow; simp [h]
theorem srow_set {n k : Nat} {f : Nat → BitVec 32} {R : List Value} {x : BitVec 32} (h : k < n) : (srow n f R).set k (.int .u32 (uz x)) = srow n (updS f k x) R := by
  unfold srow
  rw [List.set_append_left _ _ (by simpa using h), wrow_set]

/-! ### Insertion -/
def Srtd (f : Nat → BitVec 32) (i : Nat) : Prop := ∀ a b, a < b → b < i → (f a).toNat ≤ (f b).toNat
def Insd (f : Nat → BitVec 32) (i j : Nat) : Prop := (∀ a b, a < b → b ≤ i → a ≠ j → b ≠ j → (f a).toNat ≤ (f b).toNat) ∧ ∀ b, j < b → b ≤ i → (f j).toNat ≤ (f b).toNat
def swp (f : Nat → BitVec 32) (j : Nat) : Nat → BitVec 32 := fun k => if k = j then f (j - 1) else if k = j - 1 then f j else f k
theorem Srtd.start {f : Nat → BitVec 32} {i : Nat} (h : Srtd f i) : Insd f i i := ⟨fun a b h1 h2 _ h4 => h a b h1 (by omega), fun b h1 h2 => by omega⟩
theorem Insd.step {f : Nat → BitVec 32} {i j : Nat} (h : Insd f i j) (h0 : 0 < j) (hj : j ≤ i) (hlt : (f j).toNat < (f (j - 1)).toNat) : Insd (swp f j) i (j - 1) := by
  refine ⟨fun a b h1 h2 h3 h4 => ?_, fun b h1 h2 => ?_⟩
  · unfold swp
    by_cases ha : a = j
    · subst ha
      rw [if_pos rfl, if_neg (by omega), if_neg h4]
      exact h.1 _ _ (by omega) h2 (by omega) (by omega)
    · rw [if_neg ha, if_neg h3]
      by_cases hb : b = j
      · subst hb
        rw [if_pos rfl]
        exact h.1 _ _ (by omega) (by omega) ha (by omega)
      · rw [if_neg hb, if_neg h4]
        exact h.1 _ _ h1 h2 ha hb
  · unfold swp
    rw [if_neg (by omega), if_pos rfl]
    by_cases hb : b = j
    · subst hb; rw [if_pos rfl]; omega
    · rw [if_neg hb, if_neg (by omega)]
      exact h.2 b (by omega) h2
theorem Insd.stop {f : Nat → BitVec 32} {i j : Nat} (h : Insd f i j) (hj : j ≤ i) (he : j = 0 ∨ ¬ (f j).toNat < (f (j - 1)).toNat) : Srtd f (i + 1) := by
  intro a b h1 h2
  by_cases ha : a = j
  · subst ha; exact h.2 b h1 (by omega)
  · by_cases hb : b = j
    · subst hb
      have h5 : (f (b - 1)).toNat ≤ (f b).toNat := by
        rcases he with he | he
        · omega
        · omega
      by_cases hc : a = b - 1
      · subst hc; exact h5
      · exact Nat.le_trans (h.1 a (b - 1) (by omega) (by omega) ha (by omega)) h5
    · exact h.1 a b h1 (by omega) ha hb
theorem swp_upd (f : Nat → BitVec 32) {j : Nat} (h : 0 < j) : updS (updS f j (f (j - 1))) (j - 1) (f j) = swp f j := by
  funext k
  unfold updS swp
  by_cases h1 : k = j - 1
  · simp [h1]
    omega
  · simp [h1]
theorem swp_perm {f : Nat → BitVec 32} {n j : Nat} (h : 0 < j) (hj : j < n) : (wrow n (swp f j)).Perm (wrow n f) := by
  obtain ⟨i, rfl⟩ : ∃ i, j = i + 1 := ⟨j - 1, by omega⟩
  obtain ⟨d, rfl⟩ : ∃ d, n = i + 2 + d := ⟨n - (i + 2), by omega⟩
  have e : ∀ g : Nat → BitVec 32, wrow (i + 2 + d) g = wrow i g ++ (g i :: g (i + 1) :: (List.range d).map fun k => g (i + 2 + k)) := by
    intro g
    unfold wrow
    rw [show i + 2 + d = i + (2 + d) by omega, List.range_add, List.map_append]
    congr 1
    rw [show 2 + d = d + 1 + 1 by omega, List.range_succ_eq_map, List.range_succ_eq_map]
    simp only [List.map_cons, List.map_map, Function.comp_def, Nat.add_zero]
    rw [show i + Nat.succ 0 = i + 1 by omega]
    simp only [List.cons.injEq, true_and]
    apply List.map_congr_left
    intro k _
    congr 1
    omega
  rw [e (swp f (i + 1)), e f]
  have h1 : wrow i (swp f (i + 1)) = wrow i f := by
    unfold wrow
    apply List.map_congr_left
    intro k hk
    have := List.mem_range.1 hk
    unfold swp
    rw [if_neg (by omega), if_neg (by omega)]
  have h2 : ((List.range d).map fun k => swp f (i + 1) (i + 2 + k)) = (List.range d).map fun k => f (i + 2 + k) := by
    apply List.map_congr_left
    intro k hk
    unfold swp
    rw [if_neg (by omega), if_neg (by omega)]
  rw [h1, h2]
  have h3 : swp f (i + 1) i = f (i + 1) := by unfold swp; rw [if_neg (by omega), if_pos (by omega)]
  have h4 : swp f (i + 1) (i + 1) = f i := by unfold swp; rw [if_pos rfl]; rfl
  rw [h3, h4]
  exact List.Perm.append_left _ (List.Perm.swap _ _ _)
end Go.Proofs.YtdemmjofggemhaaGreatDoor

/- The contract of slices.Sort, for few words. -/
namespace Go.Proofs.YtdemmjofggemhaaGreatDoor
open Go.RowKit

theorem lt_uz (x y : BitVec 32) : (uz x < uz y) ↔ x.toNat < y.toNat := by unfold uz; omega

def SortPost (n g : Nat) (f : Nat → BitVec 32) (R : List Value) (w w' : World) : Prop :=
  ∃ f', Row w' g 37 (srow n f' R) ∧ Hid (Srtd f' n) ∧ Hid ((wrow n f').Perm (wrow n f)) ∧ w.grownBy w' (some g)

set_option maxHeartbeats 4000000 in
set_option maxRecDepth 100000 in
theorem insertion_any (n cap g : Nat) (f : Nat → BitVec 32) (R : List Value) (w : World) (h7 : n ≤ 7) (hR : Row w g 37 (srow n f R)) :
    Calls Tryz.prog 122 #[.slice (some ⟨g, 0, none⟩) n cap, .int .i64 0, .int .i64 n] w fun e w' => e = .returned (.tuple #[]) ∧ SortPost n g f R w w' := by
  go_enter Tryz.func122, Tryz.ntmps122
  go_wp2_with fail
  go_loopw [6, 7] (fun x _ wr => ∃ (i : Nat) (f' : Nat → BitVec 32), 1 ≤ i ∧ i ≤ 8 ∧ x = .int .i64 i ∧ Row wr g 37 (srow n f' R) ∧ Hid (Srtd f' i) ∧ Hid ((wrow n f').Perm (wrow n f)) ∧ w.grownBy wr (some g)) (fun x _ _ => 8 - (intOf x).toNat)
  case atStart => exact ⟨1, f, Nat.le_refl _, by omega, rfl, hR, Lib.hid (fun a b h1 h2 => by omega), Lib.hid (List.Perm.refl _), World.grownBy.refl _ _⟩
  case round =>
    obtain ⟨i, f', hi1, hi8, rfl, hRi, HS, HP, hgi⟩ := hrel
    by_cases hlt : i < n
    · have HI := Lib.hid HS.out.start
      go_wp2_with fail
      go_loopw [7] (fun x wr => ∃ (j : Nat) (f' : Nat → BitVec 32), j ≤ i ∧ x = .int .i64 j ∧ Row wr g 37 (srow n f' R) ∧ Hid (Insd f' i j) ∧ Hid ((wrow n f').Perm (wrow n f)) ∧ w.grownBy wr (some g)) (fun x _ => (intOf x).toNat)
      case atStart => exact ⟨i, f', Nat.le_refl _, rfl, hRi, HI, HP, hgi⟩
      case round =>
        obtain ⟨j, f', hj, rfl, hRj, HJ, HP, hgj⟩ := hrel
        have HSTOP := Lib.hid (fun h => HJ.out.stop hj h)
        rcases Nat.eq_zero_or_pos j with h0 | h0
        · subst h0
          have HS2 := Lib.hid (HSTOP.out (.inl rfl))
          go_wp2_with fail
          go_quiet (fail)
          go_wp2_with fail
          go_roundw
          case rel => exact ⟨i + 1, f', by omega, by omega, by go_num, hRj.drewN _, HS2, HP, grown_drewN hgj _⟩
          case measure => simp [intOf]; omega
        · obtain ⟨d, rfl⟩ : ∃ d, j = d + 1 := ⟨j - 1, by omega⟩
          have c1 : World.cell? wr ⟨g, d + 1, none⟩ = some (.int .u32 (uz (f' (d + 1)))) := (hRj.cell _).trans (srow_at (by omega))
          have c2 : World.cell? wr ⟨g, d, none⟩ = some (.int .u32 (uz (f' d))) := (hRj.cell _).trans (srow_at (by omega))
          have z1 := hRj.frozen (d + 1)
          have z2 := hRj.frozen d
          have b1 : (0 : Int) < (d : Int) + 1 := by omega
          have b2 : (d : Int) + 1 < n := by omega
          have b3 : (0 : Int) ≤ d := by omega
          have b4 : (d : Int) < n := by omega
          by_cases hlt2 : (f' (d + 1)).toNat < (f' d).toNat
          · have HL : Hid (∀ w, Calls Tryz.prog 128 #[.int .u32 (uz (f' (d + 1))), .int .u32 (uz (f' d))] w fun e w' => e = .returned (.bool true) ∧ w = w') := Lib.hid (fun w => by
              have := less_any (uz (f' (d + 1))) (uz (f' d)) w
              rw [decide_eq_true ((lt_uz _ _).2 hlt2)] at this; exact this)
            go_wp2_with fail
            go_quiet ((go_at_call 128; exact pure_quiet HL.out))
            go_wp2_with fail
            have HJ2 := Lib.hid (HJ.out.step h0 hj hlt2)
            have HP2 : Hid ((wrow n (swp f' (d + 1))).Perm (wrow n f)) := Lib.hid ((swp_perm h0 (by omega)).trans HP.out)
            have hRq := hRj.drewN nq
            have hgq := grown_drewN hgj nq
            replace c1 : (wr.drewN nq).cell? ⟨g, d + 1, none⟩ = some (.int .u32 (uz (f' (d + 1)))) := c1
            replace c2 : (wr.drewN nq).cell? ⟨g, d, none⟩ = some (.int .u32 (uz (f' d))) := c2
            replace z1 : (wr.drewN nq).frozen? ⟨g, d + 1, none⟩ = false := z1
            replace z2 : (wr.drewN nq).frozen? ⟨g, d, none⟩ = false := z2
            have hg1 : g < (wr.drewN nq).heap.size := hRq.lt
            clear hRj hgj HL HSTOP hlt2
            generalize wr.drewN nq = W2 at hRq hgq c1 c2 z1 z2 hg1 ⊢
            have hw : IntKind.i64.wrap (d : Int) = d := IntWalk.i64_in _ (by omega)
            have b5 : (0 : Int) ≤ (d : Int) + 1 := by omega
            have hR3 := hRq.set_ (d + 1) (.int .u32 (uz (f' d)))
            rw [srow_set (by omega)] at hR3
            have c3 : (W2.setCell ⟨g, d + 1, none⟩ (.int .u32 (uz (f' d)))).cell? ⟨g, d, none⟩ = some (.int .u32 (uz (updS f' (d + 1) (f' d) d))) := (hR3.cell _).trans (srow_at (by omega))
            have z3 := hR3.frozen d
            have hg3 := hR3.lt
            have hR4 := hR3.set_ d (.int .u32 (uz (f' (d + 1))))
            rw [srow_set (by omega)] at hR4
            have HQ : Hid (updS (updS f' (d + 1) (f' d)) d (f' (d + 1)) = swp f' (d + 1)) := Lib.hid (swp_upd f' h0)
            clear hRq hR3
            go_region_law (fail)
            all_goals
              go_wp2_with fail
              go_roundw
              case rel => exact ⟨d, swp f' (d + 1), by omega, by go_num, by rw [← HQ.out]; exact hR4, HJ2, HP2, by first | exact grown_drewN (grown_set (grown_set hgq _ _) _ _) 1 | exact grown_set (grown_set hgq _ _) _ _⟩
              case measure => first | (simp [intOf]; done) | (simp [intOf]; omega)
          · have HL : Hid (∀ w, Calls Tryz.prog 128 #[.int .u32 (uz (f' (d + 1))), .int .u32 (uz (f' d))] w fun e w' => e = .returned (.bool false) ∧ w = w') := Lib.hid (fun w => by
              have := less_any (uz (f' (d + 1))) (uz (f' d)) w
              rw [decide_eq_false (fun h => hlt2 ((lt_uz _ _).1 h))] at this; exact this)
            have HS2 := Lib.hid (HSTOP.out (.inr hlt2))
            clear hlt2
            go_wp2_with fail
            go_quiet ((go_at_call 128; exact pure_quiet HL.out))
            go_wp2_with fail
            go_roundw
            case rel => exact ⟨i + 1, f', by omega, by omega, by go_num, hRj.drewN _, HS2, HP, grown_drewN hgj _⟩
            case measure => simp [intOf]; omega
    · have HS2 : Hid (Srtd f' n) := Lib.hid (fun a b h1 h2 => HS.out a b h1 (by omega))
      go_wp2_with fail
      go_end0
      exact ⟨rfl, f', hRi, HS2, HP, hgi⟩

set_option maxHeartbeats 4000000 in
set_option maxRecDepth 100000 in
theorem pdq_any (n cap g : Nat) (m : Int) (f : Nat → BitVec 32) (R : List Value) (w : World) (h7 : n ≤ 7) (hR : Row w g 37 (srow n f R)) :
    Calls Tryz.prog 116 #[.slice (some ⟨g, 0, none⟩) n cap, .int .i64 0, .int .i64 n, .int .i64 m] w fun e w' => e = .returned (.tuple #[]) ∧ SortPost n g f R w w' := by
  have hc := Lib.hid (insertion_any n cap g f R w h7 hR)
  go_enter Tryz.func116, Tryz.ntmps116
  go_wp2_with fail
  go_loopg [1, 2, 3, 8, 9] 1 (fun k s1 s2 s3 s8 s9 wr => k = 1 ∧ s1 = .int .i64 0 ∧ s2 = .int .i64 n ∧ wr = w)
  case atStart => exact ⟨rfl, rfl, rfl, rfl⟩
  case round =>
    obtain ⟨rfl, rfl, rfl, rfl⟩ := hrel
    have hle : (n : Int) ≤ 12 := by omega
    have hw : IntKind.i64.wrap (n : Int) = n := IntWalk.i64_in _ (by omega)
    go_wp2_with fail
    refine hc.out.mono ?_
    rintro e w1 ⟨rfl, hp⟩
    go_wp2_with fail
    (try simp only [Exit.inBlock, Exit.then]); refine bodyPost_ret (results_none rfl _ _ _) rfl ?_
    exact ⟨rfl, hp⟩

set_option maxHeartbeats 4000000 in
set_option maxRecDepth 100000 in
theorem sort_any (n cap g : Nat) (f : Nat → BitVec 32) (R : List Value) (w : World) (h7 : n ≤ 7) (hR : Row w g 37 (srow n f R)) :
    Calls Tryz.prog 96 #[.slice (some ⟨g, 0, none⟩) n cap] w fun e w' => e = .returned (.tuple #[]) ∧ SortPost n g f R w w' := by
  have hn : (0 : Int) ≤ n := by omega
  go_enter Tryz.func96, Tryz.ntmps96
  go_wp2_with fail
  refine (len_few n h7 w).mono ?_
  rintro e w1 ⟨⟨m, rfl⟩, rfl⟩
  have hc := Lib.hid (pdq_any n cap g m f R w h7 hR)
  go_wp2_with fail
  refine hc.out.mono ?_
  rintro e w1 ⟨rfl, hp⟩
  go_wp2_with fail
  go_end0
  exact ⟨rfl, hp⟩
end Go.Proofs.YtdemmjofggemhaaGreatDoor

/- The contracts of ears.Rest and ears.Acyclic. -/
namespace Go.Proofs.YtdemmjofggemhaaGreatDoor
open Go.RowKit

attribute [local go_sem ↓] uz_and uz_or uz_andNot uz_and_one uz_shr uz_shl_one uz_shl uz_sub uz_sub_one uz_add uz_beq_zero uz_bne_zero uz_beq uz_bne uz_beq_one

/-! ### Nothing to sort -/
set_option maxRecDepth 100000 in
theorem insertion_none (w : World) : Calls Tryz.prog 122 #[.slice none 0 0, .int .i64 0, .int .i64 0] w fun e w' => e = .returned (.tuple #[]) ∧ w' = w := by
  go_enter Tryz.func122, Tryz.ntmps122
  go_wp2_with fail
  go_loopw [6, 7] (fun x _ wr => x = .int .i64 1 ∧ wr = w) (fun _ _ _ => 0)
  case atStart => exact ⟨rfl, rfl⟩
  case round =>
    obtain ⟨rfl, rfl⟩ := hrel
    go_wp2_with fail
    go_end0
    exact ⟨rfl, rfl⟩
set_option maxRecDepth 100000 in
theorem pdq_none (m : Int) (w : World) : Calls Tryz.prog 116 #[.slice none 0 0, .int .i64 0, .int .i64 0, .int .i64 m] w fun e w' => e = .returned (.tuple #[]) ∧ w' = w := by
  have hc := Lib.hid (insertion_none w)
  go_enter Tryz.func116, Tryz.ntmps116
  go_wp2_with fail
  go_loopg [1, 2, 3, 8, 9] 1 (fun k s1 s2 s3 s8 s9 wr => k = 1 ∧ s1 = .int .i64 0 ∧ s2 = .int .i64 0 ∧ wr = w)
  case atStart => exact ⟨rfl, rfl, rfl, rfl⟩
  case round =>
    obtain ⟨rfl, rfl, rfl, rfl⟩ := hrel
    go_wp2_with fail
    refine hc.out.mono ?_
    rintro e w1 ⟨rfl, rfl⟩
    go_wp2_with fail
    (try simp only [Exit.inBlock, Exit.then]); refine bodyPost_ret (results_none rfl _ _ _) rfl ?_
    exact ⟨rfl, rfl⟩
theorem sort_none (w : World) : Calls Tryz.prog 96 #[.slice none 0 0] w fun e w' => e = .returned (.tuple #[]) ∧ w' = w := by
  go_enter Tryz.func96, Tryz.ntmps96
  go_wp2_with fail
  refine (len_few 0 (by omega) w).mono ?_
  rintro e w1 ⟨⟨m, rfl⟩, rfl⟩
  have hc := Lib.hid (pdq_none m w)
  go_wp2_with fail
  refine hc.out.mono ?_
  rintro e w1 ⟨rfl, rfl⟩
  go_wp2_with fail
  go_end0
  exact ⟨rfl, rfl⟩

/-- The list is sorted. -/
def risesB (Z : List (BitVec 32)) : Prop := Z.Pairwise fun a b => a.toNat ≤ b.toNat
theorem rises_wrow {n : Nat} {f : Nat → BitVec 32} (h : Srtd f n) : risesB (wrow n f) := by
  unfold risesB wrow
  rw [List.pairwise_iff_getElem]
  intro i j hi hj hij
  simp only [List.length_map, List.length_range] at hi hj
  simp only [List.getElem_map, List.getElem_range]
  exact h i j hij hj
/-- A list in a row of its own, sorted in place. -/
theorem sort_own {w : World} {base : Nat} {v : Value} {L : List (BitVec 32)} (h7 : L.length ≤ 7) (hown : w.ownsRow base 37 1 v L.length (us L)) (hbase : base ≤ w.heap.size) :
    Calls Tryz.prog 96 #[v] w fun e w' => e = .returned (.tuple #[]) ∧ ∃ Z, Hid (risesB Z) ∧ Hid (Z.Perm L) ∧ w'.ownsRow base 37 1 v Z.length (us Z) ∧ Below base w w' := by
  rcases hown.2 with ⟨rfl, h0⟩ | ⟨g, cap, cur, rfl, hb, hh, hn, hl, hsz, htk⟩
  · have hL : L = [] := List.eq_nil_of_length_eq_zero h0
    subst hL
    exact (sort_none w).mono fun e w' ⟨he, hw⟩ => ⟨he, [], Lib.hid List.Pairwise.nil, Lib.hid (List.Perm.refl _), by subst hw; exact hown, by subst hw; exact Below.refl _ _⟩
  · have hf : wrow L.length (fun i => L.getD i 0#32) = L := by
      unfold wrow
      apply List.ext_getElem?
      intro i
      by_cases h : i < L.length
      · simp [h]
      · simp [h]
    have hcur : cur = (srow L.length (fun i => L.getD i 0#32) (cur.toList.drop L.length)).toArray := by
      unfold srow
      rw [hf, ← htk, Nat.mul_one, List.take_append_drop]
    have hR : Row w g 37 (srow L.length (fun i => L.getD i 0#32) (cur.toList.drop L.length)) := by
      rw [hcur] at hh; exact hh
    refine (sort_any L.length cap g _ _ w h7 hR).mono ?_
    rintro e w' ⟨rfl, f', hR', hS, hP, hgr⟩
    refine ⟨rfl, wrow L.length f', Lib.hid (rises_wrow hS.out), Lib.hid (by have := hP.out; rw [hf] at this; exact this), ?_, grown_to_below hgr hb hbase⟩
    refine ⟨by simp, .inr ⟨g, cap, (srow L.length f' (cur.toList.drop L.length)).toArray, by simp, hb, hR', by simpa using hn, hl, ?_, ?_⟩⟩
    · have : (srow L.length f' (cur.toList.drop L.length)).length = cur.size := by
        unfold srow; simp; omega
      simp only [List.size_toArray, this, hsz]
    · simp [srow, List.take_left']

/-- The sets that are left, in the list's order, without the empty ones. -/
def setsOf (L : Lt) : List (BitVec 32) := (L.map (·.2)).filter (· != 0#32)
theorem setsOf_snoc (L : Lt) (x : Nat × BitVec 32) : setsOf (L ++ [x]) = setsOf L ++ if x.2 != 0#32 then [x.2] else [] := by
  unfold setsOf
  rw [List.map_append, List.filter_append]
  congr 1
  cases h : (x.2 != 0#32) <;> simp [h]
theorem setsOf_len (L : Lt) : (setsOf L).length ≤ L.length := by
  unfold setsOf
  exact Nat.le_trans (List.length_filter_le _ _) (by simp)
def RestIs (V : Int) (E : List (BitVec 32)) (keep : BitVec 32) (Z : List (BitVec 32)) (code : Int) : Prop :=
  (validB V E = false ∧ Z = [] ∧ code = 140) ∨ (validB V E = true ∧ code = 0 ∧ risesB Z ∧ Z.Perm (setsOf (runE E keep).2))
theorem runIs_len {V : Int} {E : List (BitVec 32)} {keep : BitVec 32} {ss : List Stp} {L : Lt} {code : Int} (h : RunIs V E keep ss L code) : L.length ≤ 7 := by
  rcases h with ⟨_, _, hL, _⟩ | ⟨hv, _, hL, _⟩
  · rw [hL]; exact Nat.zero_le _
  · rw [hL]
    have h1 := (runE_rch E keep).len
    rw [begin_len] at h1
    exact Nat.le_trans h1 (validB_of hv).2.2.1
theorem restIs_of {V : Int} {E : List (BitVec 32)} {keep : BitVec 32} {ss : List Stp} {L : Lt} {code : Int} {Z : List (BitVec 32)} (h : RunIs V E keep ss L code) (hz : risesB Z) (hp : Z.Perm (setsOf L)) : RestIs V E keep Z code := by
  rcases h with ⟨a, _, hL, hc⟩ | ⟨a, _, hL, hc⟩
  · rw [hL] at hp
    exact .inl ⟨a, List.perm_nil.1 hp, hc⟩
  · rw [hL] at hp
    exact .inr ⟨a, hc, hz, hp⟩

set_option maxHeartbeats 4000000 in
set_option maxRecDepth 100000 in
theorem rest_any (V : Int) (A : Option Addr) (E : List (BitVec 32)) (c : Nat) (keep : BitVec 32) (w : World) (hl : E.length ≤ 35184372087808) (hE : Rd w w.heap.size A (us E)) :
    Calls Tryz.prog 60 #[.agg #[.int .i64 V, .slice A E.length c], .int .u32 (uz keep)] w fun e w' => ∃ v Z code, e = .returned (.tuple #[v, .int .i64 code]) ∧ w'.ownsRow w.heap.size 37 1 v Z.length (us Z) ∧ Hid (RestIs V E keep Z code) ∧ Below w.heap.size w w' := by
  go_enter Tryz.func60, Tryz.ntmps60
  go_wp2_with fail
  have hb0 := below_alloc w (.cells #[.int .i64 V, .slice A E.length c] 36)
  generalize w.alloc _ = W0 at hb0 ⊢
  refine (run_any V A E c keep W0 hl (hE.later hb0)).mono ?_
  rintro e w1 ⟨v1, v2, ss, L, code, rfl, hown1, hown2, hRI, hb1⟩
  have hB1 := bthen hb0 hb1
  have h7 := runIs_len hRI.out
  obtain ⟨A1, c1, rfl, _, _, _, _⟩ := Rd.of_ownS hown1
  obtain ⟨A2, c2, rfl, _, _, hS, _⟩ := Rd.of_ownS hown2
  clear hown1 hown2 hb0 hb1 hE
  go_wp2_with fail
  go_loopw [9, 11, 21] (fun v _ i wr => ∃ k : Nat, k ≤ L.length ∧ i = .int .i64 k ∧ wr.ownsRow w1.heap.size 37 1 v (setsOf (L.take k)).length (us (setsOf (L.take k))) ∧ Below w1.heap.size w1 wr) (fun _ _ i _ => L.length - (intOf i).toNat)
  case atStart => exact ⟨0, Nat.zero_le _, rfl, ⟨rfl, .inl ⟨rfl, rfl⟩⟩, Below.refl _ _⟩
  case round =>
    obtain ⟨k, hk, rfl, hown, hb⟩ := hrel
    by_cases hlt : k < L.length
    · obtain ⟨ad, hA, hbl, q0, q1⟩ := (hS.later hb).lf_cells hlt
      have HS := Lib.hid (take_snoc L k hlt)
      rw [lft_eq L k hlt] at HS
      have HN := Lib.hid (setsOf_snoc (L.take k) (lft L k))
      rw [← HS.out] at HN
      have hsl : (setsOf (L.take k)).length ≤ 7 := Nat.le_trans (setsOf_len _) (by rw [List.length_take]; omega)
      subst hA
      generalize lft L k = s at q0 q1 HN
      obtain ⟨i, x⟩ := s
      simp only at q0 q1 HN
      have a1 : (0 : Int) ≤ k := by omega
      have a2 : (k : Int) < L.length := by omega
      generalize setsOf (L.take k) = M at hown HN hsl
      by_cases hx : x = 0#32
      · have hxb : (x == 0#32) = true := by simp [hx]
        have hxn : (x != 0#32) = false := by simp [hx]
        have HN2 : Hid (setsOf (L.take (k + 1)) = M) := Lib.hid (by rw [HN.out, hxn]; simp)
        clear hx
        go_wp2_with fail
        go_roundw
        case rel => exact ⟨k + 1, by omega, by go_num, by rw [HN2.out]; exact hown.alloc _, hb.alloc hb.size _⟩
        case measure => simp [intOf]; omega
      · have hxb : (x == 0#32) = false := by simp [hx]
        have hxn : (x != 0#32) = true := by simp [hx]
        have HN2 : Hid (setsOf (L.take (k + 1)) = M ++ [x]) := Lib.hid (by rw [HN.out, hxn]; simp)
        clear hx
        go_wp2_with ((with_reducible show wpList _ _ _ _ _ _); refine app_u32 rfl (.tmp 28) (.tmp 31) rfl w1.heap.size _ _ M x rfl (by go_simp) (hown.alloc _) (by omega) (by have := hb.size; simp; omega) ?_)
        intro v' w' hown' hb'
        go_wp2_with fail
        go_roundw
        case rel => exact ⟨k + 1, by omega, by go_num, by rw [HN2.out, List.length_append]; exact hown', (hb.alloc hb.size _).trans hb'⟩
        case measure => simp [intOf]; omega
    · obtain rfl : k = L.length := by omega
      rw [List.take_length] at hown
      have hsl : (setsOf L).length ≤ 7 := Nat.le_trans (setsOf_len _) h7
      have hbs := hb.size
      have HC := Lib.hid (sort_own hsl hown hbs)
      clear hown
      go_wp2_with fail
      refine HC.out.mono ?_
      rintro e w2 ⟨rfl, Z, hz, hp, hown2, hb2⟩
      have HR := Lib.hid (restIs_of hRI.out hz.out hp.out)
      go_wp2_with fail
      go_ret2
      exact ⟨_, Z, code, rfl, own_less hown2 hB1.size, HR, hB1.trans ((hb.trans hb2).mono hB1.size)⟩
end Go.Proofs.YtdemmjofggemhaaGreatDoor

/- The contracts of ears.Acyclic and osierlaw15.awake; what Acyclic answers. -/
namespace Go.Proofs.YtdemmjofggemhaaGreatDoor
open Go.RowKit

attribute [local go_sem ↓] uz_and uz_or uz_andNot uz_and_one uz_shr uz_shl_one uz_shl uz_sub uz_sub_one uz_add uz_beq_zero uz_bne_zero uz_beq uz_bne uz_beq_one

/-- Is it a valid graph without a knot? -/
def acyB (V : Int) (E : List (BitVec 32)) : Bool := validB V E && (setsOf (runE E 0#32).2).isEmpty
def codeB (V : Int) (E : List (BitVec 32)) : Int := if validB V E then 0 else 140
theorem setsOf_nil (L : Lt) : setsOf L = [] ↔ ∀ x ∈ L, x.2 = 0#32 := by
  unfold setsOf
  rw [List.filter_eq_nil_iff]
  constructor
  · intro h x hx
    have := h x.2 (List.mem_map_of_mem hx)
    simpa using this
  · intro h a ha
    obtain ⟨x, hx, rfl⟩ := List.mem_map.1 ha
    simp [h x hx]
theorem acyB_iff {V : Int} {E : List (BitVec 32)} (hv : validB V E = true) : acyB V E = true ↔ ∃ p, JT E p := by
  have h7 := (validB_of hv).2.2.1
  have hst := runE_Stuck (E := E) 0#32 h7
  have hr := runE_rch E 0#32
  unfold acyB
  rw [hv, Bool.true_and, List.isEmpty_iff, setsOf_nil, ← left_empty (hr.srt (srt_begin E)) hst]
  exact left_iff hr hst
theorem rest_acy {V : Int} {E Z : List (BitVec 32)} {code : Int} (h : RestIs V E 0#32 Z code) : code = codeB V E ∧ ((code == 0) && ((Z.length : Int) == 0)) = acyB V E := by
  rcases h with ⟨a, b, c⟩ | ⟨a, b, _, c⟩
  · refine ⟨by simp [codeB, a, c], ?_⟩
    unfold acyB; rw [a, c, Bool.false_and, show ((140 : Int) == 0) = false from rfl, Bool.false_and]
  · refine ⟨by simp [codeB, a, b], ?_⟩
    unfold acyB
    have hl := c.length_eq
    rw [a, b, hl, Bool.true_and, show ((0 : Int) == 0) = true from rfl, Bool.true_and, Bool.eq_iff_iff, beq_iff_eq, List.isEmpty_iff, ← List.length_eq_zero_iff]
    omega

set_option maxHeartbeats 2000000 in
set_option maxRecDepth 100000 in
theorem acyclic_any (V : Int) (A : Option Addr) (E : List (BitVec 32)) (c : Nat) (w : World) (hl : E.length ≤ 35184372087808) (hE : Rd w w.heap.size A (us E)) :
    Calls Tryz.prog 20 #[.agg #[.int .i64 V, .slice A E.length c]] w fun e w' => e = .returned (.tuple #[.bool (acyB V E), .int .i64 (codeB V E)]) ∧ Below w.heap.size w w' := by
  go_enter Tryz.func20, Tryz.ntmps20
  go_wp2_with fail
  have hb0 := below_alloc w (.cells #[.int .i64 V, .slice A E.length c] 36)
  generalize w.alloc _ = W0 at hb0 ⊢
  have hrest := rest_any V A E c 0#32 W0 hl (hE.later hb0)
  rw [show uz 0#32 = 0 from rfl] at hrest
  refine hrest.mono ?_
  rintro e w1 ⟨v, Z, code, rfl, hown, hR, hb1⟩
  obtain ⟨h1, h2⟩ := rest_acy hR.out
  obtain ⟨A', c', rfl, _, _, _, _⟩ := Rd.of_own hown
  have hB1 := bthen hb0 hb1
  have H1 := Lib.hid h1
  have H2 := Lib.hid h2
  clear hrest h1 h2 hR hown hE
  cases hc : (code == 0)
  · rw [hc] at H2
    go_wp2_with fail
    go_ret2
    exact ⟨by rw [← H1.out, ← H2.out]; rfl, hB1⟩
  · rw [hc] at H2
    cases hz : ((Z.length : Int) == 0)
    · rw [hz] at H2
      go_wp2_with fail
      go_ret2
      exact ⟨by rw [← H1.out, ← H2.out]; rfl, hB1⟩
    · rw [hz] at H2
      go_wp2_with fail
      go_ret2
      exact ⟨by rw [← H1.out, ← H2.out]; rfl, hB1⟩

end Go.Proofs.YtdemmjofggemhaaGreatDoor
