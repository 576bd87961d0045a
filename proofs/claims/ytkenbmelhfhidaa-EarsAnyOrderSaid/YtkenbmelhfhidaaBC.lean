/- Several texts in one: JtW1 JtW4 JtW5 JtW6 JtW7 JtW8. -/
import Derived.Test.YtkenbmelhfhidaaBA
import Derived.Test.YtkenbmelhfhidaaBB
import Derived.Deep.RegionWith
import Derived.Deep.DrawnRows
import Derived.Deep.QuietTactic
import Derived.StillTailTactics
/- The contracts of jointree.IsTree and jointree.Check. -/
namespace Go.Proofs.Ytkenbmelhfhidaa
open Go.RowKit

attribute [local go_sem ↓] uz_and uz_or uz_andNot uz_and_one uz_shr uz_shl_one uz_shl uz_sub uz_sub_one uz_add uz_beq_zero uz_bne_zero uz_beq uz_bne uz_beq_one

theorem Rd.p_at {w : World} {B : Nat} {A : Option Addr} {P : List Int} (h : Rd w B A (is P)) {k : Nat} (hk : k < P.length) :
    ∃ ad, A = some ad ∧ ad.block < B ∧ w.cell? (ad.add k) = some (.int .i64 (pz P k)) := by
  rw [← pz_eq P k hk]; exact h.i_at hk
theorem treeB_long {P : List Int} (h : 7 < P.length) : treeB P = false := by
  unfold treeB; rw [decide_eq_false (by omega)]; rfl
theorem treeB_rng {P : List Int} {k : Nat} (hk : k < P.length) (h : pz P k < -1 ∨ (P.length : Int) ≤ pz P k) : treeB P = false := by
  cases hb : treeB P
  · rfl
  · have := ((treeB_iff P).1 hb).2.rng k hk; omega
theorem treeB_up {P : List Int} {k : Nat} (hk : k < P.length) (h : up (pz P) P.length (k : Int) ≠ -1) : treeB P = false := by
  cases hb : treeB P
  · rfl
  · exact absurd (((treeB_iff P).1 hb).2.reach k hk) h
/-- The first k parents are in range, and lead to the root. -/
def okTo (P : List Int) (k : Nat) : Prop := ∀ i : Nat, i < k → rngB P.length (pz P i) = true ∧ up (pz P) P.length (i : Int) = -1
theorem okTo_next {P : List Int} {k : Nat} (h : okTo P k) (h1 : -1 ≤ pz P k) (h2 : pz P k < P.length) (h3 : up (pz P) P.length (k : Int) = -1) : okTo P (k + 1) := fun i hi => by
  rcases Nat.lt_or_ge i k with c | c
  · exact h i c
  · obtain rfl : i = k := by omega
    exact ⟨by unfold rngB; simp [h1, h2], h3⟩
theorem okTo_all {P : List Int} (h : okTo P P.length) (h7 : P.length ≤ 7) : treeB P = (cntB (fun i => pz P i == -1) P.length == min 1 P.length) := by
  unfold treeB
  have h1 : ((List.range P.length).all fun i => rngB P.length (pz P i)) = true := by
    rw [List.all_eq_true]; intro i hi; exact (h i (List.mem_range.1 hi)).1
  have h2 : ((List.range P.length).all fun (i : Nat) => up (pz P) P.length (i : Int) == -1) = true := by
    rw [List.all_eq_true]; intro i hi; simpa using (h i (List.mem_range.1 hi)).2
  rw [decide_eq_true h7, h1, h2]; simp
theorem cntB_t {p : Nat → Bool} {k : Nat} (h : p k = true) : cntB p (k + 1) = cntB p k + 1 := by show _ + _ = _; rw [h]; rfl
theorem cntB_f {p : Nat → Bool} {k : Nat} (h : p k = false) : cntB p (k + 1) = cntB p k := by show _ + _ = _; rw [h]; rfl

set_option maxHeartbeats 2000000 in
set_option maxRecDepth 100000 in
theorem isTree_any (A : Option Addr) (P : List Int) (c : Nat) (w : World) (hl : P.length ≤ 35184372087808) (hP : Rd w w.heap.size A (is P)) :
    Calls Try.prog 30 #[.slice A P.length c] w fun e w' => e = .returned (.bool (treeB P)) ∧ w = w' := by
  by_cases h7 : P.length ≤ 7
  · have HR := Lib.hid (okTo_all (P := P) · h7)
    go_enter Try.func30, Try.ntmps30
    go_wp2_with fail
    go_loop [3, 4, 5, 6, 7, 13] (fun r _ _ _ _ j => ∃ k : Nat, k ≤ P.length ∧ j = .int .i64 k ∧ r = .int .i64 (cntB (fun i => pz P i == -1) k : Nat) ∧ Hid (okTo P k)) (fun _ _ _ _ _ j => P.length - (intOf j).toNat)
    case atStart => exact ⟨0, Nat.zero_le _, rfl, rfl, Lib.hid (fun i hi => absurd hi (Nat.not_lt_zero i))⟩
    case round =>
      obtain ⟨k, hk, rfl, rfl, hok⟩ := hrel
      have hcl := cntB_le (fun i => pz P i == -1) k
      by_cases hlt : k < P.length
      · obtain ⟨ad, hA, _, hc⟩ := hP.p_at hlt
        subst hA
        have HT := Lib.hid (cntB_t (p := fun i => pz P i == -1) (k := k))
        have HF := Lib.hid (cntB_f (p := fun i => pz P i == -1) (k := k))
        have HN := Lib.hid (okTo_next hok.out)
        have HX := Lib.hid (treeB_rng hlt)
        have HU := Lib.hid (treeB_up hlt)
        obtain ⟨x, hx⟩ : ∃ x, pz P k = x := ⟨_, rfl⟩
        rw [hx] at hc HN HX
        generalize hr : cntB (fun i => pz P i == -1) k = r at hcl HT HF ⊢
        have HXX := Lib.hid hx
        clear hx hr
        by_cases h1 : x < -1
        · have hf := Lib.hid (HX.out (.inl h1))
          have d1 : decide (x < -1) = true := by simpa using h1
          go_wp2_with fail
          go_ret
          exact ⟨by first | rfl | (rw [hf.out]; rfl), rfl⟩
        · have d1 : decide (x < -1) = false := by simpa using h1
          by_cases h2 : (P.length : Int) ≤ x
          · have hf := Lib.hid (HX.out (.inr h2))
            have d2 : decide ((P.length : Int) ≤ x) = true := by simpa using h2
            go_wp2_with fail
            go_ret
            exact ⟨by first | rfl | (rw [hf.out]; rfl), rfl⟩
          · have d2 : decide ((P.length : Int) ≤ x) = false := by simpa using h2
            obtain ⟨r2, hr2, hr3, hr4⟩ : ∃ r2 : Nat, r2 = cntB (fun i => pz P i == -1) (k + 1) ∧ r2 ≤ 7 ∧ (r2 : Int) = r + if x == -1 then 1 else 0 := by
              refine ⟨_, rfl, ?_, ?_⟩
              · have := cntB_le (fun i => pz P i == -1) (k + 1); omega
              · cases hb : (x == -1)
                · rw [HF.out (by rw [HXX.out]; exact hb)]; simp
                · rw [HT.out (by rw [HXX.out]; exact hb)]; simp
            have HR2 := Lib.hid hr2
            clear hr2
            cases hb : (x == -1)
            all_goals
              rw [hb] at hr4
              simp only [Bool.false_eq_true, if_false, if_true, Int.add_zero] at hr4
              have HR4 := Lib.hid hr4
              clear hr4
              go_wp2_with fail
              go_loop [6, 7] (fun st at_ => ∃ (m : Nat) (y : Int), m ≤ P.length ∧ st = .int .i64 m ∧ at_ = .int .i64 y ∧ -1 ≤ y ∧ y < P.length ∧ Hid (up (pz P) (P.length - m) y = up (pz P) P.length (k : Int))) (fun st _ => P.length - (intOf st).toNat)
              case atStart => exact ⟨0, k, Nat.zero_le _, rfl, rfl, by omega, by omega, rfl⟩
              case round =>
                obtain ⟨m, y, hm, rfl, rfl, hy1, hy2, hup⟩ := hrel
                by_cases hy : y = -1
                · subst hy
                  have hu : up (pz P) P.length (k : Int) = -1 := by rw [← hup.out]; exact up_neg _ (by omega) _
                  have HK := Lib.hid (HN.out (by omega) (by omega) hu)
                  clear hu
                  go_wp2_with fail
                  go_round
                  case rel => exact ⟨k + 1, by omega, by go_num, by first | (rw [← HR2.out, HR4.out]; rfl) | (rw [← HR2.out, HR4.out]), HK⟩
                  case measure => simp [intOf]; omega
                · have e1 : (y != -1) = true := by simp [hy]
                  obtain ⟨j, rfl⟩ := Int.eq_ofNat_of_zero_le (show 0 ≤ y by omega)
                  have hj : j < P.length := by omega
                  by_cases hmn : m < P.length
                  · obtain ⟨ad2, hA2, _, hc2⟩ := hP.p_at hj
                    obtain rfl : ad = ad2 := by injection hA2
                    have HX2 := Lib.hid (treeB_rng hj)
                    have HU2 : Hid (up (pz P) (P.length - (m + 1)) (pz P j) = up (pz P) P.length (k : Int)) := Lib.hid (by
                      rw [← hup.out, show P.length - m = (P.length - (m + 1)) + 1 by omega, up_nat])
                    generalize pz P j = z at hc2 HX2 HU2
                    clear hA2 hy
                    by_cases h3 : z < -1
                    · have hf := Lib.hid (HX2.out (.inl h3))
                      have d3 : decide (z < -1) = true := by simpa using h3
                      go_wp2_with fail
                      go_ret
                      exact ⟨by first | rfl | (rw [hf.out]; rfl), rfl⟩
                    · have d3 : decide (z < -1) = false := by simpa using h3
                      by_cases h4 : (P.length : Int) ≤ z
                      · have hf := Lib.hid (HX2.out (.inr h4))
                        have d4 : decide ((P.length : Int) ≤ z) = true := by simpa using h4
                        go_wp2_with fail
                        go_ret
                        exact ⟨by first | rfl | (rw [hf.out]; rfl), rfl⟩
                      · have d4 : decide ((P.length : Int) ≤ z) = false := by simpa using h4
                        go_wp2_with fail
                        go_round
                        case rel => exact ⟨m + 1, z, by omega, by go_num, rfl, by omega, by omega, HU2⟩
                        case measure => simp [intOf]; omega
                  · obtain rfl : m = P.length := by omega
                    have hf : Hid (treeB P = false) := Lib.hid (HU.out (by rw [← hup.out, Nat.sub_self]; show ((j : Nat) : Int) ≠ -1; omega))
                    clear hy
                    go_wp2_with fail
                    go_ret
                    exact ⟨by first | rfl | (rw [hf.out]; rfl), rfl⟩
      · obtain rfl : k = P.length := by omega
        have HE := Lib.hid (HR.out hok.out)
        generalize cntB (fun i => pz P i == -1) P.length = r at hcl HE ⊢
        go_wp2_with fail
        · have e : treeB P = ((r : Int) == (P.length : Int)) := by
            rw [HE.out, Bool.eq_iff_iff, beq_iff_eq, beq_iff_eq]; omega
          have HE2 := Lib.hid e
          clear e
          go_ret
          exact ⟨by rw [HE2.out]; rfl, rfl⟩
        · have e : treeB P = ((r : Int) == 1) := by
            rw [HE.out, Bool.eq_iff_iff, beq_iff_eq, beq_iff_eq]; omega
          have HE2 := Lib.hid e
          clear e
          go_ret
          exact ⟨by rw [HE2.out]; rfl, rfl⟩
  · have hf := Lib.hid (treeB_long (P := P) (by omega))
    have hlt : 7 < P.length := by omega
    go_enter Try.func30, Try.ntmps30
    go_wp2
    go_ret
    exact ⟨by first | rfl | (rw [hf.out]; rfl), rfl⟩

set_option maxHeartbeats 2000000 in
set_option maxRecDepth 100000 in
theorem check_any (V : Int) (A A' : Option Addr) (E : List (BitVec 32)) (P : List Int) (c c' : Nat) (w : World) (hl : E.length ≤ 35184372087808) (hl' : P.length ≤ 35184372087808) (hE : Rd w w.heap.size A (us E)) (hP : Rd w w.heap.size A' (is P)) :
    Calls Try.prog 32 #[.agg #[.int .i64 V, .slice A E.length c], .slice A' P.length c'] w fun e w' => e = .returned (.bool (checkB V E P)) ∧ Below w.heap.size w w' := by
  go_enter Try.func32, Try.ntmps32
  go_wp2_with fail
  have hb0 := below_alloc w (.cells #[.int .i64 V, .slice A E.length c] 24)
  have hG0 : Row (w.alloc (.cells #[.int .i64 V, .slice A E.length c] 24)) w.heap.size 24 [.int .i64 V, .slice A E.length c] := Row.new _ _ _
  generalize w.alloc _ = W0 at hb0 hG0 ⊢
  refine (valid_any V A E c _ hl (hE.later hb0)).mono ?_
  rintro e w1 ⟨rfl, hb1⟩
  have hB1 := bthen hb0 hb1
  have hG1 := hG0.later hb1
  have d1 : w1.cell? ⟨w.heap.size, 1, none⟩ = some (.slice A E.length c) := hG1.cell 1
  have hE1 := hE.later hB1
  have hP1 := hP.later hB1
  clear hG0 hb0 hb1 hG1 hE hP
  cases hv : validB V E
  · have hf : Hid (checkB V E P = false) := Lib.hid (by unfold checkB; rw [hv]; rfl)
    go_wp2_with fail
    go_ret
    exact ⟨by first | rfl | (rw [hf.out]; rfl), hB1⟩
  · by_cases hlen : P.length = E.length
    · have hlb : ((P.length : Int) != (E.length : Int)) = false := by simp [hlen]
      have h7 := (validB_of hv).2.2.1
      have HL := Lib.hid hlen
      have HV := Lib.hid hv
      clear hlen hv
      go_wp2_with fail
      refine (isTree_any A' P c' w1 hl' hP1).mono ?_
      rintro e w2 ⟨rfl, rfl⟩
      cases ht : treeB P
      · have hf : Hid (checkB V E P = false) := Lib.hid (by unfold checkB; rw [ht]; simp)
        clear ht
        go_wp2_with fail
        go_ret
        exact ⟨by first | rfl | (rw [hf.out]; rfl), hB1⟩
      · have HT := Lib.hid ((treeB_iff P).1 ht).2
        have hC : Hid (checkB V E P = oneTo E (pz P) E.length) := Lib.hid (by unfold checkB; rw [HV.out, ht, HL.out]; simp)
        clear ht
        go_wp2_with fail
        go_loop [5, 6, 7, 8, 27] (fun s _ _ _ j => ∃ k : Nat, k ≤ P.length ∧ j = .int .i64 k ∧ s = .int .u32 (uz (seenTo E (pz P) k)) ∧ Hid (oneTo E (pz P) k = true)) (fun _ _ _ _ j => P.length - (intOf j).toNat)
        case atStart => exact ⟨0, Nat.zero_le _, rfl, rfl, rfl⟩
        case round =>
          obtain ⟨k, hk, rfl, rfl, hok⟩ := hrel
          by_cases hlt : k < P.length
          · have hltE : k < E.length := by have := HL.out; omega
            obtain ⟨ad, hA, _, hc⟩ := hE1.e_at hltE
            obtain ⟨ad2, hA2, _, hc2⟩ := hP1.p_at hlt
            have hr := HT.out.rng k hlt
            subst hA hA2
            have a1 : (0 : Int) ≤ k := by omega
            have a2 : (k : Int) < E.length := by omega
            have HS : Hid (seenTo E (pz P) (k + 1) = seenTo E (pz P) k ||| enters E (pz P) k) := rfl
            have HO := Lib.hid (oneTo_succ E (pz P) k)
            have HF := Lib.hid (oneTo_false (E := E) (p := pz P) hltE)
            by_cases hp : 0 ≤ pz P k
            · obtain ⟨q, hq⟩ := Int.eq_ofNat_of_zero_le hp
              have hqE : q < E.length := by have := HL.out; omega
              obtain ⟨ad3, hA3, _, hc3⟩ := hE1.e_at hqE
              obtain rfl : ad = ad3 := by injection hA3
              have HE : Hid (enters E (pz P) k = ed E k &&& ~~~ed E q) := Lib.hid (by unfold enters; rw [if_pos hp, hq]; simp)
              rw [hq] at hc2
              have b1 : (0 : Int) ≤ q := by omega
              have b2 : (q : Int) < E.length := by omega
              generalize enters E (pz P) k = n at HS HO HF HE
              generalize ed E k = x at hc HE
              generalize ed E q = y at hc3 HE
              clear hp hq hr hA3
              have HE' := HE.out
              generalize seenTo E (pz P) k = s at HS HO HF ⊢
              cases hz : (s &&& n == 0#32)
              · have hf : Hid (checkB V E P = false) := Lib.hid (by rw [hC.out]; exact HF.out hz)
                have hz2 : (s &&& (x &&& ~~~y) != 0#32) = true := by rw [← HE']; simpa using hz
                clear hz HE'
                go_wp2_with fail
                go_ret
                exact ⟨by first | rfl | (rw [hf.out]; rfl), hB1⟩
              · have hz2 : (s &&& (x &&& ~~~y) != 0#32) = false := by rw [← HE']; simpa using hz
                have HO2 : Hid (oneTo E (pz P) (k + 1) = true) := Lib.hid (by rw [HO.out, hok.out, hz]; rfl)
                clear hz HE'
                go_wp2_with fail
                go_round
                case rel => exact ⟨k + 1, by omega, by go_num, by rw [HS.out, HE.out], HO2⟩
                case measure => simp [intOf]; omega
            · have HE : Hid (enters E (pz P) k = ed E k) := Lib.hid (by unfold enters; rw [if_neg hp])
              have hpd : decide (0 ≤ pz P k) = false := by simpa using hp
              generalize enters E (pz P) k = n at HS HO HF HE
              generalize ed E k = x at hc HE
              generalize pz P k = z at hc2 hpd
              clear hp hr
              have HE' := HE.out
              generalize seenTo E (pz P) k = s at HS HO HF ⊢
              cases hz : (s &&& n == 0#32)
              · have hf : Hid (checkB V E P = false) := Lib.hid (by rw [hC.out]; exact HF.out hz)
                have hz2 : (s &&& x != 0#32) = true := by rw [← HE']; simpa using hz
                clear hz HE'
                go_wp2_with fail
                go_ret
                exact ⟨by first | rfl | (rw [hf.out]; rfl), hB1⟩
              · have hz2 : (s &&& x != 0#32) = false := by rw [← HE']; simpa using hz
                have HO2 : Hid (oneTo E (pz P) (k + 1) = true) := Lib.hid (by rw [HO.out, hok.out, hz]; rfl)
                clear hz HE'
                go_wp2_with fail
                go_round
                case rel => exact ⟨k + 1, by omega, by go_num, by rw [HS.out, HE.out], HO2⟩
                case measure => simp [intOf]; omega
          · have hf : Hid (checkB V E P = true) := Lib.hid (by rw [hC.out, ← HL.out, show P.length = k by omega]; exact hok.out)
            go_wp2_with fail
            go_ret
            exact ⟨by first | rfl | (rw [hf.out]; rfl), hB1⟩
    · have hlb : ((P.length : Int) != (E.length : Int)) = true := by simp; omega
      have hf : Hid (checkB V E P = false) := Lib.hid (by unfold checkB; rw [show (P.length == E.length) = false by simpa using hlen]; simp)
      clear hlen hv
      go_wp2_with fail
      go_ret
      exact ⟨by first | rfl | (rw [hf.out]; rfl), hB1⟩
end Go.Proofs.Ytkenbmelhfhidaa

/- The contracts of osierref16.IsTree and reached. -/
namespace Go.Proofs.Ytkenbmelhfhidaa
open Go.RowKit

attribute [local go_sem ↓] uz_and uz_or uz_andNot uz_and_one uz_shr uz_shl_one uz_shl uz_sub uz_sub_one uz_add uz_beq_zero uz_bne_zero uz_beq uz_bne uz_beq_one

/-- n truth values, told by a function. -/
def bls (n : Nat) (b : Nat → Bool) : List Value := (List.range n).map fun i => .bool (b i)
theorem bls_length (n : Nat) (b : Nat → Bool) : (bls n b).length = n := by simp [bls]
theorem bls_at (n : Nat) (b : Nat → Bool) (k : Nat) (h : k < n) : (bls n b)[k]? = some (.bool (b k)) := by simp [bls, h]
theorem bls_set (n : Nat) (b : Nat → Bool) (k : Nat) (x : Bool) : (bls n b).set k (.bool x) = bls n (updT b k x) := by
  unfold bls
  apply List.ext_getElem?
  intro i
  rw [List.getElem?_set, List.getElem?_map, List.getElem?_map]
  by_cases h : k = i
  · subst h
    by_cases h2 : k < n <;> simp [h2, updT]
  · rw [if_neg h]
    by_cases h2 : i < n <;> simp [h2, updT, Ne.symm h]

theorem zeros_bls (n : Nat) : zeros (.bool false) n = bls n fun _ => false := by
  unfold zeros bls
  apply List.ext_getElem?
  intro i
  by_cases h : i < n <;> simp [h]
theorem Try.info_bool : (Try.prog.info? 4).map (fun i => (i.zero, i.size, i.bytes)) = some (some (.bool false), 1, 1) := by kernel_rfl
theorem mk_bool (n : Nat) (h : n ≤ 35184372087808) (w : World) : (Instr.makeSlice 129 (.int .i64 (n : Int)) (.int .i64 (n : Int))).run Try.prog w = .ok (.slice (some ⟨w.heap.size, 0, none⟩) n n) (w.alloc (.cells (bls n fun _ => false).toArray 4)) := by
  rw [← zeros_bls, ← madeCells_zeros]
  exact run_make_row' 129 4 (.bool false) 1 Try.underlying129 Try.info_bool rfl .i64 .i64 n (by omega) (by omega) w

set_option maxHeartbeats 2000000 in
set_option maxRecDepth 100000 in
theorem reached_any (A : Option Addr) (P : List Int) (c : Nat) (w : World) (hl : P.length ≤ 35184372087808) (hP : Rd w w.heap.size A (is P)) (rng : ∀ i, i < P.length → -1 ≤ pz P i ∧ pz P i < P.length) :
    Calls Try.prog 81 #[.slice A P.length c] w fun e w' => ∃ m : Nat, e = .returned (.int .i64 m) ∧ Hid (m = P.length ↔ ∀ i : Nat, i < P.length → up (pz P) P.length i = -1) ∧ Below w.heap.size w w' := by
  have hmk := mk_bool P.length hl
  go_enter Try.func81, Try.ntmps81
  go_wp2_with fail
  have hR0 : Row (w.alloc (.cells (bls P.length fun _ => false).toArray 4)) w.heap.size 4 (bls P.length fun _ => false) := Row.new _ _ _
  have hb0 := below_alloc w (.cells (bls P.length fun _ => false).toArray 4)
  generalize hg : w.heap.size = g at hR0 hb0 hP ⊢
  generalize w.alloc _ = W0 at hR0 hb0 ⊢
  have hP0 := hP.below hb0
  have HRNG := Lib.hid rng
  clear hmk rng hP
  go_loopg [4, 5, 11, 15] (P.length) (fun gk cn _ r _ wr => ∃ (k m : Nat) (b : Nat → Bool), k ≤ P.length ∧ gk = P.length - k ∧ r = .int .i64 k ∧ cn = .int .i64 m ∧ m ≤ P.length ∧ Hid (m = cntB b P.length) ∧ Row wr g 4 (bls P.length b) ∧ Hid (GR P.length (pz P) k b) ∧ Below g W0 wr)
  case atStart => exact ⟨0, 0, fun _ => false, Nat.zero_le _, rfl, rfl, rfl, Nat.zero_le _, Lib.hid (cntB_none (fun _ => rfl) _).symm, hR0, Lib.hid (GR.start _ _), Below.refl _ _⟩
  case round =>
    obtain ⟨k, m, b, hk, rfl, rfl, rfl, hm, HM, hR, HG, hb⟩ := hrel
    by_cases hlt : k < P.length
    · go_wp2_with fail
      go_loopg [4, 5, 15] (P.length) (fun gk cn _ j wi => ∃ (i m : Nat) (b : Nat → Bool), i ≤ P.length ∧ gk = P.length - i ∧ j = .int .i64 i ∧ cn = .int .i64 m ∧ m ≤ P.length ∧ Hid (m = cntB b P.length) ∧ Row wi g 4 (bls P.length b) ∧ Hid (GRM P.length (pz P) k i b) ∧ Below g W0 wi)
      case atStart => exact ⟨0, m, b, Nat.zero_le _, rfl, rfl, rfl, hm, HM, hR, Lib.hid HG.out.mid, hb⟩
      case round =>
        obtain ⟨i, m, b, hi, rfl, rfl, rfl, hm, HM, hR, HG, hb⟩ := hrel
        by_cases hli : i < P.length
        · obtain ⟨ad, hA, hbl, hc⟩ := (hP0.below hb).p_at hli
          subst hA
          have b1 : (0 : Int) ≤ i := by omega
          have b2 : (i : Int) < P.length := by omega
          have r1 : World.cell? _ ⟨g, i, none⟩ = some (.bool (b i)) := (hR.cell i).trans (bls_at _ _ _ hli)
          have r2 := hR.frozen i
          have hr := HRNG.out i hli
          have HSK := Lib.hid (HG.out.skip HRNG.out hli)
          have HCO := Lib.hid (HG.out.come HRNG.out hli)
          have HCN := Lib.hid (cntB_updT (b := b) hli)
          cases hbi : b i
          · rw [hbi] at r1
            have HBI := Lib.hid hbi
            by_cases hp : pz P i = -1
            · have hpb : (pz P i == -1) = true := by simp [hp]
              have HC2 := Lib.hid (HCO.out (.inl hp))
              generalize pz P i = x at hc hpb
              clear hp hr hbi
              have hm1 : m + 1 ≤ P.length := by have h1 := cntB_le (updT b i true) P.length; have h2 := HCN.out HBI.out; have h3 := HM.out; omega
              have HM2 : Hid (m + 1 = cntB (updT b i true) P.length) := Lib.hid (by rw [HCN.out HBI.out, HM.out])
              go_wp2_with fail
              go_roundg (P.length - (i + 1))
              case measure => omega
              case rel =>
                have h2 := hR.set_ i (.bool true)
                rw [bls_set] at h2
                exact ⟨i + 1, m + 1, _, by omega, rfl, by go_num, by go_num, hm1, HM2, h2, HC2, hb.setCell (Nat.le_refl _) _⟩
            · have hpb : (pz P i == -1) = false := by simp [hp]
              obtain ⟨q, hq⟩ := Int.eq_ofNat_of_zero_le (show 0 ≤ pz P i by omega)
              have hql : q < P.length := by omega
              have r3 : World.cell? _ ⟨g, q, none⟩ = some (.bool (b q)) := (hR.cell q).trans (bls_at _ _ _ hql)
              rw [hq] at hc hpb
              have q1 : (0 : Int) ≤ q := by omega
              have q2 : (q : Int) < P.length := by omega
              cases hbq : b q
              · have HS2 := Lib.hid (HSK.out (.inr ⟨hp, by rw [hq]; exact hbq⟩))
                rw [hbq] at r3
                clear hp hr hbi hbq hq
                go_wp2_with fail
                go_roundg (P.length - (i + 1))
                case measure => omega
                case rel => exact ⟨i + 1, m, b, by omega, rfl, by go_num, rfl, hm, HM, hR, HS2, hb⟩
              · have HC2 := Lib.hid (HCO.out (.inr (by rw [hq]; exact hbq)))
                rw [hbq] at r3
                clear hp hr hbi hbq hq
                have hm1 : m + 1 ≤ P.length := by have h1 := cntB_le (updT b i true) P.length; have h2 := HCN.out HBI.out; have h3 := HM.out; omega
                have HM2 : Hid (m + 1 = cntB (updT b i true) P.length) := Lib.hid (by rw [HCN.out HBI.out, HM.out])
                go_wp2_with fail
                go_roundg (P.length - (i + 1))
                case measure => omega
                case rel =>
                  have h2 := hR.set_ i (.bool true)
                  rw [bls_set] at h2
                  exact ⟨i + 1, m + 1, _, by omega, rfl, by go_num, by go_num, hm1, HM2, h2, HC2, hb.setCell (Nat.le_refl _) _⟩
          · rw [hbi] at r1
            have HS2 := Lib.hid (HSK.out (.inl hbi))
            clear hbi hr
            go_wp2_with fail
            go_roundg (P.length - (i + 1))
            case measure => omega
            case rel => exact ⟨i + 1, m, b, by omega, rfl, by go_num, rfl, hm, HM, hR, HS2, hb⟩
        · obtain rfl : i = P.length := by omega
          have HE := Lib.hid HG.out.end_
          go_wp2_with fail
          go_roundg (P.length - (k + 1))
          case measure => omega
          case rel => exact ⟨k + 1, m, b, by omega, rfl, by go_num, rfl, hm, HM, hR, HE, hb⟩
    · obtain rfl : k = P.length := by omega
      have HE : Hid (m = P.length ↔ ∀ i : Nat, i < P.length → up (pz P) P.length i = -1) := Lib.hid (by rw [HM.out]; exact HG.out.all HRNG.out)
      go_wp2_with fail
      go_ret
      exact ⟨m, rfl, HE, hg ▸ (hb0.trans hb)⟩

set_option maxHeartbeats 2000000 in
set_option maxRecDepth 100000 in
theorem r16isTree_any (A : Option Addr) (P : List Int) (c : Nat) (w : World) (hl : P.length ≤ 35184372087808) (hP : Rd w w.heap.size A (is P)) :
    Calls Try.prog 31 #[.slice A P.length c] w fun e w' => e = .returned (.bool (treeB P)) ∧ Below w.heap.size w w' := by
  by_cases h7 : P.length ≤ 7
  · go_enter Try.func31, Try.ntmps31
    go_wp2_with fail
    go_loop [4, 5] (fun r j => ∃ k : Nat, k ≤ P.length ∧ j = .int .i64 k ∧ r = .int .i64 (cntB (fun i => pz P i == -1) k : Nat) ∧ Hid (∀ i, i < k → -1 ≤ pz P i ∧ pz P i < P.length)) (fun _ j => P.length - (intOf j).toNat)
    case atStart => exact ⟨0, Nat.zero_le _, rfl, rfl, Lib.hid (fun i hi => absurd hi (Nat.not_lt_zero i))⟩
    case round =>
      obtain ⟨k, hk, rfl, rfl, hok⟩ := hrel
      have hcl := cntB_le (fun i => pz P i == -1) k
      by_cases hlt : k < P.length
      · obtain ⟨ad, hA, _, hc⟩ := hP.p_at hlt
        subst hA
        have HT := Lib.hid (cntB_t (p := fun i => pz P i == -1) (k := k))
        have HF := Lib.hid (cntB_f (p := fun i => pz P i == -1) (k := k))
        have HX := Lib.hid (treeB_rng hlt)
        have HN : Hid (-1 ≤ pz P k → pz P k < P.length → ∀ i, i < k + 1 → -1 ≤ pz P i ∧ pz P i < P.length) := Lib.hid (fun h1 h2 i hi => by
          rcases Nat.lt_or_ge i k with c | c
          · exact hok.out i c
          · obtain rfl : i = k := by omega
            exact ⟨h1, h2⟩)
        obtain ⟨x, hx⟩ : ∃ x, pz P k = x := ⟨_, rfl⟩
        rw [hx] at hc HN HX
        generalize hr : cntB (fun i => pz P i == -1) k = r at hcl HT HF ⊢
        have HXX := Lib.hid hx
        clear hx hr
        by_cases h1 : x < -1
        · have hf := Lib.hid (HX.out (.inl h1))
          have d1 : decide (x < -1) = true := by simpa using h1
          go_wp2_with fail
          go_ret
          exact ⟨by first | rfl | (rw [hf.out]; rfl), Below.refl _ _⟩
        · have d1 : decide (x < -1) = false := by simpa using h1
          by_cases h2 : (P.length : Int) ≤ x
          · have hf := Lib.hid (HX.out (.inr h2))
            have d2 : decide ((P.length : Int) ≤ x) = true := by simpa using h2
            go_wp2_with fail
            go_ret
            exact ⟨by first | rfl | (rw [hf.out]; rfl), Below.refl _ _⟩
          · have d2 : decide ((P.length : Int) ≤ x) = false := by simpa using h2
            have HN2 := Lib.hid (HN.out (by omega) (by omega))
            cases hb : (x == -1)
            · have HF2 := Lib.hid (HF.out (by rw [HXX.out]; exact hb))
              go_wp2_with fail
              go_round
              case rel => exact ⟨k + 1, by omega, by go_num, by rw [HF2.out], HN2⟩
              case measure => simp [intOf]; omega
            · have HT2 := Lib.hid (HT.out (by rw [HXX.out]; exact hb))
              go_wp2_with fail
              go_round
              case rel => exact ⟨k + 1, by omega, by go_num, by rw [HT2.out]; go_num, HN2⟩
              case measure => simp [intOf]; omega
      · obtain rfl : k = P.length := by omega
        have HC : Hid (treeB P = (((List.range P.length).all fun (i : Nat) => up (pz P) P.length (i : Int) == -1) && (cntB (fun i => pz P i == -1) P.length == min 1 P.length))) := Lib.hid (by
          unfold treeB
          have h1 : ((List.range P.length).all fun i => rngB P.length (pz P i)) = true := by
            rw [List.all_eq_true]; intro i hi
            have := hok.out i (List.mem_range.1 hi)
            unfold rngB; simp [this.1, this.2]
          rw [decide_eq_true h7, h1]; simp)
        by_cases h0 : P.length = 0
        · have hP0 : P = [] := List.eq_nil_of_length_eq_zero h0
          subst hP0
          have hf : Hid (treeB [] = true) := Lib.hid (by decide)
          go_wp2_with fail
          go_ret
          exact ⟨by first | rfl | (rw [hf.out]; rfl), Below.refl _ _⟩
        · have h0b : ((P.length : Int) == 0) = false := by rw [beq_eq_false_iff_ne]; omega
          generalize hr : cntB (fun i => pz P i == -1) P.length = r at hcl HC ⊢
          by_cases h1 : r = 1
          · subst h1
            have HC2 : Hid (treeB P = ((List.range P.length).all fun (i : Nat) => up (pz P) P.length (i : Int) == -1)) := Lib.hid (by
              rw [HC.out, show min 1 P.length = 1 by omega]; simp)
            clear h0 hr
            go_wp2_with fail
            refine (reached_any A P c w hl hP hok.out).mono ?_
            rintro e w1 ⟨m, rfl, HM, hb⟩
            have HE : Hid (treeB P = ((m : Int) == (P.length : Int))) := Lib.hid (by
              rw [HC2.out, Bool.eq_iff_iff, List.all_eq_true, beq_iff_eq]
              constructor
              · intro h
                rw [ni, HM.out]
                intro i hi; simpa using h i (List.mem_range.2 hi)
              · intro h i hi
                rw [ni, HM.out] at h
                simpa using h i (List.mem_range.1 hi))
            go_wp2_with fail
            go_ret
            exact ⟨by rw [HE.out]; rfl, hb⟩
          · have h1b : ((r : Int) == 1) = false := by simp; omega
            have hf : Hid (treeB P = false) := Lib.hid (by
              rw [HC.out, show (r == min 1 P.length) = false by rw [beq_eq_false_iff_ne]; omega]; simp)
            clear h0 hr h1
            go_wp2_with fail
            go_ret
            exact ⟨by first | rfl | (rw [hf.out]; rfl), Below.refl _ _⟩
  · have hf := Lib.hid (treeB_long (P := P) (by omega))
    have hlt : 7 < P.length := by omega
    go_enter Try.func31, Try.ntmps31
    go_wp2
    go_ret
    exact ⟨by first | rfl | (rw [hf.out]; rfl), Below.refl _ _⟩
end Go.Proofs.Ytkenbmelhfhidaa

/- The contracts of osierref16.way, has, Between. -/
namespace Go.Proofs.Ytkenbmelhfhidaa
open Go.RowKit

theorem nat_snoc (l : List Nat) (k : Nat) : (l ++ [k]).map Int.ofNat = l.map Int.ofNat ++ [(k : Int)] := by simp
set_option maxHeartbeats 2000000 in
set_option maxRecDepth 100000 in
theorem way_any (A : Option Addr) (P : List Int) (c i : Nat) (w : World) (hl : P.length ≤ 7) (hP : Rd w w.heap.size A (is P)) (ht : Tree P.length (pz P)) (hi : i < P.length) :
    Calls Try.prog 88 #[.slice A P.length c, .int .i64 i] w fun e w' => ∃ v, e = .returned v ∧ w'.ownsRow w.heap.size 3 1 v (way P.length (pz P) i).length (is ((way P.length (pz P) i).map Int.ofNat)) ∧ Below w.heap.size w w' := by
  have HT := Lib.hid ht
  have hu := Lib.hid (ht.reach i hi)
  clear ht
  go_enter Try.func88, Try.ntmps88
  go_wp2_with fail
  go_loopg [5, 6] P.length (fun gk v a wr => ∃ (m : Nat) (l : List Nat) (y : Int), gk = P.length - m ∧ m ≤ P.length ∧ l.length = m ∧ a = .int .i64 y ∧ -1 ≤ y ∧ y < P.length ∧ Hid (way P.length (pz P) i = l ++ wayF (pz P) (P.length - m) y) ∧ Hid (up (pz P) (P.length - m) y = -1) ∧
    wr.ownsRow w.heap.size 3 1 v (l.map Int.ofNat).length (is (l.map Int.ofNat)) ∧ Below w.heap.size w wr)
  case atStart => exact ⟨0, [], i, rfl, Nat.zero_le _, rfl, rfl, by omega, by omega, rfl, hu, ⟨rfl, .inl ⟨rfl, rfl⟩⟩, Below.refl _ _⟩
  case round =>
    obtain ⟨m, l, y, rfl, hm, hlm, rfl, hy1, hy2, HW, HU, hown, hb⟩ := hrel
    by_cases hy : 0 ≤ y
    · obtain ⟨j, rfl⟩ := Int.eq_ofNat_of_zero_le hy
      have hj : j < P.length := by omega
      have hmn : m < P.length := by
        rcases Nat.lt_or_ge m P.length with d | d
        · exact d
        · have h1 := HU.out
          rw [show P.length - m = 0 by omega] at h1
          have h1 : (j : Int) = -1 := h1
          omega
      have hr := HT.out.rng j hj
      have HW2 : Hid (way P.length (pz P) i = (l ++ [j]) ++ wayF (pz P) (P.length - (m + 1)) (pz P j)) := Lib.hid (by
        have e : wayF (pz P) (P.length - m) (j : Int) = j :: wayF (pz P) (P.length - (m + 1)) (pz P j) := by
          rw [show P.length - m = (P.length - (m + 1)) + 1 by omega]
          conv => lhs; unfold wayF
          rw [if_neg (by omega), Int.toNat_natCast]
        rw [HW.out, e]; simp)
      have HU2 : Hid (up (pz P) (P.length - (m + 1)) (pz P j) = -1) := Lib.hid (by
        have h1 := HU.out
        rw [show P.length - m = (P.length - (m + 1)) + 1 by omega, up_nat] at h1
        exact h1)
      clear HW HU hy
      go_wp2_with ((with_reducible show wpList _ _ _ _ _ _); refine app_int rfl (.tmp 14) (.tmp 16) rfl w.heap.size _ _ (l.map Int.ofNat) j rfl rfl hown (by simp; omega) hb.size ?_)
      intro v' w1 hown1 hb1
      have hB1 := hb.trans hb1
      obtain ⟨ad, hA, _, hc⟩ := (hP.later hB1).p_at hj
      subst hA
      generalize pz P j = z at hc hr HW2 HU2
      clear hb1 hown
      go_wp2_with fail
      go_roundg (P.length - (m + 1))
      case measure => omega
      case rel =>
        refine ⟨m + 1, l ++ [j], z, rfl, by omega, by simp [hlm], rfl, hr.1, hr.2, HW2, HU2, ?_, hB1⟩
        rw [nat_snoc, List.length_append, List.length_map, hlm]
        exact hown1
    · obtain rfl : y = -1 := by omega
      have HE : Hid (way P.length (pz P) i = l) := Lib.hid (by rw [HW.out, wayF_neg _ (by omega), List.append_nil])
      rw [List.length_map] at hown
      go_wp2_with fail
      go_ret
      exact ⟨_, rfl, by rw [HE.out]; exact hown, hb⟩
/-- Does it stand in the list? -/
def hasB (l : List Nat) (x : Nat) : Bool := l.contains x
theorem has_any (A : Option Addr) (Z : List Nat) (c x : Nat) (w : World) (hl : Z.length ≤ 35184372087808) (hZ : Rd w w.heap.size A (is (Z.map Int.ofNat))) :
    Calls Try.prog 111 #[.slice A Z.length c, .int .i64 x] w fun e w' => e = .returned (.bool (hasB Z x)) ∧ w = w' := by
  go_enter Try.func111, Try.ntmps111
  go_wp2_with fail
  go_loop [5] (fun i => ∃ k : Nat, k ≤ Z.length ∧ i = .int .i64 k ∧ Hid (x ∉ Z.take k)) (fun i => Z.length - (intOf i).toNat)
  case atStart => exact ⟨0, Nat.zero_le _, rfl, Lib.hid (by simp)⟩
  case round =>
    obtain ⟨k, hk, rfl, hno⟩ := hrel
    by_cases hlt : k < Z.length
    · obtain ⟨ad, hA, _, hc⟩ := hZ.z_at hlt
      subst hA
      have HS := Lib.hid (take_snoc Z k hlt)
      rw [zed_eq Z k hlt] at HS
      have HM := Lib.hid (zed_mem Z k hlt)
      generalize zed Z k = y at hc HS HM
      by_cases hy : y = x
      · subst hy
        have hf : Hid (hasB Z y = true) := Lib.hid (by unfold hasB; simpa using HM.out)
        go_wp2_with fail
        go_ret
        exact ⟨by first | rfl | (rw [hf.out]; rfl), rfl⟩
      · have hyb : ((y : Int) == (x : Int)) = false := by simp; omega
        have HN : Hid (x ∉ Z.take (k + 1)) := Lib.hid (by
          rw [HS.out, List.mem_append, List.mem_singleton]
          rintro (a | a)
          · exact hno.out a
          · exact hy a.symm)
        clear hy
        go_wp2_with fail
        go_round
        case rel => exact ⟨k + 1, by omega, by go_num, HN⟩
        case measure => simp [intOf]; omega
    · have hf : Hid (hasB Z x = false) := Lib.hid (by
        unfold hasB
        have h1 := hno.out
        rw [List.take_of_length_le (by omega)] at h1
        simpa using h1)
      go_wp2_with fail
      go_ret
      exact ⟨by first | rfl | (rw [hf.out]; rfl), rfl⟩

/-- The first of a's first k that stands in b; -1 if none does. -/
def meetTo (a b : List Nat) (k : Nat) : Int := meetOf (a.take k) b
theorem meetOf_lo (a b : List Nat) : -1 ≤ meetOf a b := by unfold meetOf; split <;> omega
theorem meetTo_next {a b : List Nat} {k : Nat} (hk : k < a.length) : meetTo a b (k + 1) = if meetTo a b k < 0 ∧ hasB b (zed a k) = true then (zed a k : Int) else meetTo a b k := by
  unfold meetTo meetOf hasB
  rw [take_snoc a k hk, zed_eq a k hk, List.find?_append]
  cases h : (a.take k).find? fun x => b.contains x with
  | none =>
    by_cases c : zed a k ∈ b
    · simp [c]
    · simp [c]
  | some y => simp; omega
theorem takeWhile_at {a : List Nat} {m k : Nat} (h : ∀ x ∈ a.take k, x ≠ m) (hk : k < a.length) (hm : zed a k = m) : a.takeWhile (fun x => x != m) = a.take k := by
  induction a generalizing k with
  | nil => simp at hk
  | cons x a ih =>
    cases k with
    | zero =>
      have : x = m := by simpa [zed] using hm
      simp [this]
    | succ k =>
      have hx : x ≠ m := h x (by simp)
      rw [List.takeWhile_cons, if_pos (by simpa using hx), List.take_succ_cons, ih (k := k) (fun y hy => h y (by simp [hy])) (by simpa using hk) (by simpa [zed] using hm)]

set_option maxHeartbeats 4000000 in
set_option maxRecDepth 100000 in
theorem between_any (A : Option Addr) (P : List Int) (c i j : Nat) (w : World) (hl : P.length ≤ 7) (hP : Rd w w.heap.size A (is P)) (ht : Tree P.length (pz P)) (hi : i < P.length) (hj : j < P.length) :
    Calls Try.prog 83 #[.slice A P.length c, .int .i64 i, .int .i64 j] w fun e w' => ∃ v, e = .returned v ∧
      w'.ownsRow w.heap.size 3 1 v (betweenL (way P.length (pz P) i) (way P.length (pz P) j)).length (is ((betweenL (way P.length (pz P) i) (way P.length (pz P) j)).map Int.ofNat)) ∧ Below w.heap.size w w' := by
  have hwl : ∀ i, i < P.length → (way P.length (pz P) i).length ≤ 7 := fun i hi => by
    have : ∀ f y, (wayF (pz P) f y).length ≤ f := by
      intro f
      induction f with
      | zero => intro y; exact Nat.le_refl _
      | succ f ih => intro y; unfold wayF; split <;> simp; exact ih _
    exact Nat.le_trans (this _ _) hl
  obtain ⟨m, hm, hmn, hma, hmb, _⟩ := ht.meet hi hj
  have hla := hwl i hi
  have hlb := hwl j hj
  have hwa := way_any A P c i w hl hP ht hi
  have hwb := fun w' hb => way_any A P c j w' hl (hP.later hb) ht hj
  go_enter Try.func83, Try.ntmps83
  clear ht hwl
  unfold betweenL
  rw [hm, Int.toNat_natCast]
  have HM := Lib.hid hm
  have HMA := Lib.hid hma
  have HMB := Lib.hid hmb
  have HWB := Lib.hid hwb
  clear hm hma hmb hwb
  generalize way P.length (pz P) i = a at hwa HM HMA hla ⊢
  generalize way P.length (pz P) j = b at HWB HM HMB hlb ⊢
  go_wp2_with fail
  refine hwa.mono ?_
  rintro e w1 ⟨va, rfl, howna, hb1⟩
  go_wp2_with fail
  refine (HWB.out w1 hb1).mono ?_
  rintro e w2 ⟨vb, rfl, hownb, hb2⟩
  obtain ⟨Aa, ca, rfl, _, _, hra, _⟩ := Rd.of_own howna
  obtain ⟨Ab, cb, rfl, _, _, hrb, _⟩ := Rd.of_own hownb
  have hra2 := hra.later hb2
  have hB2 := bthen hb1 hb2
  clear hwa HWB howna hownb hra hb1 hb2 hP
  go_wp2_with fail
  go_loop [10, 11] (fun mt x => ∃ k : Nat, k ≤ a.length ∧ x = .int .i64 k ∧ mt = .int .i64 (meetTo a b k)) (fun _ x => a.length - (intOf x).toNat)
  case atStart => exact ⟨0, Nat.zero_le _, rfl, rfl⟩
  case round =>
    obtain ⟨k, hk, rfl, rfl⟩ := hrel
    have hlo := meetOf_lo (a.take k) b
    by_cases hlt : k < a.length
    · obtain ⟨ad, hA, _, hc⟩ := hra2.z_at hlt
      subst hA
      have HN := Lib.hid (meetTo_next (b := b) hlt)
      have hlo : -1 ≤ meetTo a b k := hlo
      generalize zed a k = x at hc HN
      generalize meetTo a b k = mt at HN hlo ⊢
      have hh := has_any Ab b cb x w2 (by omega) hrb
      cases hx : hasB b x
      · have HN2 : Hid (meetTo a b (k + 1) = mt) := Lib.hid (by rw [HN.out, hx]; simp)
        rw [hx] at hh
        clear hx
        go_wp2_with fail
        refine hh.mono ?_
        rintro e w3 ⟨rfl, rfl⟩
        go_wp2_with fail
        go_round
        case rel => exact ⟨k + 1, by omega, by go_num, by rw [HN2.out]⟩
        case measure => simp [intOf]; omega
      · rw [hx] at hh
        by_cases hneg : mt < 0
        · have HN2 : Hid (meetTo a b (k + 1) = x) := Lib.hid (by rw [HN.out, hx, if_pos ⟨hneg, rfl⟩])
          have hnb : decide (mt < 0) = true := by simpa using hneg
          clear hx hneg
          go_wp2_with fail
          refine hh.mono ?_
          rintro e w3 ⟨rfl, rfl⟩
          go_wp2_with fail
          go_round
          case rel => exact ⟨k + 1, by omega, by go_num, by rw [HN2.out]⟩
          case measure => simp [intOf]; omega
        · have HN2 : Hid (meetTo a b (k + 1) = mt) := Lib.hid (by rw [HN.out, if_neg fun c => hneg c.1])
          have hnb : decide (mt < 0) = false := by simpa using hneg
          clear hx hneg
          go_wp2_with fail
          refine hh.mono ?_
          rintro e w3 ⟨rfl, rfl⟩
          go_wp2_with fail
          go_round
          case rel => exact ⟨k + 1, by omega, by go_num, by rw [HN2.out]⟩
          case measure => simp [intOf]; omega
    · obtain rfl : k = a.length := by omega
      have e : meetTo a b a.length = m := by unfold meetTo; rw [List.take_length]; exact HM.out
      rw [e]
      clear hlo e
      go_wp2_with fail
      go_loopw [9, 12] (fun v x wr => ∃ k : Nat, k ≤ a.length ∧ x = .int .i64 k ∧ Hid (∀ y ∈ a.take k, y ≠ m) ∧ wr.ownsRow w2.heap.size 3 1 v ((a.take k).map Int.ofNat).length (is ((a.take k).map Int.ofNat)) ∧ Below w2.heap.size w2 wr) (fun _ x _ => a.length - (intOf x).toNat)
      case atStart => exact ⟨0, Nat.zero_le _, rfl, Lib.hid (by simp), ⟨rfl, .inl ⟨rfl, rfl⟩⟩, Below.refl _ _⟩
      case round =>
        obtain ⟨k, hk, rfl, hno, hown, hb⟩ := hrel
        have HLEN : Hid (((a.take k).map Int.ofNat).length = k) := Lib.hid (by simp; omega)
        have hkl : ((a.take k).map Int.ofNat).length ≤ 7 := by rw [HLEN.out]; omega
        by_cases hlt : k < a.length
        · obtain ⟨ad, hA, _, hc⟩ := (hra2.later hb).z_at hlt
          subst hA
          have HS := Lib.hid (take_snoc a k hlt)
          rw [zed_eq a k hlt] at HS
          have HTW := Lib.hid (takeWhile_at hno.out hlt)
          generalize zed a k = x at hc HS HTW
          generalize hys : (a.take k).map Int.ofNat = ys at hown HLEN hkl
          have HYS := Lib.hid hys
          clear hys
          by_cases hxm : x = m
          · have hxb : ((x : Int) != (m : Int)) = false := by simp [hxm]
            have HTW2 := Lib.hid (HTW.out hxm)
            clear hxm
            go_wp2_with fail
            go_loopw [9, 13] (fun v x ws => ∃ q : Nat, q ≤ b.length ∧ x = .int .i64 q ∧ Hid (∀ y ∈ b.take q, y ≠ m) ∧ ws.ownsRow w2.heap.size 3 1 v (ys ++ (b.take q).map Int.ofNat).length (is (ys ++ (b.take q).map Int.ofNat)) ∧ Below w2.heap.size w2 ws) (fun _ x _ => b.length - (intOf x).toNat)
            case atStart => exact ⟨0, Nat.zero_le _, rfl, Lib.hid (by simp), by rw [List.take_zero, List.map_nil, List.append_nil]; exact hown, hb⟩
            case round =>
              obtain ⟨q, hq, rfl, hno2, hown2, hb2⟩ := hrel
              have hkl2 : (ys ++ (b.take q).map Int.ofNat).length ≤ 14 := by rw [List.length_append, List.length_map, List.length_take]; omega
              by_cases hlt2 : q < b.length
              · obtain ⟨ad2, hA2, _, hc2⟩ := (hrb.later hb2).z_at hlt2
                subst hA2
                have HS2 := Lib.hid (take_snoc b q hlt2)
                rw [zed_eq b q hlt2] at HS2
                have HTX := Lib.hid (takeWhile_at hno2.out hlt2)
                generalize zed b q = x2 at hc2 HS2 HTX
                generalize hzs : ys ++ (b.take q).map Int.ofNat = zs at hown2 hkl2
                have HZS := Lib.hid hzs
                clear hzs
                by_cases hxm : x2 = m
                · have hxb2 : ((x2 : Int) != (m : Int)) = false := by simp [hxm]
                  have HTX2 := Lib.hid (HTX.out hxm)
                  clear hxm
                  go_wp2_with ((with_reducible show wpList _ _ _ _ _ _); refine app_int rfl (.tmp 82) (.tmp 84) rfl w2.heap.size _ _ zs m rfl rfl hown2 (by omega) hb2.size ?_)
                  intro v' w3 hown3 hb3
                  clear hown2
                  go_wp2_with fail
                  go_ret
                  refine ⟨_, rfl, ?_, bthen hB2 (hb2.trans hb3)⟩
                  have e : (a.takeWhile (fun x => x != m) ++ b.takeWhile (fun x => x != m) ++ [m]).map Int.ofNat = zs ++ [(m : Int)] := by
                    rw [HTW2.out, HTX2.out, ← HZS.out, ← HYS.out]; simp
                  have e2 : (a.takeWhile (fun x => x != m) ++ b.takeWhile (fun x => x != m) ++ [m]).length = zs.length + 1 := by
                    rw [← List.length_map (f := Int.ofNat), e, List.length_append]; rfl
                  rw [e, e2]
                  exact own_less hown3 hB2.size
                · have hxb2 : ((x2 : Int) != (m : Int)) = true := by simp; omega
                  have HNO : Hid (∀ y ∈ b.take (q + 1), y ≠ m) := Lib.hid (fun y hy => by
                    rw [HS2.out, List.mem_append, List.mem_singleton] at hy
                    rcases hy with hy | hy
                    · exact hno2.out y hy
                    · subst hy; exact hxm)
                  clear hxm
                  go_wp2_with ((with_reducible show wpList _ _ _ _ _ _); refine app_int rfl (.tmp 75) (.tmp 80) rfl w2.heap.size _ _ zs x2 rfl rfl hown2 (by omega) hb2.size ?_)
                  intro v' w3 hown3 hb3
                  clear hown2
                  go_wp2_with fail
                  go_roundw
                  case rel =>
                    refine ⟨q + 1, by omega, by go_num, HNO, ?_, hb2.trans hb3⟩
                    rw [HS2.out, nat_snoc, ← List.append_assoc, HZS.out, List.length_append]
                    exact hown3
                  case measure => simp [intOf]; omega
              · exfalso
                have h1 := HMB.out
                have h2 := hno2.out
                rw [List.take_of_length_le (by omega)] at h2
                exact h2 m h1 rfl
          · have hxb : ((x : Int) != (m : Int)) = true := by simp; omega
            have HNO : Hid (∀ y ∈ a.take (k + 1), y ≠ m) := Lib.hid (fun y hy => by
              rw [HS.out, List.mem_append, List.mem_singleton] at hy
              rcases hy with hy | hy
              · exact hno.out y hy
              · subst hy; exact hxm)
            clear hxm
            go_wp2_with ((with_reducible show wpList _ _ _ _ _ _); refine app_int rfl (.tmp 54) (.tmp 59) rfl w2.heap.size _ _ ys x rfl rfl hown (by omega) hb.size ?_)
            intro v' w3 hown3 hb3
            clear hown
            go_wp2_with fail
            go_roundw
            case rel =>
              refine ⟨k + 1, by omega, by go_num, HNO, ?_, hb.trans hb3⟩
              rw [HS.out, nat_snoc, HYS.out, List.length_append]
              exact hown3
            case measure => simp [intOf]; omega
        · exfalso
          have h1 := HMA.out
          have h2 := hno.out
          rw [List.take_of_length_le (by omega)] at h2
          exact h2 m h1 rfl
end Go.Proofs.Ytkenbmelhfhidaa

/- The contract of osierref16.Check. -/
namespace Go.Proofs.Ytkenbmelhfhidaa
open Go.RowKit

attribute [local go_sem ↓] uz_and uz_or uz_andNot uz_and_one uz_shr uz_shl_one uz_shl uz_sub uz_sub_one uz_add uz_beq_zero uz_bne_zero uz_beq uz_bne uz_beq_one

/-- The first k between i and j have what the two have in common. -/
def btwTo (E : List (BitVec 32)) (p : Nat → Int) (i j k : Nat) : Prop := ∀ m, m ∈ (betweenL (way E.length p i) (way E.length p j)).take k → subB (ed E i &&& ed E j) (ed E m) = true
def jTo (E : List (BitVec 32)) (p : Nat → Int) (i j : Nat) : Prop := ∀ j', j' < j → betwB E p i j' = true
def iTo (E : List (BitVec 32)) (p : Nat → Int) (i : Nat) : Prop := ∀ i', i' < i → jTo E p i' i'
theorem iTo_all {E : List (BitVec 32)} {p : Nat → Int} (h : iTo E p E.length) : allBetw E p = true := by
  unfold allBetw
  rw [List.all_eq_true]; intro i hi
  rw [List.all_eq_true]; intro j hj
  exact h i (List.mem_range.1 hi) j (List.mem_range.1 hj)
theorem allBetw_false {E : List (BitVec 32)} {p : Nat → Int} {i j m : Nat} (hi : i < E.length) (hj : j < i) (hm : m ∈ betweenL (way E.length p i) (way E.length p j)) (h : subB (ed E i &&& ed E j) (ed E m) = false) : allBetw E p = false := by
  cases hb : allBetw E p
  · rfl
  · unfold allBetw betwB at hb
    simp only [List.all_eq_true, List.mem_range] at hb
    rw [hb i hi j hj m hm] at h; cases h
theorem below_step {P : Nat → Prop} {k : Nat} (h : ∀ b, b < k → P b) (hk : P k) : ∀ b, b < k + 1 → P b := fun b hb => by
  rcases Nat.lt_or_ge b k with c | c
  · exact h b c
  · obtain rfl : b = k := by omega
    exact hk

set_option maxHeartbeats 4000000 in
set_option maxRecDepth 100000 in
theorem r16check_any (V : Int) (A A' : Option Addr) (E : List (BitVec 32)) (P : List Int) (c c' : Nat) (w : World) (hl : E.length ≤ 35184372087808) (hl' : P.length ≤ 35184372087808) (hE : Rd w w.heap.size A (us E)) (hP : Rd w w.heap.size A' (is P)) :
    Calls Try.prog 33 #[.agg #[.int .i64 V, .slice A E.length c], .slice A' P.length c'] w fun e w' => e = .returned (.bool (checkB V E P)) ∧ Below w.heap.size w w' := by
  go_enter Try.func33, Try.ntmps33
  go_wp2_with fail
  have hb0 := below_alloc w (.cells #[.int .i64 V, .slice A E.length c] 24)
  have hG0 : Row (w.alloc (.cells #[.int .i64 V, .slice A E.length c] 24)) w.heap.size 24 [.int .i64 V, .slice A E.length c] := Row.new _ _ _
  generalize w.alloc _ = W0 at hb0 hG0 ⊢
  refine (r14valid_any V A E c _ hl (hE.later hb0)).mono ?_
  rintro e w1 ⟨rfl, hb1⟩
  have hB1 := bthen hb0 hb1
  have hG1 := hG0.later hb1
  have d1 : w1.cell? ⟨w.heap.size, 1, none⟩ = some (.slice A E.length c) := hG1.cell 1
  have hlt0 := hG1.lt
  clear hG0 hb0 hb1
  cases hv : validB V E
  · have hf : Hid (checkB V E P = false) := Lib.hid (by unfold checkB; rw [hv]; rfl)
    go_wp2_with fail
    go_ret
    exact ⟨by first | rfl | (rw [hf.out]; rfl), hB1⟩
  · by_cases hlen : P.length = E.length
    · have hlb : ((P.length : Int) != (E.length : Int)) = false := by simp [hlen]
      have h7 := (validB_of hv).2.2.1
      have HL := Lib.hid hlen
      have HV := Lib.hid hv
      clear hlen hv
      go_wp2_with fail
      refine (r16isTree_any A' P c' w1 hl' (hP.later hB1)).mono ?_
      rintro e w2 ⟨rfl, hb2⟩
      have hB2 := bthen hB1 hb2
      have hG2 := hG1.later hb2
      cases ht : treeB P
      · have hf : Hid (checkB V E P = false) := Lib.hid (by unfold checkB; rw [ht]; simp)
        clear ht
        go_wp2_with fail
        go_ret
        exact ⟨by first | rfl | (rw [hf.out]; rfl), hB2⟩
      · have HT0 := Lib.hid ((treeB_iff P).1 ht).2
        have HT : Hid (Tree E.length (pz P)) := Lib.hid (by rw [← HL.out]; exact HT0.out)
        have hC : Hid (checkB V E P = allBetw E (pz P)) := Lib.hid (by
          unfold checkB; rw [HV.out, ht, HL.out, Bool.eq_iff_iff, allBetw_iff HT.out, ← oneTo_iff fun i hi => (HT.out.rng i hi).1]; simp)
        have hE2 := hE.later hB2
        have hP2 := hP.later hB2
        clear ht d1 hG1 hb2 hB1 hE hP
        go_wp2_with fail
        go_loopg [5, 6, 7, 8] (P.length) (fun gk x _ _ _ wr => ∃ i : Nat, i ≤ P.length ∧ gk = P.length - i ∧ x = .int .i64 i ∧ Hid (iTo E (pz P) i) ∧ Below w2.heap.size w2 wr)
        case atStart => exact ⟨0, Nat.zero_le _, rfl, rfl, Lib.hid (fun i hi => absurd hi (Nat.not_lt_zero i)), Below.refl _ _⟩
        case round =>
          obtain ⟨i, hi, rfl, rfl, HI, hb⟩ := hrel
          by_cases hli : i < P.length
          · go_wp2_with fail
            go_loopg [6, 7, 8] i (fun gk y _ _ ws => ∃ j : Nat, j ≤ i ∧ gk = i - j ∧ y = .int .i64 j ∧ Hid (jTo E (pz P) i j) ∧ Below w2.heap.size w2 ws)
            case atStart => exact ⟨0, Nat.zero_le _, rfl, rfl, Lib.hid (fun i hi => absurd hi (Nat.not_lt_zero i)), hb⟩
            case round =>
              obtain ⟨j, hj, rfl, rfl, HJ, hb⟩ := hrel
              obtain ⟨ws, hws⟩ : ∃ ws : World, ws = _ ∧ Below w2.heap.size w2 ws := ⟨_, rfl, hb⟩
              obtain ⟨e0, hbs⟩ := hws
              subst e0
              by_cases hlj : j < i
              · have hbt := between_any A' P c' i j ws (by have := HL.out; omega) (hP2.later hbs) HT0.out hli (by omega)
                obtain ⟨L, hL⟩ : ∃ L, L = betweenL (way P.length (pz P) i) (way P.length (pz P) j) := ⟨_, rfl⟩
                rw [← hL] at hbt
                have HLL : Hid (L = betweenL (way E.length (pz P) i) (way E.length (pz P) j)) := Lib.hid (by rw [hL, HL.out])
                have HLT : Hid (∀ m, m ∈ L → m < E.length) := Lib.hid (fun m hm => by
                  rw [HLL.out] at hm
                  have h1 : i < E.length := by have := HL.out; omega
                  obtain ⟨_, _, _, _, _, hk⟩ := HT.out.mem_between h1 (by omega : j < E.length)
                  rcases ((hk m).1 hm).1 with x | x
                  · exact HT.out.way_lt i h1 m x
                  · exact HT.out.way_lt j (by omega) m x)
                have hll : L.length ≤ 35184372087808 := by
                  have hwl : ∀ f y, (wayF (pz P) f y).length ≤ f := by
                    intro f
                    induction f with
                    | zero => intro y; exact Nat.le_refl _
                    | succ f ih => intro y; unfold wayF; split <;> simp; exact ih _
                  have h1 := hwl P.length i
                  have h2 := hwl P.length j
                  have h3 := (List.takeWhile_sublist (fun x => x != (meetOf (way P.length (pz P) i) (way P.length (pz P) j)).toNat) (l := way P.length (pz P) i)).length_le
                  have h4 := (List.takeWhile_sublist (fun x => x != (meetOf (way P.length (pz P) i) (way P.length (pz P) j)).toNat) (l := way P.length (pz P) j)).length_le
                  rw [hL]
                  unfold betweenL
                  rw [List.length_append, List.length_append]
                  unfold way at h3 h4 ⊢
                  have h5 := HL.out
                  simp only [List.length_singleton]
                  omega
                clear hL
                go_wp2_with fail
                refine hbt.mono ?_
                rintro e w3 ⟨v, rfl, hown, hb3⟩
                obtain ⟨Av, cv, rfl, _, _, hrv, _⟩ := Rd.of_own hown
                have hB3 := bthen hbs hb3
                clear hbt hown hb3
                go_wp2_with fail
                go_loopg [8] (L.length) (fun gk x wt => ∃ k : Nat, k ≤ L.length ∧ gk = L.length - k ∧ x = .int .i64 k ∧ Hid (btwTo E (pz P) i j k) ∧ Below w3.heap.size w3 wt)
                case atStart => exact ⟨0, Nat.zero_le _, rfl, rfl, Lib.hid (fun m hm => by simp at hm), Below.refl _ _⟩
                case round =>
                  obtain ⟨k, hk, rfl, rfl, HK, hb4⟩ := hrel
                  by_cases hlk : k < L.length
                  · obtain ⟨ad, hA, _, hc⟩ := (hrv.later hb4).z_at hlk
                    have hmem := zed_mem L k hlk
                    have hS := take_snoc L k hlk
                    rw [zed_eq L k hlk] at hS
                    have hml := HLT.out _ hmem
                    have hB4 := bthen hB3 hb4
                    have hE4 := hE2.later hB4
                    have hiE : i < E.length := by have := HL.out; omega
                    obtain ⟨ae, hAe, _, ce1⟩ := hE4.e_at hiE
                    obtain ⟨ae2, hAe2, _, ce2⟩ := hE4.e_at (show j < E.length by omega)
                    obtain ⟨ae3, hAe3, _, ce3⟩ := hE4.e_at hml
                    obtain rfl : ae = ae2 := by rw [hAe] at hAe2; injection hAe2
                    obtain rfl : ae = ae3 := by rw [hAe] at hAe3; injection hAe3
                    have d1 : World.cell? _ ⟨w.heap.size, 1, none⟩ = some (.slice A E.length c) := (hG2.later hB4).cell 1
                    subst hA hAe
                    have HF := Lib.hid (fun h => allBetw_false (p := pz P) hiE hlj (m := zed L k) (by rw [← HLL.out]; exact hmem) h)
                    have HN : Hid (subB (ed E i &&& ed E j) (ed E (zed L k)) = true → btwTo E (pz P) i j (k + 1)) := Lib.hid (fun h m hm => by
                      rw [← HLL.out, hS, List.mem_append, List.mem_singleton] at hm
                      rcases hm with hm | hm
                      · exact HK.out m (by rw [← HLL.out]; exact hm)
                      · subst hm; exact h)
                    clear hmem hS hAe2 hAe3
                    generalize zed L k = m at hc hml ce3 HF HN
                    generalize ed E i = x at ce1 HF HN
                    generalize ed E j = y at ce2 HF HN
                    generalize ed E m = z at ce3 HF HN
                    have a1 : (0 : Int) ≤ i := by omega
                    have a2 : (i : Int) < E.length := by omega
                    have a3 : (0 : Int) ≤ j := by omega
                    have a4 : (j : Int) < E.length := by omega
                    have a5 : (0 : Int) ≤ m := by omega
                    have a6 : (m : Int) < E.length := by omega
                    have a7 : (0 : Int) ≤ k := by omega
                    have a8 : (k : Int) < L.length := by omega
                    have hbo : ∀ w, Calls Try.prog 41 #[.int .u32 (uz x), .int .u32 (uz y)] w fun e w' => e = .returned (.int .u32 (uz (x &&& y))) ∧ w = w' := fun w => both_any x y w
                    have HBO := Lib.hid hbo
                    clear hbo
                    cases hs : subB (x &&& y) z
                    · have hwi : ∀ w, Calls Try.prog 57 #[.int .u32 (uz (x &&& y)), .int .u32 (uz z)] w fun e w' => e = .returned (.bool false) ∧ w = w' := fun w => by rw [← hs]; exact within_any _ z w
                      have HWI := Lib.hid hwi
                      have hf : Hid (checkB V E P = false) := Lib.hid (by rw [hC.out]; exact HF.out hs)
                      clear hwi hs
                      go_wp2_with fail
                      go_quiet (first | (go_at_call 41; exact pure_quiet HBO.out) | (go_at_call 57; exact pure_quiet HWI.out))
                      go_wp2_with fail
                      go_ret
                      exact ⟨by first | rfl | (rw [hf.out]; rfl), below_drewN (bthen hB2 hB4) _⟩
                    · have hwi : ∀ w, Calls Try.prog 57 #[.int .u32 (uz (x &&& y)), .int .u32 (uz z)] w fun e w' => e = .returned (.bool true) ∧ w = w' := fun w => by rw [← hs]; exact within_any _ z w
                      have HWI := Lib.hid hwi
                      have HN2 := Lib.hid (HN.out hs)
                      clear hwi hs
                      go_wp2_with fail
                      go_quiet (first | (go_at_call 41; exact pure_quiet HBO.out) | (go_at_call 57; exact pure_quiet HWI.out))
                      go_wp2_with fail
                      go_roundg (L.length - (k + 1))
                      case measure => omega
                      case rel => exact ⟨k + 1, by omega, rfl, by go_num, HN2, below_drewN hb4 _⟩
                  · have HJ2 : Hid (jTo E (pz P) i (j + 1)) := Lib.hid (below_step HJ.out (by
                      unfold betwB
                      rw [List.all_eq_true]
                      intro m hm
                      have h1 := HK.out m
                      rw [← HLL.out, List.take_of_length_le (by omega)] at h1
                      exact h1 (by rw [HLL.out]; exact hm)))
                    have hB4 := bthen hB3 hb4
                    go_wp2_with fail
                    go_roundg (i - (j + 1))
                    case measure => omega
                    case rel => exact ⟨j + 1, by omega, rfl, by go_num, HJ2, hB4⟩
              · obtain rfl : j = i := by omega
                have HI2 : Hid (iTo E (pz P) (j + 1)) := Lib.hid (below_step HI.out HJ.out)
                go_wp2_with fail
                go_roundg (P.length - (j + 1))
                case measure => omega
                case rel => exact ⟨j + 1, by omega, rfl, by go_num, HI2, hbs⟩
          · obtain rfl : i = P.length := by omega
            have hf : Hid (checkB V E P = true) := Lib.hid (by rw [hC.out]; exact iTo_all (by rw [← HL.out]; exact HI.out))
            go_wp2_with fail
            go_ret
            exact ⟨by first | rfl | (rw [hf.out]; rfl), bthen hB2 hb⟩
    · have hlb : ((P.length : Int) != (E.length : Int)) = true := by simp; omega
      have hf : Hid (checkB V E P = false) := Lib.hid (by unfold checkB; rw [show (P.length == E.length) = false by simpa using hlen]; simp)
      clear hlen hv
      go_wp2_with fail
      go_ret
      exact ⟨by first | rfl | (rw [hf.out]; rfl), hB1⟩
end Go.Proofs.Ytkenbmelhfhidaa

/- The contracts of osierref14.Size, osierref15.SameSets, jointree.Keys, osierref16.Keys. -/
namespace Go.Proofs.Ytkenbmelhfhidaa
open Go.RowKit

attribute [local go_sem ↓] uz_and uz_or uz_andNot uz_and_one uz_shr uz_shl_one uz_shl uz_sub uz_sub_one uz_add uz_beq_zero uz_bne_zero uz_beq uz_bne uz_beq_one

theorem size_any (x : BitVec 32) (w : World) : Calls Try.prog 40 #[.int .u32 (uz x)] w fun e w' => e = .returned (.int .i64 (sizeW x : Nat)) ∧ w = w' := by
  go_enter Try.func40, Try.ntmps40
  go_wp2_with fail
  go_loop [3, 4] (fun n i => ∃ k : Nat, k ≤ 32 ∧ i = .int .i64 k ∧ n = .int .i64 (cntB (fun v => x.getLsbD v) k : Nat)) (fun _ i => 32 - (intOf i).toNat)
  case atStart => exact ⟨0, by omega, rfl, rfl⟩
  case round =>
    obtain ⟨k, hk, rfl, rfl⟩ := hrel
    have hcl := cntB_le (fun v => x.getLsbD v) k
    by_cases hlt : k < 32
    · have hi := inB_nat x k
      have HT := Lib.hid (cntB_t (p := fun v => x.getLsbD v) (k := k))
      have HF := Lib.hid (cntB_f (p := fun v => x.getLsbD v) (k := k))
      generalize cntB (fun v => x.getLsbD v) k = r at hcl HT HF ⊢
      cases hb : inB x k
      · have HF2 := Lib.hid (HF.out (by rw [← hi]; exact hb))
        clear hi
        go_wp2_with (go_at_call 58; refine (in_any _ _ _).mono ?_; rintro e w' ⟨rfl, rfl⟩)
        go_round
        case rel => exact ⟨k + 1, by omega, by go_num, by rw [HF2.out]⟩
        case measure => simp [intOf]; omega
      · have HT2 := Lib.hid (HT.out (by rw [← hi]; exact hb))
        clear hi
        go_wp2_with (go_at_call 58; refine (in_any _ _ _).mono ?_; rintro e w' ⟨rfl, rfl⟩)
        go_round
        case rel => exact ⟨k + 1, by omega, by go_num, by rw [HT2.out]; go_num⟩
        case measure => simp [intOf]; omega
    · obtain rfl : k = 32 := by omega
      have HE : Hid (cntB (fun v => x.getLsbD v) 32 = sizeW x) := rfl
      go_wp2_with fail
      go_ret
      exact ⟨by first | rfl | (rw [HE.out]; rfl), rfl⟩

theorem sameSets_any (A A' : Option Addr) (E F : List (BitVec 32)) (c c' : Nat) (w : World) (hl : E.length ≤ 35184372087808) (hl' : F.length ≤ 35184372087808) (hE : Rd w w.heap.size A (us E)) (hF : Rd w w.heap.size A' (us F)) :
    Calls Try.prog 44 #[.slice A E.length c, .slice A' F.length c'] w fun e w' => e = .returned (.bool (E == F)) ∧ ∃ n, w' = w.drewN n := by
  by_cases hlen : E.length = F.length
  · have hne : ((E.length : Int) != (F.length : Int)) = false := by simp [hlen]
    have HL := Lib.hid hlen
    clear hlen
    go_enter Try.func44, Try.ntmps44
    go_wp2_with fail
    go_loopw [5] (fun i wr => ∃ k : Nat, k ≤ E.length ∧ i = .int .i64 k ∧ Hid (E.take k = F.take k) ∧ ∃ n, wr = w.drewN n) (fun i _ => E.length - (intOf i).toNat)
    case atStart => exact ⟨0, Nat.zero_le _, rfl, rfl, 0, rfl⟩
    case round =>
      obtain ⟨k, hk, rfl, heq, n, rfl⟩ := hrel
      by_cases hlt : k < E.length
      · have hlt' : k < F.length := by have := HL.out; omega
        obtain ⟨ad, hA, _, hc⟩ := hE.u_at hlt
        obtain ⟨ad', hA', _, hc'⟩ := hF.u_at hlt'
        subst hA
        subst hA'
        have hs := take_snoc E k hlt
        have hs' := take_snoc F k hlt'
        have hat : E = F → E[k] = F[k] := fun h => by subst h; rfl
        generalize E[k] = x at hc hs hat
        generalize F[k] = y at hc' hs' hat
        have HS := Lib.hid hs
        have HS' := Lib.hid hs'
        have HA := Lib.hid hat
        clear hs hs' hat
        have b1 : (0 : Int) ≤ k := by omega
        have b2 : (k : Int) < E.length := by omega
        have b3 : (k : Int) < F.length := by omega
        by_cases hxy : x = y
        · have hne' : (x != y) = false := by simpa using hxy
          have HX := Lib.hid hxy
          clear hxy
          go_wp2_with fail
          go_quiet (fail)
          go_wp2_with fail
          go_roundw
          case rel => exact ⟨k + 1, by omega, by go_num, by show _ = _; rw [HS.out, HS'.out, heq.out, HX.out], _, rfl⟩
          case measure => simp [intOf]; omega
        · have hne' : (x != y) = true := by simpa using hxy
          have hf : (E == F) = false := by simpa using fun h => hxy (HA.out h)
          clear hxy
          go_wp2_with fail
          go_quiet (fail)
          go_wp2_with fail
          go_ret
          exact ⟨by first | rfl | (rw [hf]; rfl), _, by first | rfl | exact World.drewN_drewN _ _ _⟩
      · have hf : (E == F) = true := by
          have := heq.out
          rw [List.take_of_length_le (by omega), List.take_of_length_le (by have := HL.out; omega)] at this
          simpa using this
        go_wp2_with fail
        go_ret
        exact ⟨by first | rfl | (rw [hf]; rfl), _, rfl⟩
  · have hne : ((E.length : Int) != (F.length : Int)) = true := by simp; omega
    have hf : (E == F) = false := by simpa using fun h => hlen (congrArg List.length h)
    have HL := Lib.hid hlen
    clear hlen
    go_enter Try.func44, Try.ntmps44
    go_wp2_with fail
    go_ret
    exact ⟨by first | rfl | (rw [hf]; rfl), 0, rfl⟩
end Go.Proofs.Ytkenbmelhfhidaa

/- The contracts of jointree.Keys and osierref16.Keys. -/
namespace Go.Proofs.Ytkenbmelhfhidaa
open Go.RowKit

attribute [local go_sem ↓] uz_and uz_or uz_andNot uz_and_one uz_shr uz_shl_one uz_shl uz_sub uz_sub_one uz_add uz_beq_zero uz_bne_zero uz_beq uz_bne uz_beq_one

/-- n words, told by a function. -/
def wrow (n : Nat) (f : Nat → BitVec 32) : List (BitVec 32) := (List.range n).map f
@[simp] theorem wrow_length (n : Nat) (f : Nat → BitVec 32) : (wrow n f).length = n := by simp [wrow]
theorem wrow_set (n : Nat) (f : Nat → BitVec 32) (k : Nat) (x : BitVec 32) : (us (wrow n f)).set k (.int .u32 (uz x)) = us (wrow n (updS f k x)) := by
  unfold us wrow
  rw [List.map_map, List.map_map]
  apply List.ext_getElem?
  intro i
  rw [List.getElem?_set, List.getElem?_map, List.getElem?_map]
  by_cases h : k = i
  · subst h
    by_cases h2 : k < n <;> simp [h2, updS]
  · rw [if_neg h]
    by_cases h2 : i < n <;> simp [h2, updS, Ne.symm h]
theorem zeros_wrow (n : Nat) : zeros (.int .u32 0) n = us (wrow n fun _ => 0#32) := by
  unfold zeros us wrow
  rw [List.map_map]
  apply List.ext_getElem?
  intro i
  by_cases h : i < n <;> simp [h, uz]

/-- What edge i has in common with its parent. -/
def keyAt (E : List (BitVec 32)) (p : Nat → Int) (i : Nat) : BitVec 32 := if 0 ≤ p i then ed E i &&& ed E (p i).toNat else 0#32
def keyTo (E : List (BitVec 32)) (p : Nat → Int) (k i : Nat) : BitVec 32 := if i < k then keyAt E p i else 0#32
def keyL (E : List (BitVec 32)) (p : Nat → Int) (n : Nat) : List (BitVec 32) := wrow n (keyAt E p)
theorem keyTo_zero (E : List (BitVec 32)) (p : Nat → Int) : keyTo E p 0 = fun _ => 0#32 := by funext i; simp [keyTo]
theorem keyTo_all (E : List (BitVec 32)) (p : Nat → Int) (n : Nat) : wrow n (keyTo E p n) = keyL E p n := by
  unfold keyL wrow
  apply List.map_congr_left
  intro i hi
  simp [keyTo, List.mem_range.1 hi]
theorem keyTo_neg {E : List (BitVec 32)} {p : Nat → Int} {k : Nat} (h : p k < 0) : keyTo E p (k + 1) = keyTo E p k := by
  funext i
  unfold keyTo
  by_cases h1 : i = k
  · subst h1
    have : ¬ 0 ≤ p i := by omega
    simp [keyAt, this]
  · by_cases h2 : i < k
    · simp [h2, Nat.lt_succ_of_lt h2]
    · have : ¬ i < k + 1 := by omega
      simp [h2, this]
theorem keyTo_pos {E : List (BitVec 32)} {p : Nat → Int} {k q : Nat} (h : p k = (q : Int)) : updS (keyTo E p k) k (ed E k &&& ed E q) = keyTo E p (k + 1) := by
  funext i
  unfold keyTo updS
  by_cases h1 : i = k
  · subst h1
    simp [keyAt, h]
  · by_cases h2 : i < k
    · simp [h1, h2, Nat.lt_succ_of_lt h2]
    · have : ¬ i < k + 1 := by omega
      simp [h1, h2, this]

/-- What Keys answers. -/
def keysB (V : Int) (E : List (BitVec 32)) (P : List Int) : List (BitVec 32) := if validB V E = true ∧ checkB V E P = true then keyL E (pz P) P.length else []
def keysC (V : Int) (E : List (BitVec 32)) (P : List Int) : Int := if validB V E = true then if checkB V E P = true then 0 else 160 else 140

theorem check_tree {V : Int} {E : List (BitVec 32)} {P : List Int} (h : checkB V E P = true) : P.length = E.length ∧ treeB P = true ∧ E.length ≤ 7 := by
  unfold checkB at h
  simp only [Bool.and_eq_true, beq_iff_eq] at h
  exact ⟨h.1.1.2, h.1.2, (validB_of h.1.1.1).2.2.1⟩

set_option maxHeartbeats 4000000 in
set_option maxRecDepth 100000 in
theorem keys_any (V : Int) (A A' : Option Addr) (E : List (BitVec 32)) (P : List Int) (c c' : Nat) (w : World) (hl : E.length ≤ 35184372087808) (hl' : P.length ≤ 35184372087808) (hE : Rd w w.heap.size A (us E)) (hP : Rd w w.heap.size A' (is P)) :
    Calls Try.prog 42 #[.agg #[.int .i64 V, .slice A E.length c], .slice A' P.length c'] w fun e w' => ∃ B d, e = .returned (.tuple #[.slice B (keysB V E P).length d, .int .i64 (keysC V E P)]) ∧ Rd w' w'.heap.size B (us (keysB V E P)) ∧ Below w.heap.size w w' := by
  have hmk := mk_u32 P.length hl'
  go_enter Try.func42, Try.ntmps42
  go_wp2_with fail
  have hb0 := below_alloc w (.cells #[.int .i64 V, .slice A E.length c] 24)
  have hG0 : Row (w.alloc (.cells #[.int .i64 V, .slice A E.length c] 24)) w.heap.size 24 [.int .i64 V, .slice A E.length c] := Row.new _ _ _
  generalize w.alloc _ = W0 at hb0 hG0 ⊢
  refine (valid_any V A E c W0 hl (hE.later hb0)).mono ?_
  rintro e w1 ⟨rfl, hb1⟩
  have hB1 := bthen hb0 hb1
  have hG1 := hG0.later hb1
  have d0 : w1.cell? ⟨w.heap.size, 0, none⟩ = some (.int .i64 V) := hG1.cell 0
  have d1 : w1.cell? ⟨w.heap.size, 1, none⟩ = some (.slice A E.length c) := hG1.cell 1
  have hlt0 := hG1.lt
  have hE1 := hE.later hB1
  have hP1 := hP.later hB1
  clear hG0 hb0 hb1
  cases hv : validB V E
  · have h1 : Hid (keysB V E P = []) := Lib.hid (by unfold keysB; rw [hv]; simp)
    have h2 : Hid (keysC V E P = 140) := Lib.hid (by unfold keysC; rw [hv]; simp)
    clear hmk
    go_wp2_with fail
    go_ret2
    exact ⟨none, 0, by rw [h1.out, h2.out]; rfl, by rw [h1.out]; exact Rd.nil, hB1⟩
  · have HV := Lib.hid hv
    clear hv
    go_wp2_with fail
    refine (check_any V A A' E P c c' w1 hl hl' hE1 hP1).mono ?_
    rintro e w2 ⟨rfl, hb2⟩
    have hB2 := bthen hB1 hb2
    have hG2 := hG1.later hb2
    have f1 : w2.cell? ⟨w.heap.size, 1, none⟩ = some (.slice A E.length c) := hG2.cell 1
    have hE2 := hE1.later hb2
    have hP2 := hP1.later hb2
    clear d0 d1 hE hP hE1 hP1 hB1 hb2 hlt0
    have hlt0 := hG2.lt
    cases hu : checkB V E P
    · have h1 : Hid (keysB V E P = []) := Lib.hid (by unfold keysB; rw [hu]; simp)
      have h2 : Hid (keysC V E P = 160) := Lib.hid (by unfold keysC; rw [HV.out, hu]; simp)
      clear hmk
      go_wp2_with fail
      go_ret2
      exact ⟨none, 0, by rw [h1.out, h2.out]; rfl, by rw [h1.out]; exact Rd.nil, hB2⟩
    · have h1 : Hid (keysB V E P = keyL E (pz P) P.length) := Lib.hid (by unfold keysB; rw [HV.out, hu]; simp)
      have h2 : Hid (keysC V E P = 0) := Lib.hid (by unfold keysC; rw [HV.out, hu]; simp)
      obtain ⟨q1, q2, q3⟩ := check_tree hu
      have HL := Lib.hid q1
      have HT := Lib.hid ((treeB_iff P).1 q2).2
      have h7 : P.length ≤ 7 := by omega
      clear hu q1 q2 q3
      go_wp2_with fail
      have hR0 : Row (w2.alloc (.cells (zeros (.int .u32 0) P.length).toArray 39)) w2.heap.size 39 (us (wrow P.length (keyTo E (pz P) 0))) := by rw [keyTo_zero, ← zeros_wrow]; exact Row.new _ _ _
      have hb3 := below_alloc w2 (.cells (zeros (.int .u32 0) P.length).toArray 39)
      have hB3 := bthen hB2 hb3
      have hG3 := hG2.later hb3
      have hE2g := hE2.below hb3
      have hP2g := hP2.below hb3
      generalize hg : w2.heap.size = g at hR0 hb3 hE2g hP2g ⊢
      rw [hg] at hlt0
      generalize w2.alloc _ = w3 at hR0 hb3 hB3 hG3 hE2g hP2g ⊢
      clear hmk hE2 hP2 f1 hG2 hB2
      go_loopw [7, 8, 21] (fun _ _ i wr => ∃ k : Nat, k ≤ P.length ∧ i = .int .i64 k ∧ Row wr g 39 (us (wrow P.length (keyTo E (pz P) k))) ∧ Below g w3 wr) (fun _ _ i _ => P.length - (intOf i).toNat)
      case atStart => exact ⟨0, Nat.zero_le _, rfl, hR0, Below.refl _ _⟩
      case round =>
        obtain ⟨k, hk, rfl, hR, hb⟩ := hrel
        by_cases hlt : k < P.length
        · have hltE : k < E.length := by have := HL.out; omega
          have f1 : wr.cell? ⟨w.heap.size, 1, none⟩ = some (.slice A E.length c) := (hG3.below hb hlt0).cell 1
          obtain ⟨ad, hA, hA1, hc⟩ := (hE2g.below hb).e_at hltE
          obtain ⟨ad', hA', hA1', hc'⟩ := (hP2g.below hb).p_at hlt
          have hr := HT.out.rng k hlt
          have hw8 : wr.cell? ⟨g, k, none⟩ = some (.int .u32 (uz (keyTo E (pz P) k k))) := (hR.cell k).trans (by unfold us wrow; simp [hlt])
          have hw9 := hR.frozen k
          have b1 : (0 : Int) ≤ k := by omega
          have b2 : (k : Int) < E.length := by omega
          have b3 : (k : Int) < P.length := by omega
          have hg1 : g < wr.heap.size := hR.lt
          subst hA hA'
          by_cases hp : 0 ≤ pz P k
          · obtain ⟨q, hq⟩ := Int.eq_ofNat_of_zero_le hp
            have hqE : q < E.length := by have := HL.out; omega
            obtain ⟨ad3, hA3, _, hc3⟩ := (hE2g.below hb).e_at hqE
            obtain rfl : ad = ad3 := by injection hA3
            rw [hq] at hc'
            have HK := Lib.hid (keyTo_pos (E := E) hq)
            have q1 : (0 : Int) ≤ q := by omega
            have q2 : (q : Int) < E.length := by omega
            generalize ed E k = x at hc HK
            generalize ed E q = y at hc3 HK
            clear hp hq hr hA3
            go_wp2_with fail
            generalize hold : uz (keyTo E (pz P) k k) = old at hw8
            clear hold
            go_still_tail 13, (by kernel_rfl)
            change wpList _ _ _ _ _ wr.drew
            have hR2 : Row wr.drew g 39 (us (wrow P.length (keyTo E (pz P) k))) := hR
            have hb2 := below_drewN hb 1
            replace hb2 : Below g w3 wr.drew := hb2
            replace hw8 : wr.drew.cell? ⟨g, k, none⟩ = some (.int .u32 old) := hw8
            replace hw9 : wr.drew.frozen? ⟨g, k, none⟩ = false := hw9
            replace hg1 : g < wr.drew.heap.size := hg1
            clear hR hb hc hc' hc3 f1
            generalize wr.drew = w4 at hR2 hb2 hw8 hw9 hg1 ⊢
            go_wp2_with fail
            go_roundw
            case measure => simp [intOf]; omega
            case rel =>
              have h5 := hR2.set_ k (.int .u32 (uz (x &&& y)))
              rw [wrow_set, HK.out] at h5
              exact ⟨k + 1, by omega, by go_num, h5, hb2.setCell (Nat.le_refl _) _⟩
          · have hp1 : pz P k < 0 := by omega
            have HK := Lib.hid (keyTo_neg (E := E) hp1)
            generalize pz P k = p at hc' hp1
            have hd : decide ((0 : Int) ≤ p) = false := decide_eq_false (by omega)
            clear hp hr hp1
            go_wp2_with fail
            go_roundw
            case measure => simp [intOf]; omega
            case rel => exact ⟨k + 1, by omega, by go_num, by rw [HK.out]; exact hR, hb⟩
        · obtain rfl : k = P.length := by omega
          go_wp2_with fail
          go_ret2
          have hlen : (keysB V E P).length = P.length := by rw [h1.out]; unfold keyL; simp
          refine ⟨some ⟨g, 0, none⟩, P.length, by rw [hlen, h2.out]; rfl, ?_, ?_⟩
          · rw [h1.out, ← keyTo_all]; exact hR.rd
          · exact hB3.trans (hb.mono (Nat.le_of_lt hlt0))
set_option maxHeartbeats 4000000 in
set_option maxRecDepth 100000 in
theorem r16keys_any (V : Int) (A A' : Option Addr) (E : List (BitVec 32)) (P : List Int) (c c' : Nat) (w : World) (hl : E.length ≤ 35184372087808) (hl' : P.length ≤ 35184372087808) (hE : Rd w w.heap.size A (us E)) (hP : Rd w w.heap.size A' (is P)) :
    Calls Try.prog 43 #[.agg #[.int .i64 V, .slice A E.length c], .slice A' P.length c'] w fun e w' => ∃ B d, e = .returned (.tuple #[.slice B (keysB V E P).length d, .int .i64 (keysC V E P)]) ∧ Rd w' w'.heap.size B (us (keysB V E P)) ∧ Below w.heap.size w w' := by
  have hmk := mk_u32 P.length hl'
  go_enter Try.func43, Try.ntmps43
  go_wp2_with fail
  have hb0 := below_alloc w (.cells #[.int .i64 V, .slice A E.length c] 24)
  have hG0 : Row (w.alloc (.cells #[.int .i64 V, .slice A E.length c] 24)) w.heap.size 24 [.int .i64 V, .slice A E.length c] := Row.new _ _ _
  generalize w.alloc _ = W0 at hb0 hG0 ⊢
  refine (r14valid_any V A E c W0 hl (hE.later hb0)).mono ?_
  rintro e w1 ⟨rfl, hb1⟩
  have hB1 := bthen hb0 hb1
  have hG1 := hG0.later hb1
  have d0 : w1.cell? ⟨w.heap.size, 0, none⟩ = some (.int .i64 V) := hG1.cell 0
  have d1 : w1.cell? ⟨w.heap.size, 1, none⟩ = some (.slice A E.length c) := hG1.cell 1
  have hlt0 := hG1.lt
  have hE1 := hE.later hB1
  have hP1 := hP.later hB1
  clear hG0 hb0 hb1
  cases hv : validB V E
  · have h1 : Hid (keysB V E P = []) := Lib.hid (by unfold keysB; rw [hv]; simp)
    have h2 : Hid (keysC V E P = 140) := Lib.hid (by unfold keysC; rw [hv]; simp)
    clear hmk
    go_wp2_with fail
    go_ret2
    exact ⟨none, 0, by rw [h1.out, h2.out]; rfl, by rw [h1.out]; exact Rd.nil, hB1⟩
  · have HV := Lib.hid hv
    clear hv
    go_wp2_with fail
    refine (r16check_any V A A' E P c c' w1 hl hl' hE1 hP1).mono ?_
    rintro e w2 ⟨rfl, hb2⟩
    have hB2 := bthen hB1 hb2
    have hG2 := hG1.later hb2
    have f1 : w2.cell? ⟨w.heap.size, 1, none⟩ = some (.slice A E.length c) := hG2.cell 1
    have hE2 := hE1.later hb2
    have hP2 := hP1.later hb2
    clear d0 d1 hE hP hE1 hP1 hB1 hb2 hlt0
    have hlt0 := hG2.lt
    cases hu : checkB V E P
    · have h1 : Hid (keysB V E P = []) := Lib.hid (by unfold keysB; rw [hu]; simp)
      have h2 : Hid (keysC V E P = 160) := Lib.hid (by unfold keysC; rw [HV.out, hu]; simp)
      clear hmk
      go_wp2_with fail
      go_ret2
      exact ⟨none, 0, by rw [h1.out, h2.out]; rfl, by rw [h1.out]; exact Rd.nil, hB2⟩
    · have h1 : Hid (keysB V E P = keyL E (pz P) P.length) := Lib.hid (by unfold keysB; rw [HV.out, hu]; simp)
      have h2 : Hid (keysC V E P = 0) := Lib.hid (by unfold keysC; rw [HV.out, hu]; simp)
      obtain ⟨q1, q2, q3⟩ := check_tree hu
      have HL := Lib.hid q1
      have HT := Lib.hid ((treeB_iff P).1 q2).2
      have h7 : P.length ≤ 7 := by omega
      clear hu q1 q2 q3
      go_wp2_with fail
      have hR0 : Row (w2.alloc (.cells (zeros (.int .u32 0) P.length).toArray 39)) w2.heap.size 39 (us (wrow P.length (keyTo E (pz P) 0))) := by rw [keyTo_zero, ← zeros_wrow]; exact Row.new _ _ _
      have hb3 := below_alloc w2 (.cells (zeros (.int .u32 0) P.length).toArray 39)
      have hB3 := bthen hB2 hb3
      have hG3 := hG2.later hb3
      have hE2g := hE2.below hb3
      have hP2g := hP2.below hb3
      generalize hg : w2.heap.size = g at hR0 hb3 hE2g hP2g ⊢
      rw [hg] at hlt0
      generalize w2.alloc _ = w3 at hR0 hb3 hB3 hG3 hE2g hP2g ⊢
      clear hmk hE2 hP2 f1 hG2 hB2
      go_loopw [7, 20] (fun _ i wr => ∃ k : Nat, k ≤ P.length ∧ i = .int .i64 k ∧ Row wr g 39 (us (wrow P.length (keyTo E (pz P) k))) ∧ Below g w3 wr) (fun _ i _ => P.length - (intOf i).toNat)
      case atStart => exact ⟨0, Nat.zero_le _, rfl, hR0, Below.refl _ _⟩
      case round =>
        obtain ⟨k, hk, rfl, hR, hb⟩ := hrel
        by_cases hlt : k < P.length
        · have hltE : k < E.length := by have := HL.out; omega
          have f1 : wr.cell? ⟨w.heap.size, 1, none⟩ = some (.slice A E.length c) := (hG3.below hb hlt0).cell 1
          obtain ⟨ad, hA, hA1, hc⟩ := (hE2g.below hb).e_at hltE
          obtain ⟨ad', hA', hA1', hc'⟩ := (hP2g.below hb).p_at hlt
          have hr := HT.out.rng k hlt
          have hw8 : wr.cell? ⟨g, k, none⟩ = some (.int .u32 (uz (keyTo E (pz P) k k))) := (hR.cell k).trans (by unfold us wrow; simp [hlt])
          have hw9 := hR.frozen k
          have b1 : (0 : Int) ≤ k := by omega
          have b2 : (k : Int) < E.length := by omega
          have b3 : (k : Int) < P.length := by omega
          have hg1 : g < wr.heap.size := hR.lt
          subst hA hA'
          by_cases hp : 0 ≤ pz P k
          · obtain ⟨q, hq⟩ := Int.eq_ofNat_of_zero_le hp
            have hqE : q < E.length := by have := HL.out; omega
            obtain ⟨ad3, hA3, _, hc3⟩ := (hE2g.below hb).e_at hqE
            obtain rfl : ad = ad3 := by injection hA3
            rw [hq] at hc'
            have HK := Lib.hid (keyTo_pos (E := E) hq)
            have q1 : (0 : Int) ≤ q := by omega
            have q2 : (q : Int) < E.length := by omega
            generalize ed E k = x at hc HK
            generalize ed E q = y at hc3 HK
            clear hp hq hr hA3
            go_wp2_with fail
            generalize hold : uz (keyTo E (pz P) k k) = old at hw8
            clear hold
            have HBO : Hid (∀ w, Calls Try.prog 41 #[.int .u32 (uz x), .int .u32 (uz y)] w fun e w' => e = .returned (.int .u32 (uz (x &&& y))) ∧ w = w') := Lib.hid (both_any x y)
            go_region_law ((go_simp; go_at_call 41; refine (HBO.out _).mono ?_; rintro e w5 ⟨rfl, rfl⟩))
            all_goals
              go_wp2_with fail
              have h5 := hR.set_ k (.int .u32 (uz (x &&& y)))
              rw [wrow_set, HK.out] at h5
              go_roundw
              case measure => simp [intOf]; omega
              case rel => exact ⟨k + 1, by omega, by go_num, h5.drew, (hb.setCell (Nat.le_refl _) _).drew⟩
          · have hp1 : pz P k < 0 := by omega
            have HK := Lib.hid (keyTo_neg (E := E) hp1)
            generalize pz P k = p at hc' hp1
            have hd : decide ((0 : Int) ≤ p) = false := decide_eq_false (by omega)
            clear hp hr hp1
            go_wp2_with fail
            go_roundw
            case measure => simp [intOf]; omega
            case rel => exact ⟨k + 1, by omega, by go_num, by rw [HK.out]; exact hR, hb⟩
        · obtain rfl : k = P.length := by omega
          go_wp2_with fail
          go_ret2
          have hlen : (keysB V E P).length = P.length := by rw [h1.out]; unfold keyL; simp
          refine ⟨some ⟨g, 0, none⟩, P.length, by rw [hlen, h2.out]; rfl, ?_, ?_⟩
          · rw [h1.out, ← keyTo_all]; exact hR.rd
          · exact hB3.trans (hb.mono (Nat.le_of_lt hlt0))
end Go.Proofs.Ytkenbmelhfhidaa
