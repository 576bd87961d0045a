/- The contract of osierref16.Check. -/
import Derived.Test.YtkenbmelhfhidaaJtW5
import Derived.Deep.QuietTactic
namespace Go.Proofs.Ytkenbmelhfhidaa
open Go.RowKit

attribute [local go_sem ↓] uz_and uz_or uz_andNot uz_and_one uz_shr uz_shl_one uz_shl uz_sub uz_sub_one uz_add uz_beq_zero uz_bne_zero uz_beq uz_bne uz_beq_one

/-- The first k between i and j have what the two have in common. -/
def btwTo (E : List (BitVec 32)) (p : Nat → Int) (i j k : Nat) : Prop := ∀ m, m ∈ (betweenL (way E.length p i) (way E.length p j)).take k → subB (ed E i &&& ed E j) (ed E m) = true
def jTo (E : List (BitVec 32)) (p : Nat → Int) (i j : Nat) : Prop := ∀ j', j' < j → betwB E p i j' = true
def iTo (E : List (BitVec 32)) (p : Nat → Int) (i : Nat) : Prop := ∀ i', i' < i → jTo E p i' i'
theorem iTo_all {E : List (BitVec 32)} {p : Nat → Int} (h : iTo E p E.length) : allBetw E p = true := by
  unfold allBetw
  rw [List.all_eq_true]; intro i hi
  rw [List.all_eq_true]; intro j hj
  exact h i (List.mem_range.1 hi) j (List.mem_range.1 hj)
theorem allBetw_false {E : List (BitVec 32)} {p : Nat → Int} {i j m : Nat} (hi : i < E.length) (hj : j < i) (hm : m ∈ betweenL (way E.length p i) (way E.length p j)) (h : subB (ed E i &&& ed E j) (ed E m) = false) : allBetw E p = false := by
  cases hb : allBetw E p
  · rfl
  · unfold allBetw betwB at hb
    simp only [List.all_eq_true, List.mem_range] at hb
    rw [hb i hi j hj m hm] at h; cases h
theorem below_step {P : Nat → Prop} {k : Nat} (h : ∀ b, b < k → P b) (hk : P k) : ∀ b, b < k + 1 → P b := fun b hb => by
  rcases Nat.lt_or_ge b k with c | c
  · exact h b c
  · obtain rfl : b = k := by omega
    exact hk

set_option maxHeartbeats 4000000 in
set_option maxRecDepth 100000 in
theorem r16check_any (V : Int) (A A' : Option Addr) (E : List (BitVec 32)) (P : List Int) (c c' : Nat) (w : World) (hl : E.length ≤ 35184372087808) (hl' : P.length ≤ 35184372087808) (hE : Rd w w.heap.size A (us E)) (hP : Rd w w.heap.size A' (is P)) :
    Calls Try.prog 33 #[.agg #[.int .i64 V, .slice A E.length c], .slice A' P.length c'] w fun e w' => e = .returned (.bool (checkB V E P)) ∧ Below w.heap.size w w' := by
  go_enter Try.func33, Try.ntmps33
  go_wp2_with fail
  have hb0 := below_alloc w (.cells #[.int .i64 V, .slice A E.length c] 24)
  have hG0 : Row (w.alloc (.cells #[.int .i64 V, .slice A E.length c] 24)) w.heap.size 24 [.int .i64 V, .slice A E.length c] := Row.new _ _ _
  generalize w.alloc _ = W0 at hb0 hG0 ⊢
  refine (r14valid_any V A E c _ hl (hE.later hb0)).mono ?_
  rintro e w1 ⟨rfl, hb1⟩
  have hB1 := bthen hb0 hb1
  have hG1 := hG0.later hb1
  have d1 : w1.cell? ⟨w.heap.size, 1, none⟩ = some (.slice A E.length c) := hG1.cell 1
  have hlt0 := hG1.lt
  clear hG0 hb0 hb1
  cases hv : validB V E
  · have hf : Hid (checkB V E P = false) := Lib.hid (by unfold checkB; rw [hv]; rfl)
    go_wp2_with fail
    go_ret
    exact ⟨by first | rfl | (rw [hf.out]; rfl), hB1⟩
  · by_cases hlen : P.length = E.length
    · have hlb : ((P.length : Int) != (E.length : Int)) = false := by simp [hlen]
      have h7 := (validB_of hv).2.2.1
      have HL := Lib.hid hlen
      have HV := Lib.hid hv
      clear hlen hv
      go_wp2_with fail
      refine (r16isTree_any A' P c' w1 hl' (hP.later hB1)).mono ?_
      rintro e w2 ⟨rfl, hb2⟩
      have hB2 := bthen hB1 hb2
      have hG2 := hG1.later hb2
      cases ht : treeB P
      · have hf : Hid (checkB V E P = false) := Lib.hid (by unfold checkB; rw [ht]; simp)
        clear ht
        go_wp2_with fail
        go_ret
        exact ⟨by first | rfl | (rw [hf.out]; rfl), hB2⟩
      · have HT0 := Lib.hid ((treeB_iff P).1 ht).2
        have HT : Hid (Tree E.length (pz P)) := Lib.hid (by rw [← HL.out]; exact HT0.out)
        have hC : Hid (checkB V E P = allBetw E (pz P)) := Lib.hid (by
          unfold checkB; rw [HV.out, ht, HL.out, Bool.eq_iff_iff, allBetw_iff HT.out, ← oneTo_iff fun i hi => (HT.out.rng i hi).1]; simp)
        have hE2 := hE.later hB2
        have hP2 := hP.later hB2
        clear ht d1 hG1 hb2 hB1 hE hP
        go_wp2_with fail
        go_loopg [5, 6, 7, 8] (P.length) (fun gk x _ _ _ wr => ∃ i : Nat, i ≤ P.length ∧ gk = P.length - i ∧ x = .int .i64 i ∧ Hid (iTo E (pz P) i) ∧ Below w2.heap.size w2 wr)
        case atStart => exact ⟨0, Nat.zero_le _, rfl, rfl, Lib.hid (fun i hi => absurd hi (Nat.not_lt_zero i)), Below.refl _ _⟩
        case round =>
          obtain ⟨i, hi, rfl, rfl, HI, hb⟩ := hrel
          by_cases hli : i < P.length
          · go_wp2_with fail
            go_loopg [6, 7, 8] i (fun gk y _ _ ws => ∃ j : Nat, j ≤ i ∧ gk = i - j ∧ y = .int .i64 j ∧ Hid (jTo E (pz P) i j) ∧ Below w2.heap.size w2 ws)
            case atStart => exact ⟨0, Nat.zero_le _, rfl, rfl, Lib.hid (fun i hi => absurd hi (Nat.not_lt_zero i)), hb⟩
            case round =>
              obtain ⟨j, hj, rfl, rfl, HJ, hb⟩ := hrel
              obtain ⟨ws, hws⟩ : ∃ ws : World, ws = _ ∧ Below w2.heap.size w2 ws := ⟨_, rfl, hb⟩
              obtain ⟨e0, hbs⟩ := hws
              subst e0
              by_cases hlj : j < i
              · have hbt := between_any A' P c' i j ws (by have := HL.out; omega) (hP2.later hbs) HT0.out hli (by omega)
                obtain ⟨L, hL⟩ : ∃ L, L = betweenL (way P.length (pz P) i) (way P.length (pz P) j) := ⟨_, rfl⟩
                rw [← hL] at hbt
                have HLL : Hid (L = betweenL (way E.length (pz P) i) (way E.length (pz P) j)) := Lib.hid (by rw [hL, HL.out])
                have HLT : Hid (∀ m, m ∈ L → m < E.length) := Lib.hid (fun m hm => by
                  rw [HLL.out] at hm
                  have h1 : i < E.length := by have := HL.out; omega
                  obtain ⟨_, _, _, _, _, hk⟩ := HT.out.mem_between h1 (by omega : j < E.length)
                  rcases ((hk m).1 hm).1 with x | x
                  · exact HT.out.way_lt i h1 m x
                  · exact HT.out.way_lt j (by omega) m x)
                have hll : L.length ≤ 35184372087808 := by
                  have hwl : ∀ f y, (wayF (pz P) f y).length ≤ f := by
                    intro f
                    induction f with
                    | zero => intro y; exact Nat.le_refl _
                    | succ f ih => intro y; unfold wayF; split <;> simp; exact ih _
                  have h1 := hwl P.length i
                  have h2 := hwl P.length j
                  have h3 := (List.takeWhile_sublist (fun x => x != (meetOf (way P.length (pz P) i) (way P.length (pz P) j)).toNat) (l := way P.length (pz P) i)).length_le
                  have h4 := (List.takeWhile_sublist (fun x => x != (meetOf (way P.length (pz P) i) (way P.length (pz P) j)).toNat) (l := way P.length (pz P) j)).length_le
                  rw [hL]
                  unfold betweenL
                  rw [List.length_append, List.length_append]
                  unfold way at h3 h4 ⊢
                  have h5 := HL.out
                  simp only [List.length_singleton]
                  omega
                clear hL
                go_wp2_with fail
                refine hbt.mono ?_
                rintro e w3 ⟨v, rfl, hown, hb3⟩
                obtain ⟨Av, cv, rfl, _, _, hrv, _⟩ := Rd.of_own hown
                have hB3 := bthen hbs hb3
                clear hbt hown hb3
                go_wp2_with fail
                go_loopg [8] (L.length) (fun gk x wt => ∃ k : Nat, k ≤ L.length ∧ gk = L.length - k ∧ x = .int .i64 k ∧ Hid (btwTo E (pz P) i j k) ∧ Below w3.heap.size w3 wt)
                case atStart => exact ⟨0, Nat.zero_le _, rfl, rfl, Lib.hid (fun m hm => by simp at hm), Below.refl _ _⟩
                case round =>
                  obtain ⟨k, hk, rfl, rfl, HK, hb4⟩ := hrel
                  by_cases hlk : k < L.length
                  · obtain ⟨ad, hA, _, hc⟩ := (hrv.later hb4).z_at hlk
                    have hmem := zed_mem L k hlk
                    have hS := take_snoc L k hlk
                    rw [zed_eq L k hlk] at hS
                    have hml := HLT.out _ hmem
                    have hB4 := bthen hB3 hb4
                    have hE4 := hE2.later hB4
                    have hiE : i < E.length := by have := HL.out; omega
                    obtain ⟨ae, hAe, _, ce1⟩ := hE4.e_at hiE
                    obtain ⟨ae2, hAe2, _, ce2⟩ := hE4.e_at (show j < E.length by omega)
                    obtain ⟨ae3, hAe3, _, ce3⟩ := hE4.e_at hml
                    obtain rfl : ae = ae2 := by rw [hAe] at hAe2; injection hAe2
                    obtain rfl : ae = ae3 := by rw [hAe] at hAe3; injection hAe3
                    have d1 : World.cell? _ ⟨w.heap.size, 1, none⟩ = some (.slice A E.length c) := (hG2.later hB4).cell 1
                    subst hA hAe
                    have HF := Lib.hid (fun h => allBetw_false (p := pz P) hiE hlj (m := zed L k) (by rw [← HLL.out]; exact hmem) h)
                    have HN : Hid (subB (ed E i &&& ed E j) (ed E (zed L k)) = true → btwTo E (pz P) i j (k + 1)) := Lib.hid (fun h m hm => by
                      rw [← HLL.out, hS, List.mem_append, List.mem_singleton] at hm
                      rcases hm with hm | hm
                      · exact HK.out m (by rw [← HLL.out]; exact hm)
                      · subst hm; exact h)
                    clear hmem hS hAe2 hAe3
                    generalize zed L k = m at hc hml ce3 HF HN
                    generalize ed E i = x at ce1 HF HN
                    generalize ed E j = y at ce2 HF HN
                    generalize ed E m = z at ce3 HF HN
                    have a1 : (0 : Int) ≤ i := by omega
                    have a2 : (i : Int) < E.length := by omega
                    have a3 : (0 : Int) ≤ j := by omega
                    have a4 : (j : Int) < E.length := by omega
                    have a5 : (0 : Int) ≤ m := by omega
                    have a6 : (m : Int) < E.length := by omega
                    have a7 : (0 : Int) ≤ k := by omega
                    have a8 : (k : Int) < L.length := by omega
                    have hbo : ∀ w, Calls Try.prog 41 #[.int .u32 (uz x), .int .u32 (uz y)] w fun e w' => e = .returned (.int .u32 (uz (x &&& y))) ∧ w = w' := fun w => both_any x y w
                    have HBO := Lib.hid hbo
                    clear hbo
                    cases hs : subB (x &&& y) z
                    · have hwi : ∀ w, Calls Try.prog 57 #[.int .u32 (uz (x &&& y)), .int .u32 (uz z)] w fun e w' => e = .returned (.bool false) ∧ w = w' := fun w => by rw [← hs]; exact within_any _ z w
                      have HWI := Lib.hid hwi
                      have hf : Hid (checkB V E P = false) := Lib.hid (by rw [hC.out]; exact HF.out hs)
                      clear hwi hs
                      go_wp2_with fail
                      go_quiet (first | (go_at_call 41; exact pure_quiet HBO.out) | (go_at_call 57; exact pure_quiet HWI.out))
                      go_wp2_with fail
                      go_ret
                      exact ⟨by first | rfl | (rw [hf.out]; rfl), below_drewN (bthen hB2 hB4) _⟩
                    · have hwi : ∀ w, Calls Try.prog 57 #[.int .u32 (uz (x &&& y)), .int .u32 (uz z)] w fun e w' => e = .returned (.bool true) ∧ w = w' := fun w => by rw [← hs]; exact within_any _ z w
                      have HWI := Lib.hid hwi
                      have HN2 := Lib.hid (HN.out hs)
                      clear hwi hs
                      go_wp2_with fail
                      go_quiet (first | (go_at_call 41; exact pure_quiet HBO.out) | (go_at_call 57; exact pure_quiet HWI.out))
                      go_wp2_with fail
                      go_roundg (L.length - (k + 1))
                      case measure => omega
                      case rel => exact ⟨k + 1, by omega, rfl, by go_num, HN2, below_drewN hb4 _⟩
                  · have HJ2 : Hid (jTo E (pz P) i (j + 1)) := Lib.hid (below_step HJ.out (by
                      unfold betwB
                      rw [List.all_eq_true]
                      intro m hm
                      have h1 := HK.out m
                      rw [← HLL.out, List.take_of_length_le (by omega)] at h1
                      exact h1 (by rw [HLL.out]; exact hm)))
                    have hB4 := bthen hB3 hb4
                    go_wp2_with fail
                    go_roundg (i - (j + 1))
                    case measure => omega
                    case rel => exact ⟨j + 1, by omega, rfl, by go_num, HJ2, hB4⟩
              · obtain rfl : j = i := by omega
                have HI2 : Hid (iTo E (pz P) (j + 1)) := Lib.hid (below_step HI.out HJ.out)
                go_wp2_with fail
                go_roundg (P.length - (j + 1))
                case measure => omega
                case rel => exact ⟨j + 1, by omega, rfl, by go_num, HI2, hbs⟩
          · obtain rfl : i = P.length := by omega
            have hf : Hid (checkB V E P = true) := Lib.hid (by rw [hC.out]; exact iTo_all (by rw [← HL.out]; exact HI.out))
            go_wp2_with fail
            go_ret
            exact ⟨by first | rfl | (rw [hf.out]; rfl), bthen hB2 hb⟩
    · have hlb : ((P.length : Int) != (E.length : Int)) = true := by simp; omega
      have hf : Hid (checkB V E P = false) := Lib.hid (by unfold checkB; rw [show (P.length == E.length) = false by simpa using hlen]; simp)
      clear hlen hv
      go_wp2_with fail
      go_ret
      exact ⟨by first | rfl | (rw [hf.out]; rfl), hB1⟩
end Go.Proofs.Ytkenbmelhfhidaa
