/- The contracts of jointree.Keys and osierref16.Keys. -/
import Derived.Test.YtkenbmelhfhidaaJtW6
import Derived.Test.YtkenbmelhfhidaaJtW7
namespace Go.Proofs.Ytkenbmelhfhidaa
open Go.RowKit

attribute [local go_sem ↓] uz_and uz_or uz_andNot uz_and_one uz_shr uz_shl_one uz_shl uz_sub uz_sub_one uz_add uz_beq_zero uz_bne_zero uz_beq uz_bne uz_beq_one

/-- n words, told by a function. -/
def wrow (n : Nat) (f : Nat → BitVec 32) : List (BitVec 32) := (List.range n).map f
@[simp] theorem wrow_length (n : Nat) (f : Nat → BitVec 32) : (wrow n f).length = n := by simp [wrow]
theorem wrow_set (n : Nat) (f : Nat → BitVec 32) (k : Nat) (x : BitVec 32) : (us (wrow n f)).set k (.int .u32 (uz x)) = us (wrow n (updS f k x)) := by
  unfold us wrow
  rw [List.map_map, List.map_map]
  apply List.ext_getElem?
  intro i
  rw [List.getElem?_set, List.getElem?_map, List.getElem?_map]
  by_cases h : k = i
  · subst h
    by_cases h2 : k < n <;> simp [h2, updS]
  · rw [if_neg h]
    by_cases h2 : i < n <;> simp [h2, updS, Ne.symm h]
theorem zeros_wrow (n : Nat) : zeros (.int .u32 0) n = us (wrow n fun _ => 0#32) := by
  unfold zeros us wrow
  rw [List.map_map]
  apply List.ext_getElem?
  intro i
  by_cases h : i < n <;> simp [h, uz]

/-- What edge i has in common with its parent. -/
def keyAt (E : List (BitVec 32)) (p : Nat → Int) (i : Nat) : BitVec 32 := if 0 ≤ p i then ed E i &&& ed E (p i).toNat else 0#32
def keyTo (E : List (BitVec 32)) (p : Nat → Int) (k i : Nat) : BitVec 32 := if i < k then keyAt E p i else 0#32
def keyL (E : List (BitVec 32)) (p : Nat → Int) (n : Nat) : List (BitVec 32) := wrow n (keyAt E p)
theorem keyTo_zero (E : List (BitVec 32)) (p : Nat → Int) : keyTo E p 0 = fun _ => 0#32 := by funext i; simp [keyTo]
theorem keyTo_all (E : List (BitVec 32)) (p : Nat → Int) (n : Nat) : wrow n (keyTo E p n) = keyL E p n := by
  unfold keyL wrow
  apply List.map_congr_left
  intro i hi
  simp [keyTo, List.mem_range.1 hi]
theorem keyTo_neg {E : List (BitVec 32)} {p : Nat → Int} {k : Nat} (h : p k < 0) : keyTo E p (k + 1) = keyTo E p k := by
  funext i
  unfold keyTo
  by_cases h1 : i = k
  · subst h1
    have : ¬ 0 ≤ p i := by omega
    simp [keyAt, this]
  · by_cases h2 : i < k
    · simp [h2, Nat.lt_succ_of_lt h2]
    · have : ¬ i < k + 1 := by omega
      simp [h2, this]
theorem keyTo_pos {E : List (BitVec 32)} {p : Nat → Int} {k q : Nat} (h : p k = (q : Int)) : updS (keyTo E p k) k (ed E k &&& ed E q) = keyTo E p (k + 1) := by
  funext i
  unfold keyTo updS
  by_cases h1 : i = k
  · subst h1
    simp [keyAt, h]
  · by_cases h2 : i < k
    · simp [h1, h2, Nat.lt_succ_of_lt h2]
    · have : ¬ i < k + 1 := by omega
      simp [h1, h2, this]

/-- What Keys answers. -/
def keysB (V : Int) (E : List (BitVec 32)) (P : List Int) : List (BitVec 32) := if validB V E = true ∧ checkB V E P = true then keyL E (pz P) P.length else []
def keysC (V : Int) (E : List (BitVec 32)) (P : List Int) : Int := if validB V E = true then if checkB V E P = true then 0 else 160 else 140

theorem check_tree {V : Int} {E : List (BitVec 32)} {P : List Int} (h : checkB V E P = true) : P.length = E.length ∧ treeB P = true ∧ E.length ≤ 7 := by
  unfold checkB at h
  simp only [Bool.and_eq_true, beq_iff_eq] at h
  exact ⟨h.1.1.2, h.1.2, (validB_of h.1.1.1).2.2.1⟩

set_option maxHeartbeats 4000000 in
set_option maxRecDepth 100000 in
theorem keys_any (V : Int) (A A' : Option Addr) (E : List (BitVec 32)) (P : List Int) (c c' : Nat) (w : World) (hl : E.length ≤ 35184372087808) (hl' : P.length ≤ 35184372087808) (hE : Rd w w.heap.size A (us E)) (hP : Rd w w.heap.size A' (is P)) :
    Calls Try.prog 42 #[.agg #[.int .i64 V, .slice A E.length c], .slice A' P.length c'] w fun e w' => ∃ B d, e = .returned (.tuple #[.slice B (keysB V E P).length d, .int .i64 (keysC V E P)]) ∧ Rd w' w'.heap.size B (us (keysB V E P)) ∧ Below w.heap.size w w' := by
  have hmk := mk_u32 P.length hl'
  go_enter Try.func42, Try.ntmps42
  go_wp2_with fail
  have hb0 := below_alloc w (.cells #[.int .i64 V, .slice A E.length c] 24)
  have hG0 : Row (w.alloc (.cells #[.int .i64 V, .slice A E.length c] 24)) w.heap.size 24 [.int .i64 V, .slice A E.length c] := Row.new _ _ _
  generalize w.alloc _ = W0 at hb0 hG0 ⊢
  refine (valid_any V A E c W0 hl (hE.later hb0)).mono ?_
  rintro e w1 ⟨rfl, hb1⟩
  have hB1 := bthen hb0 hb1
  have hG1 := hG0.later hb1
  have d0 : w1.cell? ⟨w.heap.size, 0, none⟩ = some (.int .i64 V) := hG1.cell 0
  have d1 : w1.cell? ⟨w.heap.size, 1, none⟩ = some (.slice A E.length c) := hG1.cell 1
  have hlt0 := hG1.lt
  have hE1 := hE.later hB1
  have hP1 := hP.later hB1
  clear hG0 hb0 hb1
  cases hv : validB V E
  · have h1 : Hid (keysB V E P = []) := Lib.hid (by unfold keysB; rw [hv]; simp)
    have h2 : Hid (keysC V E P = 140) := Lib.hid (by unfold keysC; rw [hv]; simp)
    clear hmk
    go_wp2_with fail
    go_ret2
    exact ⟨none, 0, by rw [h1.out, h2.out]; rfl, by rw [h1.out]; exact Rd.nil, hB1⟩
  · have HV := Lib.hid hv
    clear hv
    go_wp2_with fail
    refine (check_any V A A' E P c c' w1 hl hl' hE1 hP1).mono ?_
    rintro e w2 ⟨rfl, hb2⟩
    have hB2 := bthen hB1 hb2
    have hG2 := hG1.later hb2
    have f1 : w2.cell? ⟨w.heap.size, 1, none⟩ = some (.slice A E.length c) := hG2.cell 1
    have hE2 := hE1.later hb2
    have hP2 := hP1.later hb2
    clear d0 d1 hE hP hE1 hP1 hB1 hb2 hlt0
    have hlt0 := hG2.lt
    cases hu : checkB V E P
    · have h1 : Hid (keysB V E P = []) := Lib.hid (by unfold keysB; rw [hu]; simp)
      have h2 : Hid (keysC V E P = 160) := Lib.hid (by unfold keysC; rw [HV.out, hu]; simp)
      clear hmk
      go_wp2_with fail
      go_ret2
      exact ⟨none, 0, by rw [h1.out, h2.out]; rfl, by rw [h1.out]; exact Rd.nil, hB2⟩
    · have h1 : Hid (keysB V E P = keyL E (pz P) P.length) := Lib.hid (by unfold keysB; rw [HV.out, hu]; simp)
      have h2 : Hid (keysC V E P = 0) := Lib.hid (by unfold keysC; rw [HV.out, hu]; simp)
      obtain ⟨q1, q2, q3⟩ := check_tree hu
      have HL := Lib.hid q1
      have HT := Lib.hid ((treeB_iff P).1 q2).2
      have h7 : P.length ≤ 7 := by omega
      clear hu q1 q2 q3
      go_wp2_with fail
      have hR0 : Row (w2.alloc (.cells (zeros (.int .u32 0) P.length).toArray 39)) w2.heap.size 39 (us (wrow P.length (keyTo E (pz P) 0))) := by rw [keyTo_zero, ← zeros_wrow]; exact Row.new _ _ _
      have hb3 := below_alloc w2 (.cells (zeros (.int .u32 0) P.length).toArray 39)
      have hB3 := bthen hB2 hb3
      have hG3 := hG2.later hb3
      have hE2g := hE2.below hb3
      have hP2g := hP2.below hb3
      generalize hg : w2.heap.size = g at hR0 hb3 hE2g hP2g ⊢
      rw [hg] at hlt0
      generalize w2.alloc _ = w3 at hR0 hb3 hB3 hG3 hE2g hP2g ⊢
      clear hmk hE2 hP2 f1 hG2 hB2
      go_loopw [7, 8, 21] (fun _ _ i wr => ∃ k : Nat, k ≤ P.length ∧ i = .int .i64 k ∧ Row wr g 39 (us (wrow P.length (keyTo E (pz P) k))) ∧ Below g w3 wr) (fun _ _ i _ => P.length - (intOf i).toNat)
      case atStart => exact ⟨0, Nat.zero_le _, rfl, hR0, Below.refl _ _⟩
      case round =>
        obtain ⟨k, hk, rfl, hR, hb⟩ := hrel
        by_cases hlt : k < P.length
        · have hltE : k < E.length := by have := HL.out; omega
          have f1 : wr.cell? ⟨w.heap.size, 1, none⟩ = some (.slice A E.length c) := (hG3.below hb hlt0).cell 1
          obtain ⟨ad, hA, hA1, hc⟩ := (hE2g.below hb).e_at hltE
          obtain ⟨ad', hA', hA1', hc'⟩ := (hP2g.below hb).p_at hlt
          have hr := HT.out.rng k hlt
          have hw8 : wr.cell? ⟨g, k, none⟩ = some (.int .u32 (uz (keyTo E (pz P) k k))) := (hR.cell k).trans (by unfold us wrow; simp [hlt])
          have hw9 := hR.frozen k
          have b1 : (0 : Int) ≤ k := by omega
          have b2 : (k : Int) < E.length := by omega
          have b3 : (k : Int) < P.length := by omega
          have hg1 : g < wr.heap.size := hR.lt
          subst hA hA'
          by_cases hp : 0 ≤ pz P k
          · obtain ⟨q, hq⟩ := Int.eq_ofNat_of_zero_le hp
            have hqE : q < E.length := by have := HL.out; omega
            obtain ⟨ad3, hA3, _, hc3⟩ := (hE2g.below hb).e_at hqE
            obtain rfl : ad = ad3 := by injection hA3
            rw [hq] at hc'
            have HK := Lib.hid (keyTo_pos (E := E) hq)
            have q1 : (0 : Int) ≤ q := by omega
            have q2 : (q : Int) < E.length := by omega
            generalize ed E k = x at hc HK
            generalize ed E q = y at hc3 HK
            clear hp hq hr hA3
            go_wp2_with fail
            generalize hold : uz (keyTo E (pz P) k k) = old at hw8
            clear hold
            go_still_tail 13, (by kernel_rfl)
            change wpList _ _ _ _ _ wr.drew
            have hR2 : Row wr.drew g 39 (us (wrow P.length (keyTo E (pz P) k))) := hR
            have hb2 := below_drewN hb 1
            replace hb2 : Below g w3 wr.drew := hb2
            replace hw8 : wr.drew.cell? ⟨g, k, none⟩ = some (.int .u32 old) := hw8
            replace hw9 : wr.drew.frozen? ⟨g, k, none⟩ = false := hw9
            replace hg1 : g < wr.drew.heap.size := hg1
            clear hR hb hc hc' hc3 f1
            generalize wr.drew = w4 at hR2 hb2 hw8 hw9 hg1 ⊢
            go_wp2_with fail
            go_roundw
            case measure => simp [intOf]; omega
            case rel =>
              have h5 := hR2.set_ k (.int .u32 (uz (x &&& y)))
              rw [wrow_set, HK.out] at h5
              exact ⟨k + 1, by omega, by go_num, h5, hb2.setCell (Nat.le_refl _) _⟩
          · have hp1 : pz P k < 0 := by omega
            have HK := Lib.hid (keyTo_neg (E := E) hp1)
            generalize pz P k = p at hc' hp1
            have hd : decide ((0 : Int) ≤ p) = false := decide_eq_false (by omega)
            clear hp hr hp1
            go_wp2_with fail
            go_roundw
            case measure => simp [intOf]; omega
            case rel => exact ⟨k + 1, by omega, by go_num, by rw [HK.out]; exact hR, hb⟩
        · obtain rfl : k = P.length := by omega
          go_wp2_with fail
          go_ret2
          have hlen : (keysB V E P).length = P.length := by rw [h1.out]; unfold keyL; simp
          refine ⟨some ⟨g, 0, none⟩, P.length, by rw [hlen, h2.out]; rfl, ?_, ?_⟩
          · rw [h1.out, ← keyTo_all]; exact hR.rd
          · exact hB3.trans (hb.mono (Nat.le_of_lt hlt0))
set_option maxHeartbeats 4000000 in
set_option maxRecDepth 100000 in
theorem r16keys_any (V : Int) (A A' : Option Addr) (E : List (BitVec 32)) (P : List Int) (c c' : Nat) (w : World) (hl : E.length ≤ 35184372087808) (hl' : P.length ≤ 35184372087808) (hE : Rd w w.heap.size A (us E)) (hP : Rd w w.heap.size A' (is P)) :
    Calls Try.prog 43 #[.agg #[.int .i64 V, .slice A E.length c], .slice A' P.length c'] w fun e w' => ∃ B d, e = .returned (.tuple #[.slice B (keysB V E P).length d, .int .i64 (keysC V E P)]) ∧ Rd w' w'.heap.size B (us (keysB V E P)) ∧ Below w.heap.size w w' := by
  have hmk := mk_u32 P.length hl'
  go_enter Try.func43, Try.ntmps43
  go_wp2_with fail
  have hb0 := below_alloc w (.cells #[.int .i64 V, .slice A E.length c] 24)
  have hG0 : Row (w.alloc (.cells #[.int .i64 V, .slice A E.length c] 24)) w.heap.size 24 [.int .i64 V, .slice A E.length c] := Row.new _ _ _
  generalize w.alloc _ = W0 at hb0 hG0 ⊢
  refine (r14valid_any V A E c W0 hl (hE.later hb0)).mono ?_
  rintro e w1 ⟨rfl, hb1⟩
  have hB1 := bthen hb0 hb1
  have hG1 := hG0.later hb1
  have d0 : w1.cell? ⟨w.heap.size, 0, none⟩ = some (.int .i64 V) := hG1.cell 0
  have d1 : w1.cell? ⟨w.heap.size, 1, none⟩ = some (.slice A E.length c) := hG1.cell 1
  have hlt0 := hG1.lt
  have hE1 := hE.later hB1
  have hP1 := hP.later hB1
  clear hG0 hb0 hb1
  cases hv : validB V E
  · have h1 : Hid (keysB V E P = []) := Lib.hid (by unfold keysB; rw [hv]; simp)
    have h2 : Hid (keysC V E P = 140) := Lib.hid (by unfold keysC; rw [hv]; simp)
    clear hmk
    go_wp2_with fail
    go_ret2
    exact ⟨none, 0, by rw [h1.out, h2.out]; rfl, by rw [h1.out]; exact Rd.nil, hB1⟩
  · have HV := Lib.hid hv
    clear hv
    go_wp2_with fail
    refine (r16check_any V A A' E P c c' w1 hl hl' hE1 hP1).mono ?_
    rintro e w2 ⟨rfl, hb2⟩
    have hB2 := bthen hB1 hb2
    have hG2 := hG1.later hb2
    have f1 : w2.cell? ⟨w.heap.size, 1, none⟩ = some (.slice A E.length c) := hG2.cell 1
    have hE2 := hE1.later hb2
    have hP2 := hP1.later hb2
    clear d0 d1 hE hP hE1 hP1 hB1 hb2 hlt0
    have hlt0 := hG2.lt
    cases hu : checkB V E P
    · have h1 : Hid (keysB V E P = []) := Lib.hid (by unfold keysB; rw [hu]; simp)
      have h2 : Hid (keysC V E P = 160) := Lib.hid (by unfold keysC; rw [HV.out, hu]; simp)
      clear hmk
      go_wp2_with fail
      go_ret2
      exact ⟨none, 0, by rw [h1.out, h2.out]; rfl, by rw [h1.out]; exact Rd.nil, hB2⟩
    · have h1 : Hid (keysB V E P = keyL E (pz P) P.length) := Lib.hid (by unfold keysB; rw [HV.out, hu]; simp)
      have h2 : Hid (keysC V E P = 0) := Lib.hid (by unfold keysC; rw [HV.out, hu]; simp)
      obtain ⟨q1, q2, q3⟩ := check_tree hu
      have HL := Lib.hid q1
      have HT := Lib.hid ((treeB_iff P).1 q2).2
      have h7 : P.length ≤ 7 := by omega
      clear hu q1 q2 q3
      go_wp2_with fail
      have hR0 : Row (w2.alloc (.cells (zeros (.int .u32 0) P.length).toArray 39)) w2.heap.size 39 (us (wrow P.length (keyTo E (pz P) 0))) := by rw [keyTo_zero, ← zeros_wrow]; exact Row.new _ _ _
      have hb3 := below_alloc w2 (.cells (zeros (.int .u32 0) P.length).toArray 39)
      have hB3 := bthen hB2 hb3
      have hG3 := hG2.later hb3
      have hE2g := hE2.below hb3
      have hP2g := hP2.below hb3
      generalize hg : w2.heap.size = g at hR0 hb3 hE2g hP2g ⊢
      rw [hg] at hlt0
      generalize w2.alloc _ = w3 at hR0 hb3 hB3 hG3 hE2g hP2g ⊢
      clear hmk hE2 hP2 f1 hG2 hB2
      go_loopw [7, 20] (fun _ i wr => ∃ k : Nat, k ≤ P.length ∧ i = .int .i64 k ∧ Row wr g 39 (us (wrow P.length (keyTo E (pz P) k))) ∧ Below g w3 wr) (fun _ i _ => P.length - (intOf i).toNat)
      case atStart => exact ⟨0, Nat.zero_le _, rfl, hR0, Below.refl _ _⟩
      case round =>
        obtain ⟨k, hk, rfl, hR, hb⟩ := hrel
        by_cases hlt : k < P.length
        · have hltE : k < E.length := by have := HL.out; omega
          have f1 : wr.cell? ⟨w.heap.size, 1, none⟩ = some (.slice A E.length c) := (hG3.below hb hlt0).cell 1
          obtain ⟨ad, hA, hA1, hc⟩ := (hE2g.below hb).e_at hltE
          obtain ⟨ad', hA', hA1', hc'⟩ := (hP2g.below hb).p_at hlt
          have hr := HT.out.rng k hlt
          have hw8 : wr.cell? ⟨g, k, none⟩ = some (.int .u32 (uz (keyTo E (pz P) k k))) := (hR.cell k).trans (by unfold us wrow; simp [hlt])
          have hw9 := hR.frozen k
          have b1 : (0 : Int) ≤ k := by omega
          have b2 : (k : Int) < E.length := by omega
          have b3 : (k : Int) < P.length := by omega
          have hg1 : g < wr.heap.size := hR.lt
          subst hA hA'
          by_cases hp : 0 ≤ pz P k
          · obtain ⟨q, hq⟩ := Int.eq_ofNat_of_zero_le hp
            have hqE : q < E.length := by have := HL.out; omega
            obtain ⟨ad3, hA3, _, hc3⟩ := (hE2g.below hb).e_at hqE
            obtain rfl : ad = ad3 := by injection hA3
            rw [hq] at hc'
            have HK := Lib.hid (keyTo_pos (E := E) hq)
            have q1 : (0 : Int) ≤ q := by omega
            have q2 : (q : Int) < E.length := by omega
            generalize ed E k = x at hc HK
            generalize ed E q = y at hc3 HK
            clear hp hq hr hA3
            go_wp2_with fail
            generalize hold : uz (keyTo E (pz P) k k) = old at hw8
            clear hold
            have HBO : Hid (∀ w, Calls Try.prog 41 #[.int .u32 (uz x), .int .u32 (uz y)] w fun e w' => e = .returned (.int .u32 (uz (x &&& y))) ∧ w = w') := Lib.hid (both_any x y)
            go_region_law ((go_simp; go_at_call 41; refine (HBO.out _).mono ?_; rintro e w5 ⟨rfl, rfl⟩))
            all_goals
              go_wp2_with fail
              have h5 := hR.set_ k (.int .u32 (uz (x &&& y)))
              rw [wrow_set, HK.out] at h5
              go_roundw
              case measure => simp [intOf]; omega
              case rel => exact ⟨k + 1, by omega, by go_num, h5.drew, (hb.setCell (Nat.le_refl _) _).drew⟩
          · have hp1 : pz P k < 0 := by omega
            have HK := Lib.hid (keyTo_neg (E := E) hp1)
            generalize pz P k = p at hc' hp1
            have hd : decide ((0 : Int) ≤ p) = false := decide_eq_false (by omega)
            clear hp hr hp1
            go_wp2_with fail
            go_roundw
            case measure => simp [intOf]; omega
            case rel => exact ⟨k + 1, by omega, by go_num, by rw [HK.out]; exact hR, hb⟩
        · obtain rfl : k = P.length := by omega
          go_wp2_with fail
          go_ret2
          have hlen : (keysB V E P).length = P.length := by rw [h1.out]; unfold keyL; simp
          refine ⟨some ⟨g, 0, none⟩, P.length, by rw [hlen, h2.out]; rfl, ?_, ?_⟩
          · rw [h1.out, ← keyTo_all]; exact hR.rd
          · exact hB3.trans (hb.mono (Nat.le_of_lt hlt0))
end Go.Proofs.Ytkenbmelhfhidaa
