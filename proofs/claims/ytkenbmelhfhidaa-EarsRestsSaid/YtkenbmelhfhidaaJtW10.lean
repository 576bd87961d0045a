/- The contracts of osierref15.grow and Exists. -/
import Derived.Test.YtkenbmelhfhidaaJtW9
import Derived.Test.YtkenbmelhfhidaaEars6
namespace Go.Proofs.Ytkenbmelhfhidaa
open Go.RowKit

attribute [local go_sem ↓] uz_and uz_or uz_andNot uz_and_one uz_shr uz_shl_one uz_shl uz_sub uz_sub_one uz_add uz_beq_zero uz_bne_zero uz_beq uz_bne uz_beq_one

theorem gthen {a b c : World} {r : Option Nat} (h : a.grownBy b r) (k : b.grownBy c r) : a.grownBy c r :=
  ⟨k.os.trans h.os, k.tape.trans h.tape, k.output.trans h.output, Nat.le_trans h.size k.size, fun i hi hn => (k.block i (Nat.lt_of_lt_of_le hi h.size) hn).trans (h.block i hi hn)⟩

def nearP (n i : Nat) (p q : Nat → Int) : Prop := ∀ j, (j < i ∨ n ≤ j) → q j = p j
def rngP (n : Nat) (p : Nat → Int) : Prop := ∀ i, i < n → -1 ≤ p i ∧ p i < n
theorem growB_near {V : Nat} {E : List (BitVec 32)} {m : Nat} {p q : Nat → Int} (hm : m ≤ E.length) (h : ∀ j, (j < E.length - m ∨ E.length ≤ j) → q j = p j) : growB V E m p = growB V E m q := by
  rw [Bool.eq_iff_iff, growB_iff m hm, growB_iff m hm]
  constructor
  · rintro ⟨r, h1, h2, h3, h4⟩
    exact ⟨r, fun i hi => (h1 i hi).trans (h i (.inl hi)).symm, h2, fun i hi => (h3 i hi).trans (h i (.inr hi)).symm, h4⟩
  · rintro ⟨r, h1, h2, h3, h4⟩
    exact ⟨r, fun i hi => (h1 i hi).trans (h i (.inl hi)), h2, fun i hi => (h3 i hi).trans (h i (.inr hi)), h4⟩
/-- None of the first k does as the parent of edge i. -/
def grTo (V : Nat) (E : List (BitVec 32)) (m i : Nat) (p : Nat → Int) (k : Nat) : Prop := ∀ q : Nat, q < k → q ≠ i → growB V E m (updI p i q) = false
theorem grTo_skip {V : Nat} {E : List (BitVec 32)} {m i : Nat} {p : Nat → Int} (h : grTo V E m i p i) : grTo V E m i p (i + 1) := fun q hq hn => h q (by omega) hn
theorem grTo_next {V : Nat} {E : List (BitVec 32)} {m i k : Nat} {p : Nat → Int} (h : grTo V E m i p k) (hk : growB V E m (updI p i k) = false) : grTo V E m i p (k + 1) := fun q hq hn => by
  by_cases e : q = k
  · subst e; exact hk
  · exact h q (by omega) hn
theorem grTo_all {V : Nat} {E : List (BitVec 32)} {m i : Nat} {p : Nat → Int} (hi : i + (m + 1) = E.length) (h : grTo V E m i p E.length) : growB V E (m + 1) p = false := by
  unfold growB
  rw [List.any_eq_false]
  intro q hq
  have hq := List.mem_range.1 hq
  rw [show E.length - (m + 1) = i by omega]
  by_cases e : q = i
  · subst e; simp
  · rw [h q hq e]; simp
theorem gr_true {V : Nat} {E : List (BitVec 32)} {m i k : Nat} {p : Nat → Int} (hi : i + (m + 1) = E.length) (hk : k < E.length) (hn : k ≠ i) (h : growB V E m (updI p i k) = true) : growB V E (m + 1) p = true := by
  unfold growB
  rw [List.any_eq_true]
  refine ⟨k, List.mem_range.2 hk, ?_⟩
  rw [show E.length - (m + 1) = i by omega, h]
  simp [hn]
theorem pz_rowOf {n i : Nat} {p : Nat → Int} (h : i < n) : pz (rowOf n p) i = p i := by
  unfold pz rowOf
  simp [h]
theorem rooted_row {n : Nat} {p : Nat → Int} (hr : rngP n p) : rootedB n (pz (rowOf n p)) = rootedB n p := by
  unfold rootedB
  rw [Bool.eq_iff_iff, List.all_eq_true, List.all_eq_true]
  have h : ∀ i, i < n → up (pz (rowOf n p)) n (i : Int) = up p n (i : Int) := fun i hi => (up_congr (fun j hj => (pz_rowOf hj).symm) (fun j hj => (hr j hj).2) n (i : Int) (by omega)).symm
  constructor
  · intro a i hi; rw [← h i (List.mem_range.1 hi)]; exact a i hi
  · intro a i hi; rw [h i (List.mem_range.1 hi)]; exact a i hi
theorem joined_row {V : Nat} {E : List (BitVec 32)} {p : Nat → Int} : joinedB V E (pz (rowOf E.length p)) = joinedB V E p := joinedB_congr fun _ hi => pz_rowOf hi

def GrowPost (V : Nat) (E : List (BitVec 32)) (g i m : Nat) (p : Nat → Int) (w : World) (e : Ending) (w' : World) : Prop :=
  e = .returned (.bool (growB V E m p)) ∧ w.grownBy w' (some g) ∧ ∃ q, Row w' g 3 (is (rowOf E.length q)) ∧ Hid (nearP E.length i p q) ∧ Hid (rngP E.length q)

set_option maxHeartbeats 4000000 in
set_option maxRecDepth 100000 in
theorem grow_end (V : Nat) (A : Option Addr) (E : List (BitVec 32)) (c g : Nat) (hV : V ≤ 30) (h7 : E.length ≤ 7) (p : Nat → Int) (w : World) (hE : Rd w g A (us E)) (hR : Row w g 3 (is (rowOf E.length p))) (hr : rngP E.length p) :
    Calls Try.prog 85 #[.agg #[.int .i64 V, .slice A E.length c], .slice (some ⟨g, 0, none⟩) E.length E.length, .int .i64 E.length] w (GrowPost V E g E.length 0 p w) := by
  have hb0 := below_alloc w (.cells #[.int .i64 V, .slice A E.length c] 24)
  have hG0 : Row (w.alloc (.cells #[.int .i64 V, .slice A E.length c] 24)) w.heap.size 24 [.int .i64 V, .slice A E.length c] := Row.new _ _ _
  have hR0 := hR.later hb0
  have hE0 := (hE.below (hb0.mono (Nat.le_of_lt hR.lt))).mono (Nat.le_of_lt hR0.lt)
  have hgr : w.grownBy _ (some g) := grown_below hb0 _
  have hrz : ∀ i, i < (rowOf E.length p).length → -1 ≤ pz (rowOf E.length p) i ∧ pz (rowOf E.length p) i < (rowOf E.length p).length := fun i hi => by
    rw [rowOf_length] at hi ⊢
    rw [pz_rowOf hi]; exact hr i hi
  go_enter Try.func85, Try.ntmps85
  go_wp2_with fail
  generalize w.alloc _ = W0 at hb0 hG0 hR0 hE0 hgr ⊢
  have d0 : W0.cell? ⟨w.heap.size, 0, none⟩ = some (.int .i64 V) := hG0.cell 0
  have d1 : W0.cell? ⟨w.heap.size, 1, none⟩ = some (.slice A E.length c) := hG0.cell 1
  have H1 := rooted_any (some ⟨g, 0, none⟩) (rowOf E.length p) E.length W0 (by simp; omega) hR0.rd hrz
  have H2 := joined_any V A (some ⟨g, 0, none⟩) E (rowOf E.length p) c E.length W0 hV h7 (by simp) hE0 hR0.rd hrz
  rw [rowOf_length, rooted_row hr] at H1
  rw [rowOf_length, joined_row] at H2
  have hf : growB V E 0 p = (rootedB E.length p && joinedB V E p) := rfl
  have HX1 := Lib.hid H1
  have HX2 := Lib.hid H2
  have HF := Lib.hid hf
  have HE : Hid (∀ w', Below W0.heap.size W0 w' → GrowPost V E g E.length 0 p w (.returned (.bool (growB V E 0 p))) w') := Lib.hid fun w' hb =>
    ⟨rfl, gthen hgr (grown_below hb _), p, hR0.later hb, Lib.hid fun _ _ => rfl, Lib.hid hr⟩
  clear H1 H2 hf hrz hR0 hE0 hgr hR hE hr hb0
  rw [HF.out] at HE
  clear HF
  generalize joinedB V E p = b at HX2 HE
  generalize rootedB E.length p = a at HX1 HE
  cases a
  · go_wp2_with fail
    refine HX1.out.mono ?_
    rintro e w1 ⟨rfl, rfl⟩
    go_wp2_with fail
    go_ret
    exact HE.out _ (Below.refl _ _)
  · go_wp2_with fail
    refine HX1.out.mono ?_
    rintro e w1 ⟨rfl, rfl⟩
    go_wp2_with fail
    refine HX2.out.mono ?_
    rintro e w1 ⟨rfl, hb⟩
    go_wp2_with fail
    go_ret
    exact HE.out _ hb

set_option maxHeartbeats 4000000 in
set_option maxRecDepth 100000 in
theorem grow_any (V : Nat) (A : Option Addr) (E : List (BitVec 32)) (c g : Nat) (hV : V ≤ 30) (h7 : E.length ≤ 7) : ∀ (m i : Nat), i + m = E.length → ∀ (p : Nat → Int) (w : World), Rd w g A (us E) → Row w g 3 (is (rowOf E.length p)) → rngP E.length p →
    Calls Try.prog 85 #[.agg #[.int .i64 V, .slice A E.length c], .slice (some ⟨g, 0, none⟩) E.length E.length, .int .i64 i] w (GrowPost V E g i m p w)
  | 0, i, hi, p, w, hE, hR, hr => by
    obtain rfl : i = E.length := by omega
    exact grow_end V A E c g hV h7 p w hE hR hr
  | m + 1, i, hi, p, w, hE, hR, hr => by
    have IH := Lib.hid (grow_any V A E c g hV h7 m (i + 1) (by omega))
    have hb0 := below_alloc w (.cells #[.int .i64 V, .slice A E.length c] 24)
    have hG0 : Row (w.alloc (.cells #[.int .i64 V, .slice A E.length c] 24)) w.heap.size 24 [.int .i64 V, .slice A E.length c] := Row.new _ _ _
    have hR0 := hR.later hb0
    have hE0 := hE.below (hb0.mono (Nat.le_of_lt hR.lt))
    have hgr : w.grownBy _ (some g) := grown_below hb0 _
    have hgw : g ≠ w.heap.size := by have := hR.lt; omega
    have hni : ((i : Int) == (E.length : Int)) = false := by rw [beq_eq_false_iff_ne]; omega
    have hiE : i < E.length := by omega
    have HR := Lib.hid hr
    have HI := Lib.hid hi
    clear hr hi
    go_enter Try.func85, Try.ntmps85
    go_wp2_with fail
    generalize w.alloc _ = W0 at hb0 hG0 hR0 hE0 hgr ⊢
    go_loopw [7] (fun x wr => ∃ (k : Nat) (q : Nat → Int), k ≤ E.length ∧ x = .int .i64 k ∧ Hid (grTo V E m i p k) ∧ Row wr g 3 (is (rowOf E.length q)) ∧ Hid (nearP E.length i p q) ∧ Hid (rngP E.length q) ∧ W0.grownBy wr (some g)) (fun x _ => E.length - (intOf x).toNat)
    case atStart => exact ⟨0, p, Nat.zero_le _, rfl, Lib.hid (fun q hq => absurd hq (Nat.not_lt_zero q)), hR0, Lib.hid (fun _ _ => rfl), HR, World.grownBy.refl _ _⟩
    case round =>
      obtain ⟨k, q, hk, rfl, HT, hRk, HN, HQ, hgk⟩ := hrel
      have hGk := hG0.grown hgk (fun h => hgw (by injection h))
      have d0 : wr.cell? ⟨w.heap.size, 0, none⟩ = some (.int .i64 V) := hGk.cell 0
      have d1 : wr.cell? ⟨w.heap.size, 1, none⟩ = some (.slice A E.length c) := hGk.cell 1
      by_cases hlt : k < E.length
      · have b1 : (0 : Int) ≤ k := by omega
        have b2 : (k : Int) < E.length := by omega
        by_cases hki : k = i
        · subst hki
          have HT2 := Lib.hid (grTo_skip HT.out)
          have hkk : ((k : Int) != (k : Int)) = false := by simp
          go_wp2_with fail
          go_roundw
          case rel => exact ⟨k + 1, q, by omega, by go_num, HT2, hRk, HN, HQ, hgk⟩
          case measure => simp [intOf]; omega
        · have hkk : ((k : Int) != (i : Int)) = true := by simp; omega
          have c1 : wr.cell? ⟨g, i, none⟩ = some (.int .i64 (q i)) := (hRk.cell i).trans (rowOf_at _ _ _ hiE)
          have c2 := hRk.frozen i
          have c3 : g < wr.heap.size := hRk.lt
          have b3 : (0 : Int) ≤ i := by omega
          have b4 : (i : Int) < E.length := by omega
          have e0 : (wr.setCell ⟨g, i, none⟩ (.int .i64 k)).cell? ⟨w.heap.size, 0, none⟩ = some (.int .i64 V) := (hGk.far (p := ⟨g, i, none⟩) (fun h => hgw h.symm) _).cell 0
          have e1 : (wr.setCell ⟨g, i, none⟩ (.int .i64 k)).cell? ⟨w.heap.size, 1, none⟩ = some (.slice A E.length c) := (hGk.far (p := ⟨g, i, none⟩) (fun h => hgw h.symm) _).cell 1
          have hR1 : Row (wr.setCell ⟨g, i, none⟩ (.int .i64 k)) g 3 (is (rowOf E.length (updI q i k))) := by
            have := hRk.set_ i (.int .i64 k)
            rw [rowOf_set] at this
            exact this
          have hg1 := grown_set hgk i (.int .i64 k)
          have hE1 : Rd (wr.setCell ⟨g, i, none⟩ (.int .i64 k)) g A (us E) := hE0.below (grown_to_below hg1 (Nat.le_refl _) (Nat.le_of_lt hR0.lt))
          have HQ1 : Hid (rngP E.length (updI q i k)) := Lib.hid (fun j hj => by
            unfold updI; split
            · omega
            · exact HQ.out j hj)
          have HV : Hid (growB V E m (updI q i k) = growB V E m (updI p i k)) := Lib.hid (growB_near (by have := HI.out; omega) (fun j hj => by
            unfold updI; split
            · rfl
            · rename_i hne
              exact (HN.out j (by have := HI.out; rcases hj with h | h; left; omega; right; exact h)).symm))
          have HC := Lib.hid (IH.out (updI q i k) _ hE1 hR1 HQ1.out)
          have HTR := Lib.hid (gr_true (V := V) (p := p) HI.out hlt hki)
          have HTN := Lib.hid (fun h => grTo_next (k := k) HT.out h)
          have HNE : Hid (∀ r, nearP E.length (i + 1) (updI q i k) r → nearP E.length i p r) := Lib.hid (fun r h j hj => by
            rw [h j (by rcases hj with a | a; left; omega; right; exact a)]
            unfold updI; rw [if_neg (by omega)]; exact HN.out j hj)
          clear hRk hGk hE0 HQ1 hgk
          rw [show ((i + 1 : Nat) : Int) = (i : Int) + 1 by omega] at HC
          go_wp2_with fail
          refine HC.out.mono ?_
          rintro e w5 ⟨rfl, hg5, r, hr5, hn5, hq5⟩
          have hgz := gthen hg1 hg5
          have HN5 := Lib.hid (HNE.out r hn5.out)
          rw [HV.out]
          clear HC HV HNE hg1 hg5 hR1 hE1 e0 e1 c1 c2 d0 d1 c3 hn5
          generalize growB V E m (updI p i k) = b at HTR HTN
          cases b
          · have HT2 := Lib.hid (HTN.out rfl)
            go_wp2_with fail
            go_roundw
            case rel => exact ⟨k + 1, r, by omega, by go_num, HT2, hr5, HN5, hq5, hgz⟩
            case measure => simp [intOf]; omega
          · have HF := Lib.hid (HTR.out rfl)
            go_wp2_with fail
            go_ret
            exact ⟨by rw [HF.out]; rfl, gthen hgr hgz, r, hr5, HN5, hq5⟩
      · obtain rfl : k = E.length := by omega
        have HF : Hid (growB V E (m + 1) p = false) := Lib.hid (grTo_all HI.out HT.out)
        go_wp2_with fail
        go_ret
        exact ⟨by rw [HF.out]; rfl, gthen hgr hgk, q, hRk, HN, HQ⟩

theorem existsB_pos {V : Nat} {E : List (BitVec 32)} (h : 0 < E.length) : existsB V E = growB V E (E.length - 1) (updI (fun _ => 0) 0 (-1)) := by
  unfold existsB
  cases E with
  | nil => cases h
  | cons => rfl

set_option maxHeartbeats 4000000 in
set_option maxRecDepth 100000 in
theorem exists_any (V : Nat) (A : Option Addr) (E : List (BitVec 32)) (c : Nat) (w : World) (hV : V ≤ 30) (h7 : E.length ≤ 7) (hE : Rd w w.heap.size A (us E)) :
    Calls Try.prog 39 #[.agg #[.int .i64 V, .slice A E.length c]] w fun e w' => e = .returned (.bool (existsB V E)) ∧ Below w.heap.size w w' := by
  have hmk := mk_int E.length (by omega)
  go_enter Try.func39, Try.ntmps39
  go_upto_region 1 with fail
  have hb0 := below_alloc w (.cells #[.int .i64 V, .slice A E.length c] 24)
  have hG0 : Row (w.alloc (.cells #[.int .i64 V, .slice A E.length c] 24)) w.heap.size 24 [.int .i64 V, .slice A E.length c] := Row.new _ _ _
  have hE0 := hE.later hb0
  generalize w.alloc _ = W0 at hb0 hG0 hE0 ⊢
  have d0 : W0.cell? ⟨w.heap.size, 0, none⟩ = some (.int .i64 V) := hG0.cell 0
  have d1 : W0.cell? ⟨w.heap.size, 1, none⟩ = some (.slice A E.length c) := hG0.cell 1
  rcases Nat.eq_zero_or_pos E.length with h0 | h0
  · have hf : Hid (existsB V E = true) := Lib.hid (by unfold existsB; rw [List.eq_nil_of_length_eq_zero h0]; rfl)
    have h0' : ((E.length : Int) == 0) = true := by simp [h0]
    clear hmk h0
    go_wp2_with fail
    go_ret
    exact ⟨by rw [hf.out]; rfl, hb0⟩
  · have h0' : ((E.length : Int) == 0) = false := by rw [beq_eq_false_iff_ne]; omega
    have HE := Lib.hid (existsB_pos (V := V) h0)
    have hlt0 := hG0.lt
    have h1 : (0 : Int) < E.length := by omega
    go_upto_region 4 with fail
    have hb1 := below_alloc W0 (.cells (zeros (.int .i64 0) E.length).toArray 3)
    have hR1 : Row (W0.alloc (.cells (zeros (.int .i64 0) E.length).toArray 3)) W0.heap.size 3 (is (rowOf E.length fun _ => 0)) := by
      have : is (rowOf E.length fun _ => 0) = zeros (.int .i64 0) E.length := by unfold is rowOf zeros; rw [List.map_map]; apply List.ext_getElem?; intro i; by_cases h : i < E.length <;> simp [h]
      rw [this]; exact Row.new _ _ _
    have hG1 := hG0.later hb1
    have hE1 := hE0.below hb1
    generalize hg : W0.heap.size = g at hb1 hR1 hE1 hlt0 ⊢
    generalize W0.alloc _ = W1 at hb1 hR1 hG1 hE1 ⊢
    have c1 : W1.cell? ⟨g, 0, none⟩ = some (.int .i64 0) := (hR1.cell 0).trans (rowOf_at _ _ _ h0)
    have c2 := hR1.frozen 0
    have c3 : g < W1.heap.size := hR1.lt
    have hR2 : Row (W1.setCell ⟨g, 0, none⟩ (.int .i64 (-1))) g 3 (is (rowOf E.length (updI (fun _ => 0) 0 (-1)))) := by
      have := hR1.set_ 0 (.int .i64 (-1))
      rw [rowOf_set] at this
      exact this
    have hb2 := hb1.setCell (Nat.le_refl _) (.int .i64 (-1)) (p := ⟨g, 0, none⟩)
    have hG2 := (hG1.far (p := ⟨g, 0, none⟩) (by show w.heap.size ≠ g; omega) (.int .i64 (-1)))
    have e0 : World.cell? _ ⟨w.heap.size, 0, none⟩ = some (.int .i64 V) := hG2.cell 0
    have e1 : World.cell? _ ⟨w.heap.size, 1, none⟩ = some (.slice A E.length c) := hG2.cell 1
    have hE2 : Rd (W1.setCell ⟨g, 0, none⟩ (.int .i64 (-1))) g A (us E) := hE1.below ((Below.refl g W1).setCell (p := ⟨g, 0, none⟩) (Nat.le_refl _) _)
    have HC := Lib.hid (grow_any V A E c g hV h7 (E.length - 1) 1 (by omega) _ _ hE2 hR2 (fun j hj => by show -1 ≤ (if j = 0 then (-1 : Int) else 0) ∧ (if j = 0 then (-1 : Int) else 0) < (E.length : Int); split <;> omega))
    have hgw : w.heap.size < g := hlt0
    have hs2 : g ≤ (W1.setCell ⟨g, 0, none⟩ (.int .i64 (-1))).heap.size := Nat.le_of_lt hR2.lt
    clear hE0 hG0 d0 d1 hE1 hG1 hR1 hR2 hE2 hmk hE
    go_wp2_with fail
    refine HC.out.mono ?_
    rintro e w5 ⟨rfl, hg5, _⟩
    go_wp2_with fail
    go_ret
    refine ⟨by rw [HE.out]; rfl, hb0.trans (?_ : Below w.heap.size W0 w5)⟩
    exact (hb2.mono (Nat.le_of_lt hgw)).trans (grown_to_below hg5 (Nat.le_of_lt hgw) (Nat.le_trans (Nat.le_of_lt hgw) hs2))
end Go.Proofs.Ytkenbmelhfhidaa
