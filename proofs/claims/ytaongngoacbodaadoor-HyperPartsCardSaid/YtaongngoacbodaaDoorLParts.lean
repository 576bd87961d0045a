/- The walk of osierlaw14.HyperParts. -/
import Derived.Test.YtaongngoacbodaaDoorLComps
import Derived.Test.YtaongngoacbodaaDoorPartsLaw
namespace Go.Proofs.YtaongngoacbodaaDoor
open Go.RowKit

attribute [local go_sem ↓] uz_and uz_or uz_andNot uz_and_one uz_shr uz_shl_one uz_shl uz_sub uz_sub_one uz_add uz_beq_zero uz_bne_zero uz_beq uz_bne uz_beq_one

/-- Seven truth values, told by a function. -/
def bools (b : Nat → Bool) : List Value := (List.range 7).map fun i => .bool (b i)
theorem bools_at (b : Nat → Bool) (k : Nat) (h : k < 7) : (bools b)[k]? = some (.bool (b k)) := by simp [bools, h]
theorem bools_set (b : Nat → Bool) (k : Nat) : (bools b).set k (.bool true) = bools fun i => if i = k then true else b i := by
  unfold bools
  apply List.ext_getElem?
  intro i
  rw [List.getElem?_set, List.getElem?_map, List.getElem?_map]
  by_cases h : k = i
  · subst h
    by_cases h2 : k < 7 <;> simp [h2]
  · rw [if_neg h]
    by_cases h2 : i < 7 <;> simp [h2, Ne.symm h]
/-- The greatest number among the first k, -1 if there is none. -/
def mostTo (Z : List Nat) (k : Nat) : Int := (List.range k).foldl (fun a i => max a (zed Z i : Int)) (-1)
theorem mostTo_succ (Z : List Nat) (k : Nat) : mostTo Z (k + 1) = max (mostTo Z k) (zed Z k : Int) := by
  unfold mostTo; rw [List.range_succ, List.foldl_append]; rfl
theorem mostTo_lo (Z : List Nat) : ∀ k, -1 ≤ mostTo Z k
  | 0 => Int.le_refl _
  | k + 1 => by rw [mostTo_succ]; have := mostTo_lo Z k; omega
theorem mostTo_le (Z : List Nat) : ∀ k i, i < k → (zed Z i : Int) ≤ mostTo Z k
  | 0, i, h => by omega
  | k + 1, i, h => by
    rw [mostTo_succ]
    rcases Nat.lt_or_ge i k with c | c
    · have := mostTo_le Z k i c; omega
    · obtain rfl : i = k := by omega
      omega
theorem mostTo_hi {Z : List Nat} (h : ∀ i, i < Z.length → (zed Z i : Int) ≤ mostTo Z i + 1) : ∀ k, k ≤ Z.length → mostTo Z k ≤ (k : Int) - 1
  | 0, _ => Int.le_refl _
  | k + 1, hk => by
    rw [mostTo_succ]
    have h1 := mostTo_hi h k (by omega)
    have h2 := h k (by omega)
    omega
theorem comp_step {E : List (BitVec 32)} {Z : List Nat} (h : CompOf E (zed Z) Z.length) : ∀ i, i < Z.length → (zed Z i : Int) ≤ mostTo Z i + 1 := fun i hi => by
  rcases Int.lt_or_le (mostTo Z i + 1) (zed Z i : Int) with c | c
  · have h0 := mostTo_lo Z i
    obtain ⟨j, hj, e⟩ := h.2 i hi (mostTo Z i + 1).toNat (by omega)
    have := mostTo_le Z i j hj
    omega
  · exact c
/-- Behind the look for the component's first edge. -/
def First (E : List (BitVec 32)) (Z : List Nat) (n k : Nat) (s : BitVec 32) (cn sz : Nat) (b : Nat → Bool) : Prop :=
  sz = cntB (fun i => decide (zed Z i = n)) k ∧ ((sz = 0 ∧ (∀ i, i < k → zed Z i ≠ n) ∧ s = 0#32 ∧ cn = 0 ∧ b = fun _ => false) ∨ (0 < sz ∧ ∃ f, f < k ∧ zed Z f = n ∧ s = ed E f ∧ cn = 1 ∧ b = fun i => decide (i = f)))
theorem First.start (E : List (BitVec 32)) (Z : List Nat) (n : Nat) : First E Z n 0 0#32 0 0 (fun _ => false) := ⟨rfl, .inl ⟨rfl, fun i hi => by omega, rfl, rfl, rfl⟩⟩
theorem First.skip {E : List (BitVec 32)} {Z : List Nat} {n k cn sz : Nat} {s : BitVec 32} {b : Nat → Bool} (h : First E Z n k s cn sz b) (hk : zed Z k ≠ n) : First E Z n (k + 1) s cn sz b := by
  obtain ⟨h1, h2⟩ := h
  refine ⟨by unfold cntB; rw [← h1, if_neg (by simpa using hk)]; rfl, h2.imp (fun ⟨a, a2, r⟩ => ⟨a, fun i hi => ?_, r⟩) fun ⟨a, f, hf, r⟩ => ⟨a, f, by omega, r⟩⟩
  rcases Nat.lt_or_ge i k with c | c
  · exact a2 i c
  · obtain rfl : i = k := by omega
    exact hk
theorem First.new {E : List (BitVec 32)} {Z : List Nat} {n k cn : Nat} {s : BitVec 32} {b : Nat → Bool} (h : First E Z n k s cn 0 b) (hk : zed Z k = n) : First E Z n (k + 1) (ed E k) 1 1 (fun i => if i = k then true else b i) := by
  obtain ⟨h1, h2⟩ := h
  rcases h2 with ⟨_, _, _, _, rfl⟩ | ⟨a, _⟩
  · refine ⟨by unfold cntB; rw [← h1, if_pos (by simpa using hk)], .inr ⟨by omega, k, by omega, hk, rfl, rfl, ?_⟩⟩
    funext i
    by_cases e : i = k <;> simp [e]
  · omega
theorem First.more {E : List (BitVec 32)} {Z : List Nat} {n k cn sz : Nat} {s : BitVec 32} {b : Nat → Bool} (h : First E Z n k s cn sz b) (h0 : sz ≠ 0) (hk : zed Z k = n) : First E Z n (k + 1) s cn (sz + 1) b := by
  obtain ⟨h1, h2⟩ := h
  refine ⟨by unfold cntB; rw [← h1, if_pos (by simpa using hk)], ?_⟩
  rcases h2 with ⟨a, _⟩ | ⟨a, f, hf, r⟩
  · exact absurd a h0
  · exact .inr ⟨by omega, f, by omega, r⟩
/-- While the component is reached: after r rounds; in the midst of one, at j. -/
def Got (E : List (BitVec 32)) (Z : List Nat) (n r : Nat) (s : BitVec 32) (cn : Nat) (b : Nat → Bool) : Prop :=
  cn = cntB b E.length ∧ (((∀ i, i < E.length → zed Z i ≠ n) ∧ ∀ i, b i = false) ∨ ∃ f, f < E.length ∧ zed Z f = n ∧ PI E f r b s)
def GotM (E : List (BitVec 32)) (Z : List Nat) (n r j : Nat) (s : BitVec 32) (cn : Nat) (b : Nat → Bool) : Prop :=
  cn = cntB b E.length ∧ (((∀ i, i < E.length → zed Z i ≠ n) ∧ ∀ i, b i = false) ∨ ∃ f, f < E.length ∧ zed Z f = n ∧ PM E f r b s j)
theorem First.got {E : List (BitVec 32)} {Z : List Nat} {n cn sz : Nat} {s : BitVec 32} {b : Nat → Bool} (h : First E Z n E.length s cn sz b) : Got E Z n 0 s cn b := by
  obtain ⟨h1, ⟨a, a2, rfl, rfl, rfl⟩ | ⟨a, f, hf, hz, rfl, rfl, rfl⟩⟩ := h
  · exact ⟨(cntB_none (fun _ => rfl) _).symm, .inl ⟨a2, fun _ => rfl⟩⟩
  · refine ⟨?_, .inr ⟨f, hf, hz, PI.start hf⟩⟩
    have := cntB_set (p := fun _ => false) (j := f) rfl hf
    rw [cntB_none (fun _ => rfl)] at this
    rw [← cntB_congr (p := fun i => if i = f then true else false) (q := fun i => decide (i = f)) fun i _ => by by_cases e : i = f <;> simp [e]]
    omega
theorem Got.mid {E : List (BitVec 32)} {Z : List Nat} {n r cn : Nat} {s : BitVec 32} {b : Nat → Bool} (h : Got E Z n r s cn b) : GotM E Z n r 0 s cn b :=
  ⟨h.1, h.2.imp id fun ⟨f, a, c, p⟩ => ⟨f, a, c, p.mid⟩⟩
theorem GotM.end_ {E : List (BitVec 32)} {Z : List Nat} {n r cn : Nat} {s : BitVec 32} {b : Nat → Bool} (h : GotM E Z n r E.length s cn b) : Got E Z n (r + 1) s cn b :=
  ⟨h.1, h.2.imp id fun ⟨f, a, c, p⟩ => ⟨f, a, c, p.end_ a⟩⟩
theorem GotM.skip {E : List (BitVec 32)} {Z : List Nat} {n r j cn : Nat} {s : BitVec 32} {b : Nat → Bool} (h : GotM E Z n r j s cn b) (hC : CompOf E (zed Z) E.length) (hj : j < E.length) (hc : zed Z j ≠ n ∨ b j = true ∨ meetB s (ed E j) = false) : GotM E Z n r (j + 1) s cn b := by
  refine ⟨h.1, h.2.imp id fun ⟨f, a, c, p⟩ => ⟨f, a, c, p.skip a hj ?_⟩⟩
  rcases hc with x | x | x
  · exact .inr (.inr fun hc => x (by rw [← c]; exact ((hC.1 f j a hj).2 hc).symm))
  · exact .inl x
  · exact .inr (.inl x)
theorem GotM.come {E : List (BitVec 32)} {Z : List Nat} {n r j cn : Nat} {s : BitVec 32} {b : Nat → Bool} (h : GotM E Z n r j s cn b) (hC : CompOf E (zed Z) E.length) (hj : j < E.length) (h1 : zed Z j = n) (h2 : b j = false) :
    GotM E Z n r (j + 1) (s ||| ed E j) (cn + 1) (fun i => if i = j then true else b i) := by
  refine ⟨by rw [cntB_set h2 hj, ← h.1], ?_⟩
  rcases h.2 with ⟨a, _⟩ | ⟨f, a, c, p⟩
  · exact absurd h1 (a j hj)
  · exact .inr ⟨f, a, c, p.come hj ((hC.1 f j a hj).1 (by rw [c, h1]))⟩
theorem Got.all {E : List (BitVec 32)} {Z : List Nat} {n cn : Nat} {s : BitVec 32} {b : Nat → Bool} (h : Got E Z n E.length s cn b) (hC : CompOf E (zed Z) E.length) : cn = cntB (fun i => decide (zed Z i = n)) E.length := by
  rw [h.1]
  refine cntB_congr fun i hi => ?_
  rw [Bool.eq_iff_iff, decide_eq_true_eq]
  rcases h.2 with ⟨a, c⟩ | ⟨f, a, c, p⟩
  · rw [c i]; exact ⟨(fun e => by cases e), fun e => absurd e (a i hi)⟩
  · rw [p.all a i hi, ← hC.1 f i a hi, c]
    exact ⟨fun e => e.symm, fun e => e.symm⟩

set_option maxHeartbeats 8000000 in
set_option maxRecDepth 100000 in
theorem law_parts (V : Int) (A : Option Addr) (E : List (BitVec 32)) (c : Nat) (w : World) (hl : E.length ≤ 35184372087808) (hE : Rd w w.heap.size A (us E)) (hT : Tab w) :
    Calls Tryd.prog 8 #[.agg #[.int .i64 V, .slice A E.length c]] w fun e w' => e = .returned (.bool true) ∧ Below w.heap.size w w' := by
  go_enter Tryd.func8, Tryd.ntmps8
  go_wp2_with fail
  have hb0 := below_alloc w (.cells #[.int .i64 V, .slice A E.length c] 24)
  have hG0 : Row (w.alloc (.cells #[.int .i64 V, .slice A E.length c] 24)) w.heap.size 24 [.int .i64 V, .slice A E.length c] := Row.new _ _ _
  generalize w.alloc _ = w0 at hb0 hG0 ⊢
  refine (copy_any V A E c _ hl (hE.later hb0)).mono ?_
  rintro e w1 ⟨g, rfl, hg, hRg, hb1⟩
  have hB1 := bthen hb0 hb1
  go_wp2_with fail
  refine (components_any V (some ⟨g, 0, none⟩) E E.length w1 hl hRg.rd).mono ?_
  rintro e w2 ⟨va, Z, k1, rfl, hown, hP, hb2⟩
  obtain ⟨Am, cm, rfl, _, _, hZr, _⟩ := Rd.of_own hown
  have hB2 := bthen hB1 hb2
  have hG2 := hG0.later (bthen hb1 hb2)
  have d0 : w2.cell? ⟨w.heap.size, 0, none⟩ = some (.int .i64 V) := hG2.cell 0
  have d1 : w2.cell? ⟨w.heap.size, 1, none⟩ = some (.slice A E.length c) := hG2.cell 1
  go_wp2_with fail
  refine (r14valid_any V A E c w2 hl (hE.later hB2)).mono ?_
  rintro e w3 ⟨rfl, hb3⟩
  have hB3 := bthen hB2 hb3
  cases hv : validB V E
  · obtain ⟨rfl, rfl⟩ : Z = [] ∧ k1 = 140 := by
      rcases hP.out with ⟨_, a, b⟩ | ⟨a, _⟩
      · exact ⟨a, b⟩
      · rw [hv] at a; cases a
    go_wp2_with fail
    refine (awake_any w3 (hT.later hB3)).mono ?_
    rintro e w4 ⟨rfl, hb4⟩
    go_wp2
    go_ret
    exact ⟨rfl, bthen hB3 hb4⟩
  · obtain ⟨hZl, hC, rfl⟩ : Z.length = E.length ∧ CompOf E (zed Z) E.length ∧ k1 = 0 := by
      rcases hP.out with ⟨a, _⟩ | ⟨_, a, b, d⟩
      · rw [hv] at a; cases a
      · exact ⟨a, b, d⟩
    have h7 : E.length ≤ 7 := (validB_of hv).2.2.1
    have HC := Lib.hid hC
    have HST := Lib.hid (comp_step (by rw [hZl]; exact hC))
    have HHI := Lib.hid (mostTo_hi HST.out)
    have HZL := Lib.hid hZl
    rw [hZl] at hown
    have hG3 := hG2.later hb3
    have hZ3 := hZr.later hb3
    have e0 : w3.cell? ⟨w.heap.size, 0, none⟩ = some (.int .i64 V) := hG3.cell 0
    have e1 : w3.cell? ⟨w.heap.size, 1, none⟩ = some (.slice A E.length c) := hG3.cell 1
    have hgl : w.heap.size < w3.heap.size := hG3.lt
    have hE3 := hE.later hB3
    rw [hZl]
    clear hP hC hv d0 d1 hZl hZr
    go_wp2_with fail
    go_loopg [5, 46] E.length (fun gk mv i wr => ∃ k : Nat, k ≤ E.length ∧ gk = E.length - k ∧ i = .int .i64 k ∧ mv = .int .i64 (mostTo Z k) ∧ Below w3.heap.size w3 wr)
    case atStart => exact ⟨0, Nat.zero_le _, rfl, rfl, rfl, Below.refl _ _⟩
    case round =>
      obtain ⟨k, hk, rfl, rfl, rfl, hbr⟩ := hrel
      obtain ⟨wo, hwo⟩ : ∃ wo : World, wo = wr := ⟨_, rfl⟩
      subst hwo
      have hq0 := mostTo_lo Z k
      have hq2 := HHI.out k (by have := HZL.out; omega)
      have hZo := hZ3.later hbr
      have hEo := hE3.later hbr
      have x1 := Tab_cell hbr e1
      have hBo := bthen hB3 hbr
      by_cases hlt : k < E.length
      · have hkZ : k < Z.length := by have := HZL.out; omega
        obtain ⟨ad, hA, _, hc⟩ := hZo.z_at hkZ
        subst hA
        have hq1 := HST.out k hkZ
        have HQ := Lib.hid (mostTo_succ Z k)
        obtain ⟨q, hq⟩ : ∃ q, q = mostTo Z k := ⟨_, rfl⟩
        obtain ⟨z, hz⟩ : ∃ z, z = zed Z k := ⟨_, rfl⟩
        rw [← hq] at hq0 hq2 hq1 HQ ⊢
        rw [← hz] at hq1 hc HQ
        have HZk := Lib.hid hz
        have b1 : (0 : Int) ≤ k := by omega
        have b2 : (k : Int) < E.length := by omega
        clear hq hz
        go_wp2_with fail
        all_goals
          go_loopg [71] E.length (fun gj j wi => ∃ m : Nat, m ≤ E.length ∧ gj = E.length - m ∧ j = .int .i64 m ∧ Below wo.heap.size wo wi)
          case atStart => exact ⟨0, Nat.zero_le _, rfl, rfl, Below.refl _ _⟩
          case round =>
            obtain ⟨m, hm, rfl, rfl, hbi⟩ := hrel
            by_cases hlt2 : m < E.length
            · obtain ⟨ad2, hA2, _, hc2⟩ := (hZo.later hbi).z_at (show m < Z.length by have := HZL.out; omega)
              obtain rfl : ad = ad2 := by injection hA2
              have hEi := hEo.later hbi
              obtain ⟨ae, hAe, _, hce⟩ := hEi.e_at hlt
              obtain ⟨ae2, hAe2, _, hce2⟩ := hEi.e_at hlt2
              obtain rfl : ae = ae2 := by rw [hAe] at hAe2; injection hAe2
              subst hAe
              have hc1 := Tab_cell hbi hc
              have x2 := Tab_cell hbi x1
              have hsame : meetB (ed E k) (ed E m) = true → z = zed Z m := fun h => by
                rw [HZk.out]
                exact (HC.out.1 k m hlt hlt2).2 ⟨1, k, rfl, hlt, hlt2, h⟩
              generalize ed E k = x at hce hsame
              generalize ed E m = y at hce2 hsame
              generalize zed Z m = z2 at hc2 hsame
              have a3 : (0 : Int) ≤ m := by omega
              have a4 : (m : Int) < E.length := by omega
              clear hAe2 hA2
              cases h1 : meetB x y
              · have hmm : ∀ w, Calls Tryd.prog 24 #[.int .u32 (uz x), .int .u32 (uz y)] w fun e w' => e = .returned (.bool false) ∧ w = w' := fun w => by rw [← h1]; exact meet_any x y w
                have HM := Lib.hid hmm
                clear hmm hsame h1
                go_wp2_with fail
                go_quiet (exact pure_quiet HM.out)
                go_wp2_with fail
                go_roundg (E.length - (m + 1))
                case measure => omega
                case rel => exact ⟨m + 1, by omega, rfl, by go_num, below_drewN hbi _⟩
              · have hmm : ∀ w, Calls Tryd.prog 24 #[.int .u32 (uz x), .int .u32 (uz y)] w fun e w' => e = .returned (.bool true) ∧ w = w' := fun w => by rw [← h1]; exact meet_any x y w
                have HM := Lib.hid hmm
                have hzz := hsame h1
                have hne : ((z : Int) != (z2 : Int)) = false := by simp [hzz]
                clear hmm hsame h1 hzz
                go_wp2_with fail
                go_quiet (exact pure_quiet HM.out)
                go_wp2_with fail
                go_roundg (E.length - (m + 1))
                case measure => omega
                case rel => exact ⟨m + 1, by omega, rfl, by go_num, below_drewN hbi _⟩
            · go_wp2_with fail
              go_roundg (E.length - (k + 1))
              case measure => omega
              case rel => exact ⟨k + 1, by omega, rfl, by go_num, by rw [HQ.out]; congr 1; omega, bthen hbr hbi⟩
      · have hk' : k = E.length := by omega
        subst hk'
        obtain ⟨q, hq⟩ : ∃ q, q = mostTo Z E.length := ⟨_, rfl⟩
        rw [← hq] at hq0 hq2 ⊢
        clear hq
        go_wp2_with fail
        go_loopw [8] (fun nv wi => ∃ n : Nat, (n : Int) ≤ q + 1 ∧ nv = .int .i64 n ∧ Below wo.heap.size wo wi) (fun nv _ => (q + 1 - intOf nv).toNat)
        case atStart => exact ⟨0, by omega, rfl, Below.refl _ _⟩
        case round =>
          obtain ⟨n, hn, rfl, hbi⟩ := hrel
          by_cases hnq : (n : Int) ≤ q
          · go_upto_region 25 with fail
            have hbx := below_alloc wr (.cells #[.bool false, .bool false, .bool false, .bool false, .bool false, .bool false, .bool false] 44)
            have hR0 : Row (wr.alloc (.cells #[.bool false, .bool false, .bool false, .bool false, .bool false, .bool false, .bool false] 44)) wr.heap.size 44 (bools fun _ => false) := Row.new wr 44 (bools fun _ => false)
            have hEq := hEo.later hbi
            have hZq := hZo.later hbi
            have xq := Tab_cell hbi x1
            have xlt := World.block_lt_of_cell? _ _ xq
            have hwoh := hbi.size
            simp only at xlt
            obtain ⟨wq, ewq, hbi⟩ : ∃ wq : World, wq = wr ∧ Below wo.heap.size wo wq := ⟨wr, rfl, hbi⟩
            rw [← ewq] at hbx hR0 hEq hZq xq xlt hwoh ⊢
            generalize hh : wq.heap.size = h at hbx hR0 hEq hZq xlt hwoh ⊢
            generalize wq.alloc _ = wy at hbx hR0 ⊢
            clear ewq hh
            go_wp2_with fail
            go_loopw [9, 10, 11, 105] (fun s cn sz i wr => ∃ (k : Nat) (s' : BitVec 32) (cn' sz' : Nat) (b : Nat → Bool), k ≤ E.length ∧ i = .int .i64 k ∧ s = .int .u32 (uz s') ∧ cn = .int .i64 cn' ∧ sz = .int .i64 sz' ∧ Hid (First E Z n k s' cn' sz' b) ∧ sz' ≤ k ∧ Row wr h 44 (bools b) ∧ Below h wq wr) (fun _ _ _ i _ => E.length - (intOf i).toNat)
            case atStart => exact ⟨0, 0#32, 0, 0, fun _ => false, Nat.zero_le _, rfl, rfl, rfl, rfl, Lib.hid (First.start E Z n), Nat.le_refl _, hR0, hbx⟩
            case round =>
              obtain ⟨k, s', cn', sz', b, hk2, rfl, rfl, rfl, rfl, HF, hsz, hRk, hbk⟩ := hrel
              have hglk := hRk.lt
              by_cases hlk : k < E.length
              · obtain ⟨ad, hA, _, hc⟩ := (hZq.below hbk).z_at (show k < Z.length by have := HZL.out; omega)
                subst hA
                have b1 : (0 : Int) ≤ k := by omega
                have b2 : (k : Int) < E.length := by omega
                have b3 : (k : Int) < 7 := by omega
                have HSK := Lib.hid (fun h => HF.out.skip h)
                have HMO := Lib.hid (fun h0 h => HF.out.more h0 h)
                have HNE := Lib.hid (fun (h0 : sz' = 0) h => (show First E Z n k s' cn' 0 b by rw [← h0]; exact HF.out).new h)
                obtain ⟨z, hz⟩ : ∃ z, z = zed Z k := ⟨_, rfl⟩
                rw [← hz] at hc HSK HMO HNE
                clear hz
                by_cases hzn : z = n
                · subst hzn
                  have e1 : ((z : Int) == (z : Int)) = true := by simp
                  by_cases h0 : sz' = 0
                  · subst h0
                    obtain ⟨ae, hAe, _, hce⟩ := (hEq.below hbk).e_at hlk
                    subst hAe
                    have xk : World.cell? wr ⟨w.heap.size, 1, none⟩ = some (.slice (some ae) E.length c) := (hbk.cell (p := ⟨w.heap.size, 1, none⟩) xlt).trans xq
                    have HN2 := Lib.hid (HNE.out rfl rfl)
                    have c1 : World.cell? wr ⟨h, k, none⟩ = some (.bool (b k)) := (hRk.cell k).trans (bools_at b k (by omega))
                    have z1 := hRk.frozen k
                    have hset := hRk.set_ k (.bool true)
                    rw [bools_set] at hset
                    generalize ed E k = x at hce HN2
                    generalize b k = bk at c1
                    clear HSK HMO HNE HF
                    go_wp2_with fail
                    go_roundw
                    case rel => exact ⟨k + 1, x, 1, 1, _, by omega, by go_num, rfl, rfl, rfl, HN2, by omega, hset, hbk.setCell (Nat.le_refl _) _⟩
                    case measure => simp [intOf]; omega
                  · have e2 : ((sz' : Int) == 0) = false := by rw [beq_eq_false_iff_ne]; omega
                    have HN2 := Lib.hid (HMO.out h0 rfl)
                    clear HSK HMO HNE HF h0
                    go_wp2_with fail
                    go_roundw
                    case rel => exact ⟨k + 1, s', cn', sz' + 1, b, by omega, by go_num, rfl, rfl, by go_num, HN2, by omega, hRk, hbk⟩
                    case measure => simp [intOf]; omega
                · have e1 : ((z : Int) == (n : Int)) = false := by rw [beq_eq_false_iff_ne]; omega
                  have HN2 := Lib.hid (HSK.out hzn)
                  clear HSK HMO HNE HF hzn
                  go_wp2_with fail
                  go_roundw
                  case rel => exact ⟨k + 1, s', cn', sz', b, by omega, by go_num, rfl, rfl, rfl, HN2, by omega, hRk, hbk⟩
                  case measure => simp [intOf]; omega
              · have hke : k = E.length := by omega
                clear hlk hk2
                subst hke
                have HG := Lib.hid HF.out.got
                have HSZ : Hid (sz' = cntB (fun i => decide (zed Z i = n)) E.length) := Lib.hid HF.out.1
                clear HF
                go_wp2_with fail
                go_loopw [9, 10, 128] (fun s cn i wr => ∃ (r : Nat) (s' : BitVec 32) (cn' : Nat) (b : Nat → Bool), r ≤ E.length ∧ i = .int .i64 r ∧ s = .int .u32 (uz s') ∧ cn = .int .i64 cn' ∧ Hid (Got E Z n r s' cn' b) ∧ Row wr h 44 (bools b) ∧ Below h wq wr) (fun _ _ i _ => E.length - (intOf i).toNat)
                case atStart => exact ⟨0, s', cn', b, Nat.zero_le _, rfl, rfl, rfl, HG, hRk, hbk⟩
                case round =>
                  obtain ⟨r, s1, cn1, b1', hr, rfl, rfl, rfl, HGr, hRr, hbr2⟩ := hrel
                  by_cases hlr : r < E.length
                  · have HGM := Lib.hid HGr.out.mid
                    go_wp2_with fail
                    go_loopw [9, 10, 132] (fun s cn i wr => ∃ (j : Nat) (s' : BitVec 32) (cn' : Nat) (b : Nat → Bool), j ≤ E.length ∧ i = .int .i64 j ∧ s = .int .u32 (uz s') ∧ cn = .int .i64 cn' ∧ Hid (GotM E Z n r j s' cn' b) ∧ Row wr h 44 (bools b) ∧ Below h wq wr) (fun _ _ i _ => E.length - (intOf i).toNat)
                    case atStart => exact ⟨0, s1, cn1, b1', Nat.zero_le _, rfl, rfl, rfl, HGM, hRr, hbr2⟩
                    case round =>
                      obtain ⟨j, s2, cn2, b2', hj, rfl, rfl, rfl, HM, hRj, hbj⟩ := hrel
                      have hglj := hRj.lt
                      by_cases hlj : j < E.length
                      · obtain ⟨ad, hA, _, hc⟩ := (hZq.below hbj).z_at (show j < Z.length by have := HZL.out; omega)
                        subst hA
                        obtain ⟨ae, hAe, hael, hce⟩ := (hEq.below hbj).e_at hlj
                        subst hAe
                        have hce2 : (World.setCell wr ⟨h, j, none⟩ (.bool true)).cell? (ae.add j) = some (.int .u32 (uz (ed E j))) := (((Below.refl h wr).setCell (p := ⟨h, j, none⟩) (Nat.le_refl _) (.bool true)).cell (by rw [block_add]; exact hael)).trans hce
                        have xk : World.cell? wr ⟨w.heap.size, 1, none⟩ = some (.slice (some ae) E.length c) := (hbj.cell (p := ⟨w.heap.size, 1, none⟩) xlt).trans xq
                        have c1 : World.cell? wr ⟨h, j, none⟩ = some (.bool (b2' j)) := (hRj.cell j).trans (bools_at b2' j (by omega))
                        have z1 := hRj.frozen j
                        have hset := hRj.set_ j (.bool true)
                        rw [bools_set] at hset
                        have a1 : (0 : Int) ≤ j := by omega
                        have a2 : (j : Int) < E.length := by omega
                        have a3 : (j : Int) < 7 := by omega
                        have HSK := Lib.hid (fun h => HM.out.skip HC.out hlj h)
                        have HCO := Lib.hid (fun h1 h2 => HM.out.come HC.out hlj h1 h2)
                        have hcn : cn2 ≤ 7 := by have := HM.out.1; have := cntB_le b2' E.length; omega
                        obtain ⟨z, hz⟩ : ∃ z, z = zed Z j := ⟨_, rfl⟩
                        rw [← hz] at hc HSK HCO
                        generalize hbb : b2' j = bj at c1 HSK HCO
                        generalize ed E j = x at hce hce2 HSK HCO
                        clear hz hbb HM
                        by_cases hzn : z = n
                        · subst hzn
                          have e1 : ((z : Int) == (z : Int)) = true := by simp
                          cases bj
                          · have HMT := Lib.hid (fun w => meet_any s2 x w)
                            have HCO2 := Lib.hid (HCO.out rfl rfl)
                            cases hm : meetB s2 x
                            · have HN2 := Lib.hid (HSK.out (.inr (.inr hm)))
                              rw [hm] at HMT
                              clear HSK HCO HCO2 hm hset
                              go_wp2_with (go_at_call 24; refine (HMT.out _).mono ?_; rintro e w' ⟨rfl, rfl⟩)
                              go_roundw
                              case rel => exact ⟨j + 1, s2, cn2, b2', by omega, by go_num, rfl, rfl, HN2, hRj, hbj⟩
                              case measure => simp [intOf]; omega
                            · rw [hm] at HMT
                              clear HSK HCO hm
                              go_wp2_with (go_at_call 24; refine (HMT.out _).mono ?_; rintro e w' ⟨rfl, rfl⟩)
                              go_roundw
                              case rel => exact ⟨j + 1, s2 ||| x, cn2 + 1, _, by omega, by go_num, rfl, by go_num, HCO2, hset, hbj.setCell (Nat.le_refl _) _⟩
                              case measure => simp [intOf]; omega
                          · have HN2 := Lib.hid (HSK.out (.inr (.inl rfl)))
                            clear HSK HCO hset
                            go_wp2_with fail
                            go_roundw
                            case rel => exact ⟨j + 1, s2, cn2, b2', by omega, by go_num, rfl, rfl, HN2, hRj, hbj⟩
                            case measure => simp [intOf]; omega
                        · have e1 : ((z : Int) == (n : Int)) = false := by rw [beq_eq_false_iff_ne]; omega
                          have HN2 := Lib.hid (HSK.out (.inl hzn))
                          clear HSK HCO hzn hset
                          go_wp2_with fail
                          go_roundw
                          case rel => exact ⟨j + 1, s2, cn2, b2', by omega, by go_num, rfl, rfl, HN2, hRj, hbj⟩
                          case measure => simp [intOf]; omega
                      · have hje : j = E.length := by omega
                        clear hlj hj
                        subst hje
                        have HN2 := Lib.hid HM.out.end_
                        go_wp2_with fail
                        go_roundw
                        case rel => exact ⟨r + 1, s2, cn2, b2', by omega, by go_num, rfl, rfl, HN2, hRj, hbj⟩
                        case measure => simp [intOf]; omega
                  · have hre : r = E.length := by omega
                    clear hlr hr
                    subst hre
                    have hcs : cn1 = sz' := by rw [HSZ.out]; exact HGr.out.all HC.out
                    subst hcs
                    have e1 : ((cn1 : Int) != (cn1 : Int)) = false := by simp
                    go_wp2_with fail
                    go_roundw
                    case rel => exact ⟨n + 1, by omega, by go_num, hbi.trans (hbr2.mono hwoh)⟩
                    case measure => simp [intOf]; omega
          · have hBp := bthen hBo hbi
            go_wp2_with (go_at_call 11; refine (awake_any _ (hT.later hBp)).mono ?_; rintro e w4 ⟨rfl, hb4⟩)
            go_ret
            exact ⟨rfl, bthen hBp hb4⟩
end Go.Proofs.YtaongngoacbodaaDoor
