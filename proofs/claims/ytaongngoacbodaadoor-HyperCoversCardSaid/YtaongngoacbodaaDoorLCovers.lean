/- The walk of osierlaw14.HyperCovers. -/
import Derived.Test.YtaongngoacbodaaDoorAwake14
import Derived.Test.YtaongngoacbodaaDoorMax
namespace Go.Proofs.YtaongngoacbodaaDoor
open Go.RowKit

attribute [local go_sem ↓] uz_and uz_or uz_andNot uz_and_one uz_shr uz_shl_one uz_shl uz_sub uz_sub_one uz_add uz_beq_zero uz_bne_zero uz_beq uz_bne uz_beq_one

/-! ### What Maximal's list is -/
theorem subB_iff (x y : BitVec 32) : subB x y = true ↔ ∀ i, x.getLsbD i = true → y.getLsbD i = true := by
  unfold subB
  rw [beq_iff_eq]
  constructor
  · intro h i hx
    have h1 := congrArg (fun z => z.getLsbD i) h
    have hi : i < 32 := lt_of_bit hx
    simp only [BitVec.getLsbD_and, BitVec.getLsbD_not, hi, decide_true, Bool.true_and, hx, BitVec.getLsbD_zero] at h1
    simpa using h1
  · intro h
    apply BitVec.eq_of_getLsbD_eq
    intro i hi
    simp only [BitVec.getLsbD_and, BitVec.getLsbD_not, hi, decide_true, Bool.true_and, BitVec.getLsbD_zero]
    cases hx : x.getLsbD i
    · rfl
    · rw [h i hx]; rfl
theorem subB_trans {x y z : BitVec 32} (h : subB x y = true) (k : subB y z = true) : subB x z = true := by
  rw [subB_iff] at *
  exact fun i hi => k i (h i hi)
theorem subB_antisymm {x y : BitVec 32} (h : subB x y = true) (k : subB y x = true) : x = y := by
  rw [subB_iff] at *
  apply BitVec.eq_of_getLsbD_eq
  intro i _
  rw [Bool.eq_iff_iff]
  exact ⟨h i, k i⟩
theorem subB_le {x y : BitVec 32} (h : subB x y = true) : x.toNat ≤ y.toNat := by
  have e : y = x ||| y := by
    apply BitVec.eq_of_getLsbD_eq
    intro i _
    rw [BitVec.getLsbD_or]
    cases hx : x.getLsbD i
    · simp
    · rw [(subB_iff x y).1 h i hx]; rfl
  have e2 := congrArg BitVec.toNat e
  rw [BitVec.toNat_or] at e2
  have := Nat.left_le_or (n := x.toNat) (m := y.toNat)
  omega
theorem subB_lt {x y : BitVec 32} (h : subB x y = true) (hne : x ≠ y) : x.toNat < y.toNat := by
  have := subB_le h
  have : x.toNat ≠ y.toNat := fun e => hne (BitVec.eq_of_toNat_eq e)
  omega
theorem mem_maxTo {E : List (BitVec 32)} {k a : Nat} : a ∈ maxTo E k ↔ a < k ∧ topM E a = true := by
  simp [maxTo, List.mem_filter]
theorem topM_iff {E : List (BitVec 32)} {a : Nat} : topM E a = true ↔ ∀ j, j < E.length → badM E a j = false := by
  unfold topM
  rw [Bool.not_eq_true', List.any_eq_false]
  simp [List.mem_range]
/-- Of two maximal edges none is part of the other. -/
theorem max_apart {E : List (BitVec 32)} {a b : Nat} (ha : a ∈ maxTo E E.length) (hb : b ∈ maxTo E E.length) (hne : a ≠ b) : subB (ed E a) (ed E b) = false := by
  obtain ⟨ha1, ha2⟩ := mem_maxTo.1 ha
  obtain ⟨hb1, hb2⟩ := mem_maxTo.1 hb
  have h1 := topM_iff.1 ha2 b hb1
  have h2 := topM_iff.1 hb2 a ha1
  cases hs : subB (ed E a) (ed E b)
  · rfl
  · exfalso
    unfold badM at h1 h2
    rw [hs] at h1
    by_cases he : ed E a = ed E b
    · have e1 : (a != b) = true := by simpa using hne
      have e2 : (b != a) = true := by simpa using fun h => hne h.symm
      rw [e1, he] at h1
      rw [e2, he, subB_refl] at h2
      simp at h1 h2
      omega
    · have e1 : (a != b) = true := by simpa using hne
      have e3 : (ed E a != ed E b) = true := by simpa using he
      rw [e1, e3] at h1
      simp at h1
/-- Each edge is part of a maximal one. -/
theorem max_covers {E : List (BitVec 32)} : ∀ (t : Nat) (i : Nat), i < E.length → 4294967296 - (ed E i).toNat ≤ t → ∃ a, a ∈ maxTo E E.length ∧ subB (ed E i) (ed E a) = true := by
  intro t
  induction t with
  | zero => intro i _ h; have := (ed E i).isLt; omega
  | succ t ih =>
    intro i
    induction i using Nat.strongRecOn with
    | _ i ih2 =>
      intro hi ht
      cases hT : topM E i
      · have : ∃ j, j < E.length ∧ badM E i j = true := by
          unfold topM at hT
          rw [Bool.not_eq_false', List.any_eq_true] at hT
          obtain ⟨j, hj, hb⟩ := hT
          exact ⟨j, List.mem_range.1 hj, hb⟩
        obtain ⟨j, hj, hb⟩ := this
        unfold badM at hb
        simp only [Bool.and_eq_true, Bool.or_eq_true, bne_iff_ne, decide_eq_true_eq] at hb
        obtain ⟨hne, hsub, hc⟩ := hb
        rcases Classical.em (ed E i = ed E j) with he | he
        · have hji : j < i := by
            rcases hc with hc | hc
            · exact absurd he hc
            · exact hc
          obtain ⟨a, ha, hs⟩ := ih2 j hji hj (by rw [← he]; exact ht)
          exact ⟨a, ha, subB_trans hsub hs⟩
        · have := subB_lt hsub he
          have := (ed E j).isLt
          obtain ⟨a, ha, hs⟩ := ih j hj (by omega)
          exact ⟨a, ha, subB_trans hsub hs⟩
      · exact ⟨i, mem_maxTo.2 ⟨hi, hT⟩, subB_refl _⟩
theorem maxTo_sorted (E : List (BitVec 32)) (k : Nat) : (maxTo E k).Pairwise (· < ·) := by
  unfold maxTo
  exact List.Pairwise.filter _ List.pairwise_lt_range

/-- The k-th number. -/
def zed (Z : List Nat) (k : Nat) : Nat := Z.getD k 0
theorem zed_eq (Z : List Nat) (k : Nat) (h : k < Z.length) : Z[k] = zed Z k := by simp [zed, h]
theorem zed_mem (Z : List Nat) (k : Nat) (h : k < Z.length) : zed Z k ∈ Z := by rw [← zed_eq Z k h]; exact List.getElem_mem _
theorem Rd.z_at {w : World} {B : Nat} {A : Option Addr} {Z : List Nat} (h : Rd w B A (is (Z.map Int.ofNat))) {k : Nat} (hk : k < Z.length) :
    ∃ ad, A = some ad ∧ ad.block < B ∧ w.cell? (ad.add k) = some (.int .i64 ((zed Z k : Nat) : Int)) := by
  obtain ⟨ad, e, hl, hc⟩ := h.i_at (by simpa using hk : k < (Z.map Int.ofNat).length)
  refine ⟨ad, e, hl, hc.trans ?_⟩
  rw [List.getElem_map, zed_eq Z k hk]; rfl
theorem zed_lt_of_sorted {Z : List Nat} (h : Z.Pairwise (· < ·)) {i j : Nat} (hij : i < j) (hj : j < Z.length) : zed Z i < zed Z j := by
  rw [← zed_eq Z i (by omega), ← zed_eq Z j hj]
  exact List.pairwise_iff_getElem.1 h i j (by omega) hj hij

set_option maxHeartbeats 4000000 in
set_option maxRecDepth 100000 in
theorem law_covers (V : Int) (A : Option Addr) (E : List (BitVec 32)) (c : Nat) (w : World) (hl : E.length ≤ 35184372087808) (hE : Rd w w.heap.size A (us E)) (hT : Tab w) :
    Calls Tryd.prog 6 #[.agg #[.int .i64 V, .slice A E.length c]] w fun e w' => e = .returned (.bool true) ∧ Below w.heap.size w w' := by
  go_enter Tryd.func6, Tryd.ntmps6
  go_wp2_with fail
  have hb0 := below_alloc w (.cells #[.int .i64 V, .slice A E.length c] 24)
  have hG0 : Row (w.alloc (.cells #[.int .i64 V, .slice A E.length c] 24)) w.heap.size 24 [.int .i64 V, .slice A E.length c] := Row.new _ _ _
  generalize w.alloc _ = w0 at hb0 hG0 ⊢
  refine (copy_any V A E c _ hl (hE.later hb0)).mono ?_
  rintro e w1 ⟨g, rfl, hg, hRg, hb1⟩
  have hB1 := bthen hb0 hb1
  have hG1 := hG0.later hb1
  go_wp2_with fail
  refine (maximal_any V (some ⟨g, 0, none⟩) E E.length w1 hl hRg.rd).mono ?_
  rintro e w2 ⟨v, Z, k1, rfl, hown, hM, hb2⟩
  have hB2 := bthen hB1 hb2
  have hG2 := hG1.later hb2
  obtain ⟨Am, cm, rfl, _, hZl, hZr, _⟩ := Rd.of_own hown
  rw [is_length, List.length_map] at hZl
  have cG0 : w2.cell? ⟨w.heap.size, 0, none⟩ = some (.int .i64 V) := hG2.cell 0
  have cG1 : w2.cell? ⟨w.heap.size, 1, none⟩ = some (.slice A E.length c) := hG2.cell 1
  clear hZl
  go_wp2_with fail
  refine (r14valid_any V A E c w2 hl (hE.later hB2)).mono ?_
  rintro e w3 ⟨rfl, hb3⟩
  have hB3 := bthen hB2 hb3
  cases hv : validB V E
  · obtain ⟨rfl, rfl⟩ : Z = [] ∧ k1 = 140 := by
      rcases hM.out with ⟨_, a, b⟩ | ⟨a, _⟩
      · exact ⟨a, b⟩
      · rw [hv] at a; cases a
    go_wp2_with fail
    refine (awake_any w3 (hT.later hB3)).mono ?_
    rintro e w4 ⟨rfl, hb4⟩
    go_wp2
    go_ret
    exact ⟨rfl, bthen hB3 hb4⟩
  · obtain ⟨hZ, rfl⟩ : Z = maxTo E E.length ∧ k1 = 0 := by
      rcases hM.out with ⟨a, _⟩ | ⟨_, a, b⟩
      · rw [hv] at a; cases a
      · exact ⟨a, b⟩
    have h7 : E.length ≤ 7 := (validB_of hv).2.2.1
    have hZ7 : Z.length ≤ 7 := by rw [hZ]; have := maxTo_len E E.length; omega
    have hlt : ∀ k, k < Z.length → zed Z k < E.length := fun k hk => by
      have h := zed_mem Z k hk
      exact (mem_maxTo.1 (show zed Z k ∈ maxTo E E.length by rw [← hZ]; exact h)).1
    have hsort : Z.Pairwise (· < ·) := by rw [hZ]; exact maxTo_sorted E _
    have hapart : ∀ i j, i < Z.length → j < Z.length → i ≠ j → subB (ed E (zed Z i)) (ed E (zed Z j)) = false := fun i j hi hj hij => by
      refine max_apart (show zed Z i ∈ maxTo E E.length by rw [← hZ]; exact zed_mem Z i hi) (show zed Z j ∈ maxTo E E.length by rw [← hZ]; exact zed_mem Z j hj) fun e => hij ?_
      rcases Nat.lt_trichotomy i j with h | h | h
      · have := zed_lt_of_sorted hsort h hj; omega
      · exact h
      · have := zed_lt_of_sorted hsort h hi; omega
    have HLT := Lib.hid hlt
    have HS := Lib.hid hsort
    have HAP := Lib.hid hapart
    have HZ := Lib.hid hZ
    have hZ3 := hZr.later hb3
    have hG3 := hG2.later hb3
    clear hM hlt hsort hapart hZ hv cG0 cG1
    go_wp2_with fail
    go_loopg [32] Z.length (fun gk i wr => ∃ k : Nat, k ≤ Z.length ∧ gk = Z.length - k ∧ i = .int .i64 k ∧ Below w3.heap.size w3 wr)
    case atStart => exact ⟨0, Nat.zero_le _, rfl, rfl, Below.refl _ _⟩
    case round =>
      obtain ⟨k, hk, rfl, rfl, hbr⟩ := hrel
      obtain ⟨wo, hwo⟩ : ∃ wo : World, wo = wr := ⟨_, rfl⟩
      subst hwo
      have hGr := hG3.later hbr
      have cG0 : wo.cell? ⟨w.heap.size, 0, none⟩ = some (.int .i64 V) := hGr.cell 0
      have cG1 : wo.cell? ⟨w.heap.size, 1, none⟩ = some (.slice A E.length c) := hGr.cell 1
      have hBr := bthen hB3 hbr
      have hZr1 := hZ3.later hbr
      by_cases hlt : k < Z.length
      · obtain ⟨ad, hA, _, hc⟩ := hZr1.z_at hlt
        subst hA
        have h1 := HLT.out k hlt
        obtain ⟨a, ha⟩ : ∃ a, a = zed Z k := ⟨_, rfl⟩
        rw [← ha] at hc h1
        have HA := Lib.hid ha
        clear ha
        have hprev : k = 0 ∨ ∃ j p : Nat, k = j + 1 ∧ wo.cell? (ad.add j) = some (.int .i64 (p : Int)) ∧ p < a := by
          rcases k with _ | j
          · exact .inl rfl
          · obtain ⟨ad2, e2, _, hc2⟩ := hZr1.z_at (show j < Z.length by omega)
            obtain rfl : ad = ad2 := by injection e2
            exact .inr ⟨j, _, rfl, hc2, by rw [HA.out]; exact zed_lt_of_sorted HS.out (by omega) hlt⟩
        have HP := Lib.hid hprev
        clear hprev
        go_upto_region 9 with fail
        go_cut [32, 58] from 32 to 94 (fun i x wx => i = .int .i64 k ∧ x = .bool false ∧ wo = wx)
        case first =>
          rcases HP.out with rfl | ⟨j, p, rfl, hc2, hpa⟩
          · clear HP HA
            go_wp2_with fail
            go_meet
            exact ⟨rfl, by simp; omega, rfl⟩
          · clear HP HA
            have b1 : (0 : Int) ≤ j := by omega
            have b2 : (j : Int) < Z.length := by omega
            go_wp2_with fail
            go_meet
            exact ⟨rfl, by simp; omega, rfl⟩
        case rest =>
          obtain ⟨rfl, rfl, rfl⟩ := hcut
          clear HP
          go_wp2_with fail
          go_loopg [61] Z.length (fun gj j wr => ∃ m : Nat, m ≤ Z.length ∧ gj = Z.length - m ∧ j = .int .i64 m ∧ Below wo.heap.size wo wr)
          case atStart => exact ⟨0, Nat.zero_le _, rfl, rfl, Below.refl _ _⟩
          case round =>
            obtain ⟨m, hm, rfl, rfl, hbi⟩ := hrel
            by_cases hlt2 : m < Z.length
            · have hZr2 := hZr1.later hbi
              obtain ⟨ad2, e2, _, hc2⟩ := hZr2.z_at hlt2
              obtain rfl : ad = ad2 := by injection e2
              have h2 := HLT.out m hlt2
              have h3 := HAP.out k m hlt hlt2
              rw [← HA.out] at h3
              have hc1 := Tab_cell hbi cG1
              have hEr := (hE.later hBr).later hbi
              obtain ⟨ae, hA, _, hce⟩ := hEr.e_at h1
              obtain ⟨ae2, hA2, _, hce2⟩ := hEr.e_at h2
              obtain rfl : ae = ae2 := by rw [hA] at hA2; injection hA2
              subst hA
              obtain ⟨b, hbz⟩ : ∃ b, b = zed Z m := ⟨_, rfl⟩
              rw [← hbz] at hc2 h2 h3 hce2
              generalize ed E a = x at hce h3
              generalize ed E b = y at hce2 h3
              clear hbz hA2
              have a1 : (0 : Int) ≤ a := by omega
              have a2 : (a : Int) < E.length := by omega
              have a3 : (0 : Int) ≤ b := by omega
              have a4 : (b : Int) < E.length := by omega
              by_cases hkm : k = m
              · have hne : ((k : Int) != (m : Int)) = false := by simp [hkm]
                clear hkm h3
                go_wp2_with fail
                go_quiet (exact pure_quiet (within_any x y))
                go_wp2_with fail
                go_roundg (Z.length - (m + 1))
                case measure => omega
                case rel => exact ⟨m + 1, by omega, rfl, by go_num, below_drewN hbi _⟩
              · have hne : ((k : Int) != (m : Int)) = true := by rw [nat_bne]; simpa using hkm
                have hf := h3 hkm
                clear hkm h3
                go_wp2_with fail
                go_quiet (exact pure_quiet (within_any x y))
                go_wp2_with fail
                go_roundg (Z.length - (m + 1))
                case measure => omega
                case rel => exact ⟨m + 1, by omega, rfl, by go_num, below_drewN hbi _⟩
            · go_wp2_with fail
              go_roundg (Z.length - (k + 1))
              case measure => omega
              case rel => exact ⟨k + 1, by omega, rfl, by go_num, bthen hbr hbi⟩
      · have HC : Hid (∀ i, i < E.length → ∃ a, a ∈ Z ∧ subB (ed E i) (ed E a) = true) := fun i hi => by
          rw [HZ.out]
          exact max_covers _ i hi (Nat.le_refl _)
        go_wp2_with fail
        go_loopg [98] E.length (fun gk i wr => ∃ k : Nat, k ≤ E.length ∧ gk = E.length - k ∧ i = .int .i64 k ∧ Below wo.heap.size wo wr)
        case atStart => exact ⟨0, Nat.zero_le _, rfl, rfl, Below.refl _ _⟩
        case round =>
          obtain ⟨q, hq, rfl, rfl, hbi⟩ := hrel
          obtain ⟨wi, hwi⟩ : ∃ wi : World, wi = wr := ⟨_, rfl⟩
          subst hwi
          have hBi := bthen hBr hbi
          have hEi := hE.later hBi
          have cI1 := Tab_cell hbi cG1
          have hZi := hZr1.later hbi
          by_cases hlt3 : q < E.length
          · obtain ⟨ae, hA, _, hce⟩ := hEi.e_at hlt3
            subst hA
            have hcov := HC.out q hlt3
            generalize ed E q = x at hce hcov
            have HCV := Lib.hid hcov
            clear hcov
            go_wp2_with fail
            go_loopg [11, 104] Z.length (fun gj bv j wr => ∃ (m : Nat) (b : Bool), m ≤ Z.length ∧ gj = Z.length - m ∧ j = .int .i64 m ∧ bv = .bool b ∧ Hid (b = (Z.take m).any fun a => subB x (ed E a)) ∧ wi = wr)
            case atStart => exact ⟨0, false, Nat.zero_le _, rfl, rfl, rfl, rfl, rfl⟩
            case round =>
              obtain ⟨m, b, hm, rfl, rfl, rfl, hbv, rfl⟩ := hrel
              by_cases hlt4 : m < Z.length
              · obtain ⟨ad2, e2, _, hc2⟩ := hZi.z_at hlt4
                have h2 := HLT.out m hlt4
                have hs := take_snoc Z m hlt4
                rw [zed_eq Z m hlt4] at hs
                obtain ⟨ae2, hA2, _, hce2⟩ := hEi.e_at h2
                obtain rfl : ae = ae2 := by injection hA2
                subst e2
                have hst : b = (Z.take m).any (fun a => subB x (ed E a)) → (b || subB x (ed E (zed Z m))) = (Z.take (m + 1)).any fun a => subB x (ed E a) := fun h => by
                  rw [hs, any_snoc, ← h]
                obtain ⟨a, ha⟩ : ∃ a, a = zed Z m := ⟨_, rfl⟩
                rw [← ha] at hc2 h2 hce2 hst
                generalize ed E a = y at hce2 hst
                have HST := Lib.hid hst
                clear hst hs ha hA2
                have a3 : (0 : Int) ≤ a := by omega
                have a4 : (a : Int) < E.length := by omega
                cases b
                all_goals
                  go_wp2_with (go_at_call 21; refine (within_any x y _).mono ?_; rintro e w' ⟨rfl, rfl⟩)
                  go_roundg (Z.length - (m + 1))
                  case measure => omega
                  case rel => exact ⟨m + 1, _, by omega, rfl, by go_num, rfl, by have := HST.out hbv.out; exact this, rfl⟩
              · have ht : b = true := by
                  have := hbv.out
                  rw [List.take_of_length_le (by omega)] at this
                  rw [this, List.any_eq_true]
                  exact HCV.out
                subst ht
                clear hbv
                go_wp2_with fail
                go_roundg (E.length - (q + 1))
                case measure => omega
                case rel => exact ⟨q + 1, by omega, rfl, by go_num, hbi⟩
          · go_wp2_with (go_at_call 11; refine (awake_any _ (hT.later hBi)).mono ?_; rintro e w4 ⟨rfl, hb4⟩)
            go_ret
            exact ⟨rfl, bthen hBi hb4⟩
end Go.Proofs.YtaongngoacbodaaDoor
