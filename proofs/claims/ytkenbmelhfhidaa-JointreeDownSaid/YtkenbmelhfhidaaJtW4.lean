/- The contracts of osierref16.IsTree and reached. -/
import Derived.Test.YtkenbmelhfhidaaJtW1
import Derived.Test.YtkenbmelhfhidaaJtLaw5
import Derived.Deep.RegionWith
import Derived.Deep.DrawnRows
namespace Go.Proofs.Ytkenbmelhfhidaa
open Go.RowKit

attribute [local go_sem ↓] uz_and uz_or uz_andNot uz_and_one uz_shr uz_shl_one uz_shl uz_sub uz_sub_one uz_add uz_beq_zero uz_bne_zero uz_beq uz_bne uz_beq_one

/-- n truth values, told by a function. -/
def bls (n : Nat) (b : Nat → Bool) : List Value := (List.range n).map fun i => .bool (b i)
theorem bls_length (n : Nat) (b : Nat → Bool) : (bls n b).length = n := by simp [bls]
theorem bls_at (n : Nat) (b : Nat → Bool) (k : Nat) (h : k < n) : (bls n b)[k]? = some (.bool (b k)) := by simp [bls, h]
theorem bls_set (n : Nat) (b : Nat → Bool) (k : Nat) (x : Bool) : (bls n b).set k (.bool x) = bls n (updT b k x) := by
  unfold bls
  apply List.ext_getElem?
  intro i
  rw [List.getElem?_set, List.getElem?_map, List.getElem?_map]
  by_cases h : k = i
  · subst h
    by_cases h2 : k < n <;> simp [h2, updT]
  · rw [if_neg h]
    by_cases h2 : i < n <;> simp [h2, updT, Ne.symm h]

theorem zeros_bls (n : Nat) : zeros (.bool false) n = bls n fun _ => false := by
  unfold zeros bls
  apply List.ext_getElem?
  intro i
  by_cases h : i < n <;> simp [h]
theorem Try.info_bool : (Try.prog.info? 4).map (fun i => (i.zero, i.size, i.bytes)) = some (some (.bool false), 1, 1) := by kernel_rfl
theorem mk_bool (n : Nat) (h : n ≤ 35184372087808) (w : World) : (Instr.makeSlice 129 (.int .i64 (n : Int)) (.int .i64 (n : Int))).run Try.prog w = .ok (.slice (some ⟨w.heap.size, 0, none⟩) n n) (w.alloc (.cells (bls n fun _ => false).toArray 4)) := by
  rw [← zeros_bls, ← madeCells_zeros]
  exact run_make_row' 129 4 (.bool false) 1 Try.underlying129 Try.info_bool rfl .i64 .i64 n (by omega) (by omega) w

set_option maxHeartbeats 2000000 in
set_option maxRecDepth 100000 in
theorem reached_any (A : Option Addr) (P : List Int) (c : Nat) (w : World) (hl : P.length ≤ 35184372087808) (hP : Rd w w.heap.size A (is P)) (rng : ∀ i, i < P.length → -1 ≤ pz P i ∧ pz P i < P.length) :
    Calls Try.prog 81 #[.slice A P.length c] w fun e w' => ∃ m : Nat, e = .returned (.int .i64 m) ∧ Hid (m = P.length ↔ ∀ i : Nat, i < P.length → up (pz P) P.length i = -1) ∧ Below w.heap.size w w' := by
  have hmk := mk_bool P.length hl
  go_enter Try.func81, Try.ntmps81
  go_wp2_with fail
  have hR0 : Row (w.alloc (.cells (bls P.length fun _ => false).toArray 4)) w.heap.size 4 (bls P.length fun _ => false) := Row.new _ _ _
  have hb0 := below_alloc w (.cells (bls P.length fun _ => false).toArray 4)
  generalize hg : w.heap.size = g at hR0 hb0 hP ⊢
  generalize w.alloc _ = W0 at hR0 hb0 ⊢
  have hP0 := hP.below hb0
  have HRNG := Lib.hid rng
  clear hmk rng hP
  go_loopg [4, 5, 11, 15] (P.length) (fun gk cn _ r _ wr => ∃ (k m : Nat) (b : Nat → Bool), k ≤ P.length ∧ gk = P.length - k ∧ r = .int .i64 k ∧ cn = .int .i64 m ∧ m ≤ P.length ∧ Hid (m = cntB b P.length) ∧ Row wr g 4 (bls P.length b) ∧ Hid (GR P.length (pz P) k b) ∧ Below g W0 wr)
  case atStart => exact ⟨0, 0, fun _ => false, Nat.zero_le _, rfl, rfl, rfl, Nat.zero_le _, Lib.hid (cntB_none (fun _ => rfl) _).symm, hR0, Lib.hid (GR.start _ _), Below.refl _ _⟩
  case round =>
    obtain ⟨k, m, b, hk, rfl, rfl, rfl, hm, HM, hR, HG, hb⟩ := hrel
    by_cases hlt : k < P.length
    · go_wp2_with fail
      go_loopg [4, 5, 15] (P.length) (fun gk cn _ j wi => ∃ (i m : Nat) (b : Nat → Bool), i ≤ P.length ∧ gk = P.length - i ∧ j = .int .i64 i ∧ cn = .int .i64 m ∧ m ≤ P.length ∧ Hid (m = cntB b P.length) ∧ Row wi g 4 (bls P.length b) ∧ Hid (GRM P.length (pz P) k i b) ∧ Below g W0 wi)
      case atStart => exact ⟨0, m, b, Nat.zero_le _, rfl, rfl, rfl, hm, HM, hR, Lib.hid HG.out.mid, hb⟩
      case round =>
        obtain ⟨i, m, b, hi, rfl, rfl, rfl, hm, HM, hR, HG, hb⟩ := hrel
        by_cases hli : i < P.length
        · obtain ⟨ad, hA, hbl, hc⟩ := (hP0.below hb).p_at hli
          subst hA
          have b1 : (0 : Int) ≤ i := by omega
          have b2 : (i : Int) < P.length := by omega
          have r1 : World.cell? _ ⟨g, i, none⟩ = some (.bool (b i)) := (hR.cell i).trans (bls_at _ _ _ hli)
          have r2 := hR.frozen i
          have hr := HRNG.out i hli
          have HSK := Lib.hid (HG.out.skip HRNG.out hli)
          have HCO := Lib.hid (HG.out.come HRNG.out hli)
          have HCN := Lib.hid (cntB_updT (b := b) hli)
          cases hbi : b i
          · rw [hbi] at r1
            have HBI := Lib.hid hbi
            by_cases hp : pz P i = -1
            · have hpb : (pz P i == -1) = true := by simp [hp]
              have HC2 := Lib.hid (HCO.out (.inl hp))
              generalize pz P i = x at hc hpb
              clear hp hr hbi
              have hm1 : m + 1 ≤ P.length := by have h1 := cntB_le (updT b i true) P.length; have h2 := HCN.out HBI.out; have h3 := HM.out; omega
              have HM2 : Hid (m + 1 = cntB (updT b i true) P.length) := Lib.hid (by rw [HCN.out HBI.out, HM.out])
              go_wp2_with fail
              go_roundg (P.length - (i + 1))
              case measure => omega
              case rel =>
                have h2 := hR.set_ i (.bool true)
                rw [bls_set] at h2
                exact ⟨i + 1, m + 1, _, by omega, rfl, by go_num, by go_num, hm1, HM2, h2, HC2, hb.setCell (Nat.le_refl _) _⟩
            · have hpb : (pz P i == -1) = false := by simp [hp]
              obtain ⟨q, hq⟩ := Int.eq_ofNat_of_zero_le (show 0 ≤ pz P i by omega)
              have hql : q < P.length := by omega
              have r3 : World.cell? _ ⟨g, q, none⟩ = some (.bool (b q)) := (hR.cell q).trans (bls_at _ _ _ hql)
              rw [hq] at hc hpb
              have q1 : (0 : Int) ≤ q := by omega
              have q2 : (q : Int) < P.length := by omega
              cases hbq : b q
              · have HS2 := Lib.hid (HSK.out (.inr ⟨hp, by rw [hq]; exact hbq⟩))
                rw [hbq] at r3
                clear hp hr hbi hbq hq
                go_wp2_with fail
                go_roundg (P.length - (i + 1))
                case measure => omega
                case rel => exact ⟨i + 1, m, b, by omega, rfl, by go_num, rfl, hm, HM, hR, HS2, hb⟩
              · have HC2 := Lib.hid (HCO.out (.inr (by rw [hq]; exact hbq)))
                rw [hbq] at r3
                clear hp hr hbi hbq hq
                have hm1 : m + 1 ≤ P.length := by have h1 := cntB_le (updT b i true) P.length; have h2 := HCN.out HBI.out; have h3 := HM.out; omega
                have HM2 : Hid (m + 1 = cntB (updT b i true) P.length) := Lib.hid (by rw [HCN.out HBI.out, HM.out])
                go_wp2_with fail
                go_roundg (P.length - (i + 1))
                case measure => omega
                case rel =>
                  have h2 := hR.set_ i (.bool true)
                  rw [bls_set] at h2
                  exact ⟨i + 1, m + 1, _, by omega, rfl, by go_num, by go_num, hm1, HM2, h2, HC2, hb.setCell (Nat.le_refl _) _⟩
          · rw [hbi] at r1
            have HS2 := Lib.hid (HSK.out (.inl hbi))
            clear hbi hr
            go_wp2_with fail
            go_roundg (P.length - (i + 1))
            case measure => omega
            case rel => exact ⟨i + 1, m, b, by omega, rfl, by go_num, rfl, hm, HM, hR, HS2, hb⟩
        · obtain rfl : i = P.length := by omega
          have HE := Lib.hid HG.out.end_
          go_wp2_with fail
          go_roundg (P.length - (k + 1))
          case measure => omega
          case rel => exact ⟨k + 1, m, b, by omega, rfl, by go_num, rfl, hm, HM, hR, HE, hb⟩
    · obtain rfl : k = P.length := by omega
      have HE : Hid (m = P.length ↔ ∀ i : Nat, i < P.length → up (pz P) P.length i = -1) := Lib.hid (by rw [HM.out]; exact HG.out.all HRNG.out)
      go_wp2_with fail
      go_ret
      exact ⟨m, rfl, HE, hg ▸ (hb0.trans hb)⟩

set_option maxHeartbeats 2000000 in
set_option maxRecDepth 100000 in
theorem r16isTree_any (A : Option Addr) (P : List Int) (c : Nat) (w : World) (hl : P.length ≤ 35184372087808) (hP : Rd w w.heap.size A (is P)) :
    Calls Try.prog 31 #[.slice A P.length c] w fun e w' => e = .returned (.bool (treeB P)) ∧ Below w.heap.size w w' := by
  by_cases h7 : P.length ≤ 7
  · go_enter Try.func31, Try.ntmps31
    go_wp2_with fail
    go_loop [4, 5] (fun r j => ∃ k : Nat, k ≤ P.length ∧ j = .int .i64 k ∧ r = .int .i64 (cntB (fun i => pz P i == -1) k : Nat) ∧ Hid (∀ i, i < k → -1 ≤ pz P i ∧ pz P i < P.length)) (fun _ j => P.length - (intOf j).toNat)
    case atStart => exact ⟨0, Nat.zero_le _, rfl, rfl, Lib.hid (fun i hi => absurd hi (Nat.not_lt_zero i))⟩
    case round =>
      obtain ⟨k, hk, rfl, rfl, hok⟩ := hrel
      have hcl := cntB_le (fun i => pz P i == -1) k
      by_cases hlt : k < P.length
      · obtain ⟨ad, hA, _, hc⟩ := hP.p_at hlt
        subst hA
        have HT := Lib.hid (cntB_t (p := fun i => pz P i == -1) (k := k))
        have HF := Lib.hid (cntB_f (p := fun i => pz P i == -1) (k := k))
        have HX := Lib.hid (treeB_rng hlt)
        have HN : Hid (-1 ≤ pz P k → pz P k < P.length → ∀ i, i < k + 1 → -1 ≤ pz P i ∧ pz P i < P.length) := Lib.hid (fun h1 h2 i hi => by
          rcases Nat.lt_or_ge i k with c | c
          · exact hok.out i c
          · obtain rfl : i = k := by omega
            exact ⟨h1, h2⟩)
        obtain ⟨x, hx⟩ : ∃ x, pz P k = x := ⟨_, rfl⟩
        rw [hx] at hc HN HX
        generalize hr : cntB (fun i => pz P i == -1) k = r at hcl HT HF ⊢
        have HXX := Lib.hid hx
        clear hx hr
        by_cases h1 : x < -1
        · have hf := Lib.hid (HX.out (.inl h1))
          have d1 : decide (x < -1) = true := by simpa using h1
          go_wp2_with fail
          go_ret
          exact ⟨by first | rfl | (rw [hf.out]; rfl), Below.refl _ _⟩
        · have d1 : decide (x < -1) = false := by simpa using h1
          by_cases h2 : (P.length : Int) ≤ x
          · have hf := Lib.hid (HX.out (.inr h2))
            have d2 : decide ((P.length : Int) ≤ x) = true := by simpa using h2
            go_wp2_with fail
            go_ret
            exact ⟨by first | rfl | (rw [hf.out]; rfl), Below.refl _ _⟩
          · have d2 : decide ((P.length : Int) ≤ x) = false := by simpa using h2
            have HN2 := Lib.hid (HN.out (by omega) (by omega))
            cases hb : (x == -1)
            · have HF2 := Lib.hid (HF.out (by rw [HXX.out]; exact hb))
              go_wp2_with fail
              go_round
              case rel => exact ⟨k + 1, by omega, by go_num, by rw [HF2.out], HN2⟩
              case measure => simp [intOf]; omega
            · have HT2 := Lib.hid (HT.out (by rw [HXX.out]; exact hb))
              go_wp2_with fail
              go_round
              case rel => exact ⟨k + 1, by omega, by go_num, by rw [HT2.out]; go_num, HN2⟩
              case measure => simp [intOf]; omega
      · obtain rfl : k = P.length := by omega
        have HC : Hid (treeB P = (((List.range P.length).all fun (i : Nat) => up (pz P) P.length (i : Int) == -1) && (cntB (fun i => pz P i == -1) P.length == min 1 P.length))) := Lib.hid (by
          unfold treeB
          have h1 : ((List.range P.length).all fun i => rngB P.length (pz P i)) = true := by
            rw [List.all_eq_true]; intro i hi
            have := hok.out i (List.mem_range.1 hi)
            unfold rngB; simp [this.1, this.2]
          rw [decide_eq_true h7, h1]; simp)
        by_cases h0 : P.length = 0
        · have hP0 : P = [] := List.eq_nil_of_length_eq_zero h0
          subst hP0
          have hf : Hid (treeB [] = true) := Lib.hid (by decide)
          go_wp2_with fail
          go_ret
          exact ⟨by first | rfl | (rw [hf.out]; rfl), Below.refl _ _⟩
        · have h0b : ((P.length : Int) == 0) = false := by rw [beq_eq_false_iff_ne]; omega
          generalize hr : cntB (fun i => pz P i == -1) P.length = r at hcl HC ⊢
          by_cases h1 : r = 1
          · subst h1
            have HC2 : Hid (treeB P = ((List.range P.length).all fun (i : Nat) => up (pz P) P.length (i : Int) == -1)) := Lib.hid (by
              rw [HC.out, show min 1 P.length = 1 by omega]; simp)
            clear h0 hr
            go_wp2_with fail
            refine (reached_any A P c w hl hP hok.out).mono ?_
            rintro e w1 ⟨m, rfl, HM, hb⟩
            have HE : Hid (treeB P = ((m : Int) == (P.length : Int))) := Lib.hid (by
              rw [HC2.out, Bool.eq_iff_iff, List.all_eq_true, beq_iff_eq]
              constructor
              · intro h
                rw [ni, HM.out]
                intro i hi; simpa using h i (List.mem_range.2 hi)
              · intro h i hi
                rw [ni, HM.out] at h
                simpa using h i (List.mem_range.1 hi))
            go_wp2_with fail
            go_ret
            exact ⟨by rw [HE.out]; rfl, hb⟩
          · have h1b : ((r : Int) == 1) = false := by simp; omega
            have hf : Hid (treeB P = false) := Lib.hid (by
              rw [HC.out, show (r == min 1 P.length) = false by rw [beq_eq_false_iff_ne]; omega]; simp)
            clear h0 hr h1
            go_wp2_with fail
            go_ret
            exact ⟨by first | rfl | (rw [hf.out]; rfl), Below.refl _ _⟩
  · have hf := Lib.hid (treeB_long (P := P) (by omega))
    have hlt : 7 < P.length := by omega
    go_enter Try.func31, Try.ntmps31
    go_wp2
    go_ret
    exact ⟨by first | rfl | (rw [hf.out]; rfl), Below.refl _ _⟩
end Go.Proofs.Ytkenbmelhfhidaa
