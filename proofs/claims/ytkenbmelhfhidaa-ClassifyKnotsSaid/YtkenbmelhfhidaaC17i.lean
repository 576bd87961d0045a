/- The contracts of classify.CheckRest and osierref17.CheckRest. -/
import Derived.Test.YtkenbmelhfhidaaBG
import Derived.Test.YtkenbmelhfhidaaKnotLaw
namespace Go.Proofs.Ytkenbmelhfhidaa
open Go.RowKit
attribute [local go_sem ↓] uz_and uz_or uz_andNot uz_and_one uz_shr uz_shl_one uz_shl uz_sub uz_sub_one uz_add uz_beq_zero uz_bne_zero uz_beq uz_bne uz_beq_one

theorem rd_take {w : World} {B : Nat} {A : Option Addr} {R : List (BitVec 32)} (h : Rd w B A (us R)) (k : Nat) : Rd w B A (us (R.take k)) := by
  intro i hi
  have hi' : i < (us R).length := by simp [us] at hi ⊢; omega
  obtain ⟨ad, e, hb, hc⟩ := h i hi'
  exact ⟨ad, e, hb, by rw [hc]; simp [us]⟩
theorem take_any_ed {R : List (BitVec 32)} {k : Nat} (hk : k ≤ R.length) (p : BitVec 32 → Bool) : (R.take k).any p = true ↔ ∃ j, j < k ∧ p (ed R j) = true := by
  rw [List.any_eq_true]
  constructor
  · rintro ⟨x, hx, h⟩
    obtain ⟨j, hj, rfl⟩ := List.mem_take_iff_getElem.1 hx
    exact ⟨j, by omega, by rw [← ed_eq R j (by omega)]; exact h⟩
  · rintro ⟨j, hj, h⟩
    exact ⟨ed R j, List.mem_take_iff_getElem.2 ⟨j, by omega, ed_eq R j (by omega)⟩, h⟩
theorem any_ed {R : List (BitVec 32)} (p : BitVec 32 → Bool) : R.any p = true ↔ ∃ j, j < R.length ∧ p (ed R j) = true := by
  have := take_any_ed (R := R) (Nat.le_refl _) p
  rwa [List.take_length] at this
def bothSub (s t : BitVec 32) : Bool := (s &&& ~~~t == 0#32) || (t &&& ~~~s == 0#32)
def onTo (x s e : BitVec 32) : Bool := e &&& x == s
def inTo (x e s : BitVec 32) : Bool := (e &&& x) &&& ~~~s == 0#32

/-! ### The closures -/
theorem fn1_any (t s : BitVec 32) (b : Nat) (w : World) (h : w.cell? ⟨b, 0, none⟩ = some (.int .u32 (uz s))) :
    Calls Try.prog 103 #[.int .u32 (uz t), .pointer (some ⟨b, 0, none⟩)] w fun e w' => e = .returned (.bool (bothSub s t)) ∧ Below w.heap.size w w' := by
  go_enter Try.func103, Try.ntmps103
  cases h1 : (s &&& ~~~t == 0#32)
  · go_wp2_with fail
    go_ret
    exact ⟨by unfold bothSub; rw [h1]; rfl, Below.refl _ _⟩
  · go_wp2_with fail
    go_ret
    exact ⟨by unfold bothSub; rw [h1]; rfl, Below.refl _ _⟩
theorem fn2_any (e x s : BitVec 32) (b b2 : Nat) (w : World) (h : w.cell? ⟨b, 0, none⟩ = some (.int .u32 (uz x))) (h2 : w.cell? ⟨b2, 0, none⟩ = some (.int .u32 (uz s))) :
    Calls Try.prog 104 #[.int .u32 (uz e), .pointer (some ⟨b, 0, none⟩), .pointer (some ⟨b2, 0, none⟩)] w fun r w' => r = .returned (.bool (onTo x s e)) ∧ Below w.heap.size w w' := by
  go_enter Try.func104, Try.ntmps104
  go_wp2_with fail
  go_ret
  exact ⟨rfl, Below.refl _ _⟩
theorem fn3_any (s x e : BitVec 32) (b b2 : Nat) (w : World) (h : w.cell? ⟨b, 0, none⟩ = some (.int .u32 (uz e))) (h2 : w.cell? ⟨b2, 0, none⟩ = some (.int .u32 (uz x))) :
    Calls Try.prog 105 #[.int .u32 (uz s), .pointer (some ⟨b, 0, none⟩), .pointer (some ⟨b2, 0, none⟩)] w fun r w' => r = .returned (.bool (inTo x e s)) ∧ Below w.heap.size w w' := by
  go_enter Try.func105, Try.ntmps105
  go_wp2_with fail
  go_ret
  exact ⟨rfl, Below.refl _ _⟩
theorem enter_fn1 (args : Array Value) (w : World) : (callFunc 103 args).run Try.prog w = .ok (.enter 103 args) w := by go_simp
theorem enter_fn2 (args : Array Value) (w : World) : (callFunc 104 args).run Try.prog w = .ok (.enter 104 args) w := by go_simp
theorem enter_fn3 (args : Array Value) (w : World) : (callFunc 105 args).run Try.prog w = .ok (.enter 105 args) w := by go_simp

/-- What CheckRest answers. -/
def CRIs (V : Int) (E R : List (BitVec 32)) (ok : Bool) : Prop := ok = true ↔ validB V E = true ∧ KnotP E R
theorem cri_no {V : Int} {E R : List (BitVec 32)} (h : ¬ (validB V E = true ∧ KnotP E R)) : CRIs V E R false := ⟨fun z => (by cases z), fun z => absurd z h⟩
theorem cri_yes {V : Int} {E R : List (BitVec 32)} (h : validB V E = true ∧ KnotP E R) : CRIs V E R true := ⟨fun _ => h, fun _ => rfl⟩
def firstTo (R : List (BitVec 32)) (k : Nat) : Prop := ∀ i, i < k → ed R i ≠ 0#32 ∧ ∀ j, j < i → bothSub (ed R i) (ed R j) = false
theorem firstTo_knot {E R : List (BitVec 32)} (h : KnotP E R) : firstTo R R.length := fun i hi => ⟨h.nz i hi, fun j hj => by
  have h1 := h.anti i j hi (by omega) (by omega)
  have h2 := h.anti j i (by omega) hi (by omega)
  unfold bothSub; unfold subB at h1 h2; rw [h1, h2]; rfl⟩
theorem firstTo_anti {R : List (BitVec 32)} (h : firstTo R R.length) : ∀ i j, i < R.length → j < R.length → i ≠ j → subB (ed R i) (ed R j) = false := fun i j hi hj hij => by
  unfold subB
  rcases Nat.lt_or_ge j i with c | c
  · have := (h i hi).2 j c
    unfold bothSub at this
    rw [Bool.or_eq_false_iff] at this
    exact this.1
  · have := (h j hj).2 i (by omega)
    unfold bothSub at this
    rw [Bool.or_eq_false_iff] at this
    exact this.2

set_option maxHeartbeats 40000000 in
set_option maxRecDepth 100000 in
theorem checkRest_any (V : Int) (A : Option Addr) (E : List (BitVec 32)) (c : Nat) (A' : Option Addr) (R : List (BitVec 32)) (c' : Nat) (w : World) (hl : E.length ≤ 35184372087808) (hE : Rd w w.heap.size A (us E)) (hl' : R.length ≤ 35184372087808) (hcap : R.length ≤ c') (hR : Rd w w.heap.size A' (us R)) :
    Calls Try.prog 77 #[.agg #[.int .i64 V, .slice A E.length c], .slice A' R.length c'] w fun e w' => ∃ ok : Bool, e = .returned (.bool ok) ∧ Hid (CRIs V E R ok) ∧ Below w.heap.size w w' := by
  go_enter Try.func77, Try.ntmps77
  go_wp2_with fail
  have hb0 := below_alloc w (.cells #[.int .i64 V, .slice A E.length c] 24)
  have hG0 : Row (w.alloc (.cells #[.int .i64 V, .slice A E.length c] 24)) w.heap.size 24 [.int .i64 V, .slice A E.length c] := Row.new _ _ _
  generalize w.alloc _ = w0 at hb0 hG0 ⊢
  refine (valid_any V A E c _ hl (hE.later hb0)).mono ?_
  rintro e w1 ⟨rfl, hb1⟩
  have hB1 := bthen hb0 hb1
  have hG1 := hG0.later hb1
  have hE1 := hE.later hB1
  have hR1 := hR.later hB1
  clear hb0 hb1 hG0 hE hR
  cases hv : validB V E
  · have HC : Hid (CRIs V E R false) := Lib.hid (cri_no fun h => by rw [hv] at h; cases h.1)
    clear hv
    go_wp2_with fail
    refine bodyPost_ret (v := .bool false) (by simp [results, Try.results77, go_sem]) rfl ?_
    exact ⟨false, rfl, HC, hB1⟩
  · by_cases h0 : R.length = 0
    · have e0 : ((R.length : Int) == 0) = true := by simp [h0]
      have HC : Hid (CRIs V E R false) := Lib.hid (cri_no fun h => by have := h.2.some; omega)
      clear h0 hv
      go_wp2_with fail
      refine bodyPost_ret (v := .bool false) (by simp [results, Try.results77, go_sem]) rfl ?_
      exact ⟨false, rfl, HC, hB1⟩
    · have e0 : ((R.length : Int) == 0) = false := by rw [beq_eq_false_iff_ne]; omega
      have HV := Lib.hid hv
      have HF : Hid (¬ KnotP E R → CRIs V E R false) := Lib.hid fun h => cri_no fun z => h z.2
      have HT : Hid (KnotP E R → CRIs V E R true) := Lib.hid fun h => cri_yes ⟨HV.out, h⟩
      have HP : Hid (0 < R.length) := Lib.hid (by omega)
      clear h0 hv
      go_upto_region 4 with fail
      have hb2 := below_alloc w1 (.cells #[.int .u32 0] 39)
      have hX2 : Row (w1.alloc (.cells #[.int .u32 0] 39)) w1.heap.size 39 [.int .u32 (uz 0#32)] := Row.new _ _ _
      generalize hbe : w1.heap.size = b at hX2 ⊢
      generalize w1.alloc _ = w2 at hb2 hX2 ⊢
      go_wp2_with fail
      go_loopw [6, 23] (fun tw i wr => ∃ k : Nat, k ≤ R.length ∧ i = .int .i64 k ∧ tw = .int .u32 (uz (twTo R k)) ∧ Row wr b 39 [.int .u32 (uz (orTo R k))] ∧ Hid (firstTo R k) ∧ Below w1.heap.size w1 wr) (fun _ i _ => R.length - (intOf i).toNat)
      case atStart => exact ⟨0, Nat.zero_le _, rfl, rfl, hX2, Lib.hid fun i hi => absurd hi (Nat.not_lt_zero _), hb2⟩
      case round =>
        obtain ⟨k, hk, rfl, rfl, hX, hno, hb⟩ := hrel
        by_cases hlt : k < R.length
        · obtain ⟨ad, hA, _, hc⟩ := (hR1.later hb).e_at hlt
          subst hA
          have b1 : (0 : Int) ≤ k := by omega
          have b2 : (k : Int) < R.length := by omega
          have b3 : (k : Int) ≤ c' := by omega
          have hadd : ad.add 0 = ad := add_none ad
          go_upto_region 7 with fail
          have hb3 := below_alloc wr (.cells #[.int .u32 (uz (ed R k))] 39)
          have hS3 : Row (wr.alloc (.cells #[.int .u32 (uz (ed R k))] 39)) wr.heap.size 39 [.int .u32 (uz (ed R k))] := Row.new _ _ _
          have hB3 := bthen hb hb3
          have hX3 := hX.later hb3
          have hRk : Rd (wr.alloc (.cells #[.int .u32 (uz (ed R k))] 39)) (wr.alloc (.cells #[.int .u32 (uz (ed R k))] 39)).heap.size (some ad) (us (R.take k)) := rd_take (hR1.later hB3) k
          have HAN : Hid ((R.take k).any (bothSub (ed R k)) = true → ¬ KnotP E R) := Lib.hid fun h hK => by
            obtain ⟨j, hj, e⟩ := (take_any_ed hk _).1 h
            have := (firstTo_knot hK k hlt).2 j hj
            rw [e] at this; cases this
          have HAY : Hid ((R.take k).any (bothSub (ed R k)) = false → ed R k ≠ 0#32 → firstTo R (k + 1)) := Lib.hid fun h hne i hi => by
            rcases Nat.lt_or_ge i k with d | d
            · exact hno.out i d
            · obtain rfl : i = k := by omega
              refine ⟨hne, fun j hj => ?_⟩
              cases e : bothSub (ed R i) (ed R j)
              · rfl
              · rw [(take_any_ed hk _).2 ⟨j, hj, e⟩] at h; cases h
          have HNZ : Hid (ed R k = 0#32 → ¬ KnotP E R) := Lib.hid fun h hK => hK.nz k hlt h
          have HO : Hid (orTo R (k + 1) = orTo R k ||| ed R k) := Lib.hid rfl
          have HW : Hid (twTo R (k + 1) = twTo R k ||| (orTo R k &&& ed R k)) := Lib.hid rfl
          generalize hqe : wr.heap.size = q at hS3 ⊢
          generalize wr.alloc _ = w3 at hb3 hS3 hB3 hX3 hRk ⊢
          have hbq : b ≠ q := by have := hX.lt; omega
          generalize orTo R k = x at hX3 HO HW ⊢
          generalize twTo R k = tw at HW ⊢
          clear hX hno hc hb hb3
          have hlk : (R.take k).length = k := by rw [List.length_take]; omega
          have HCO : Hid (Calls Try.prog 102 #[.slice (some ad) k c', .func (.func 103) #[] #[.pointer (some ⟨q, 0, none⟩)]] w3 fun e w' => e = .returned (.bool ((R.take k).any (bothSub (ed R k)))) ∧ Below w3.heap.size w3 w') := Lib.hid (by
            have := containsFn_any 103 #[.pointer (some ⟨q, 0, none⟩)] (bothSub (ed R k)) (some ad) (R.take k) c' w3 (by omega) hRk enter_fn1 (fun t wz hz => fn1_any t (ed R k) q wz ((hS3.later hz).cell 0))
            rwa [hlk] at this)
          have s0 : w3.cell? ⟨q, 0, none⟩ = some (.int .u32 (uz (ed R k))) := hS3.cell 0
          clear hRk hlk
          cases hz : (ed R k == 0#32)
          · have HNE : Hid (ed R k ≠ 0#32) := Lib.hid (by simpa using hz)
            clear HNZ
            generalize (R.take k).any (bothSub (ed R k)) = an at HAN HAY HCO
            generalize ed R k = z at hS3 HAY HO HW s0 hz HNE
            go_wp2_with fail
            refine HCO.out.mono ?_
            rintro e w4 ⟨rfl, hb4⟩
            have hB4 := bthen hB3 hb4
            have hX4 := hX3.later hb4
            have hS4 := hS3.later hb4
            clear s0 hX3 hS3 hB3 hb4 HCO
            cases an
            · have HN := Lib.hid (HAY.out rfl HNE.out)
              have s0 : w4.cell? ⟨q, 0, none⟩ = some (.int .u32 (uz z)) := hS4.cell 0
              have x0 : w4.cell? ⟨b, 0, none⟩ = some (.int .u32 (uz x)) := hX4.cell 0
              have xf := hX4.frozen 0
              have xl := hX4.lt
              go_wp2_with fail
              go_roundw
              case measure => simp [intOf]; omega
              case rel => exact ⟨k + 1, by omega, by go_num, by rw [HW.out], by rw [HO.out]; exact hX4.set_ 0 _, HN, hB4.setCell (by simp; omega) _⟩
            · have HC := Lib.hid (HF.out (HAN.out rfl))
              clear HAN HAY
              go_wp2_with fail
              refine bodyPost_ret (v := .bool false) (by simp [results, Try.results77, go_sem]) rfl ?_
              exact ⟨false, rfl, HC, hB1.trans (hB4.mono hB1.size)⟩
          · have HC := Lib.hid (HF.out (HNZ.out (by simpa using hz)))
            clear HAN HAY HNZ HCO
            generalize ed R k = z at hS3 HO HW s0 hz
            go_wp2_with fail
            refine bodyPost_ret (v := .bool false) (by simp [results, Try.results77, go_sem]) rfl ?_
            exact ⟨false, rfl, HC, hB1.trans (hB3.mono hB1.size)⟩
        · obtain rfl : k = R.length := by omega
          have HFI := Lib.hid hno.out
          have hEr := hE1.later hb
          have hRr := hR1.later hb
          have x0 : wr.cell? ⟨b, 0, none⟩ = some (.int .u32 (uz (orTo R R.length))) := hX.cell 0
          have HTN : Hid (twTo R R.length ≠ orTo R R.length → ¬ KnotP E R) := Lib.hid fun h hK => h ((tw_iff R _).2 hK.twice)
          have HFIN : Hid (twTo R R.length = orTo R R.length → (∀ i, i < R.length → E.any (onTo (orTo R R.length) (ed R i)) = true) → (∀ j, j < E.length → R.any (inTo (orTo R R.length) (ed E j)) = true) → KnotP E R) := Lib.hid fun h1 h2 h3 =>
            ⟨HP.out, fun i hi => (HFI.out i hi).1, firstTo_anti HFI.out, (tw_iff R _).1 h1, fun i hi => by
              obtain ⟨j, hj, e⟩ := (any_ed _).1 (h2 i hi)
              exact ⟨j, hj, by unfold onTo at e; simpa using e⟩, fun j hj => by
              obtain ⟨i, hi, e⟩ := (any_ed _).1 (h3 j hj)
              exact ⟨i, hi, by unfold inTo at e; unfold subB; exact e⟩⟩
          have HEN : Hid (∀ i, i < R.length → E.any (onTo (orTo R R.length) (ed R i)) = false → ¬ KnotP E R) := Lib.hid fun i hi h hK => by
            obtain ⟨j, hj, e⟩ := hK.edge i hi
            rw [(any_ed _).2 ⟨j, hj, by unfold onTo; rw [e]; simp⟩] at h
            cases h
          have HPN : Hid (∀ j, j < E.length → R.any (inTo (orTo R R.length) (ed E j)) = false → ¬ KnotP E R) := Lib.hid fun j hj h hK => by
            obtain ⟨i, hi, e⟩ := hK.part j hj
            rw [(any_ed _).2 ⟨i, hi, by unfold inTo; unfold subB at e; exact e⟩] at h
            cases h
          generalize orTo R R.length = x at hX x0 HTN HFIN HEN HPN
          generalize twTo R R.length = tw at HTN HFIN ⊢
          clear hno HFI hX2 hb2 w2
          cases htw : (tw != x)
          · have HFE := Lib.hid (HFIN.out (by simpa using htw))
            clear HTN HFIN
            go_wp2_with fail
            clear x0 htw
            go_loopw [51] (fun i wr => ∃ m : Nat, m ≤ R.length ∧ i = .int .i64 m ∧ Row wr b 39 [.int .u32 (uz x)] ∧ Hid (∀ i, i < m → E.any (onTo x (ed R i)) = true) ∧ Below w1.heap.size w1 wr) (fun i _ => R.length - (intOf i).toNat)
            case atStart => exact ⟨0, Nat.zero_le _, rfl, hX, Lib.hid fun i hi => absurd hi (Nat.not_lt_zero _), hb⟩
            clear hX hb hEr hRr
            case round =>
              obtain ⟨m, hm, rfl, hX, hno, hb⟩ := hrel
              by_cases hlt : m < R.length
              · obtain ⟨ad, hA, _, hc⟩ := (hR1.later hb).e_at hlt
                subst hA
                have b1 : (0 : Int) ≤ m := by omega
                have b2 : (m : Int) < R.length := by omega
                go_upto_region 17 with fail
                have hb3 := below_alloc wr (.cells #[.int .u32 (uz (ed R m))] 39)
                have hS3 : Row (wr.alloc (.cells #[.int .u32 (uz (ed R m))] 39)) wr.heap.size 39 [.int .u32 (uz (ed R m))] := Row.new _ _ _
                have hB3 := bthen hb hb3
                have hX3 := hX.later hb3
                have hE3 := hE1.later hB3
                have hG3 := hG1.later hB3
                have HN := Lib.hid (HEN.out m hlt)
                have HY : Hid (E.any (onTo x (ed R m)) = true → ∀ i, i < m + 1 → E.any (onTo x (ed R i)) = true) := Lib.hid fun h i hi => by
                  rcases Nat.lt_or_ge i m with d | d
                  · exact hno.out i d
                  · obtain rfl : i = m := by omega
                    exact h
                generalize hqe : wr.heap.size = q at hS3 ⊢
                generalize wr.alloc _ = w3 at hb3 hS3 hB3 hX3 hE3 hG3 ⊢
                have HCO : Hid (Calls Try.prog 102 #[.slice A E.length c, .func (.func 104) #[] #[.pointer (some ⟨b, 0, none⟩), .pointer (some ⟨q, 0, none⟩)]] w3 fun e w' => e = .returned (.bool (E.any (onTo x (ed R m)))) ∧ Below w3.heap.size w3 w') := Lib.hid
                  (containsFn_any 104 #[.pointer (some ⟨b, 0, none⟩), .pointer (some ⟨q, 0, none⟩)] (onTo x (ed R m)) A E c w3 hl hE3 enter_fn2 (fun t wz hz => fn2_any t x (ed R m) b q wz ((hX3.later hz).cell 0) ((hS3.later hz).cell 0)))
                have d1 : w3.cell? ⟨w.heap.size, 1, none⟩ = some (.slice A E.length c) := hG3.cell 1
                generalize E.any (onTo x (ed R m)) = an at HN HY HCO
                generalize ed R m = z at hS3
                clear hX hno hc hb hb3 hS3 hE3 hG3 hqe
                go_wp2_with fail
                refine HCO.out.mono ?_
                rintro e w4 ⟨rfl, hb4⟩
                have hB4 := bthen hB3 hb4
                have hX4 := hX3.later hb4
                clear d1 HCO hX3 hB3 hb4
                cases an
                · have HC := Lib.hid (HF.out (HN.out rfl))
                  clear HY HN
                  go_wp2_with fail
                  refine bodyPost_ret (v := .bool false) (by simp [results, Try.results77, go_sem]) rfl ?_
                  exact ⟨false, rfl, HC, hB1.trans (hB4.mono hB1.size)⟩
                · have HZ := Lib.hid (HY.out rfl)
                  clear HY HN
                  go_wp2_with fail
                  go_roundw
                  case measure => simp [intOf]; omega
                  case rel => exact ⟨m + 1, by omega, by go_num, hX4, HZ, hB4⟩
              · obtain rfl : m = R.length := by omega
                have HFP := Lib.hid (HFE.out hno.out)
                have hGr := hG1.later hb
                have d1 : wr.cell? ⟨w.heap.size, 1, none⟩ = some (.slice A E.length c) := hGr.cell 1
                clear hGr hno HFE HEN
                go_wp2_with fail
                clear d1
                go_loopw [64] (fun i wr => ∃ m : Nat, m ≤ E.length ∧ i = .int .i64 m ∧ Row wr b 39 [.int .u32 (uz x)] ∧ Hid (∀ i, i < m → R.any (inTo x (ed E i)) = true) ∧ Below w1.heap.size w1 wr) (fun i _ => E.length - (intOf i).toNat)
                case atStart => exact ⟨0, Nat.zero_le _, rfl, hX, Lib.hid fun i hi => absurd hi (Nat.not_lt_zero _), hb⟩
                clear hX hb
                case round =>
                  obtain ⟨m, hm, rfl, hX, hno, hb⟩ := hrel
                  by_cases hlt : m < E.length
                  · obtain ⟨ad, hA, _, hc⟩ := (hE1.later hb).e_at hlt
                    subst hA
                    have b1 : (0 : Int) ≤ m := by omega
                    have b2 : (m : Int) < E.length := by omega
                    go_upto_region 23 with fail
                    have hb3 := below_alloc wr (.cells #[.int .u32 (uz (ed E m))] 39)
                    have hS3 : Row (wr.alloc (.cells #[.int .u32 (uz (ed E m))] 39)) wr.heap.size 39 [.int .u32 (uz (ed E m))] := Row.new _ _ _
                    have hB3 := bthen hb hb3
                    have hX3 := hX.later hb3
                    have hR3 := hR1.later hB3
                    have HN := Lib.hid (HPN.out m hlt)
                    have HY : Hid (R.any (inTo x (ed E m)) = true → ∀ i, i < m + 1 → R.any (inTo x (ed E i)) = true) := Lib.hid fun h i hi => by
                      rcases Nat.lt_or_ge i m with d | d
                      · exact hno.out i d
                      · obtain rfl : i = m := by omega
                        exact h
                    generalize hqe : wr.heap.size = q at hS3 ⊢
                    generalize wr.alloc _ = w3 at hb3 hS3 hB3 hX3 hR3 ⊢
                    have HCO : Hid (Calls Try.prog 102 #[.slice A' R.length c', .func (.func 105) #[] #[.pointer (some ⟨q, 0, none⟩), .pointer (some ⟨b, 0, none⟩)]] w3 fun e w' => e = .returned (.bool (R.any (inTo x (ed E m)))) ∧ Below w3.heap.size w3 w') := Lib.hid
                      (containsFn_any 105 #[.pointer (some ⟨q, 0, none⟩), .pointer (some ⟨b, 0, none⟩)] (inTo x (ed E m)) A' R c' w3 hl' hR3 enter_fn3 (fun t wz hz => fn3_any t x (ed E m) q b wz ((hS3.later hz).cell 0) ((hX3.later hz).cell 0)))
                    generalize R.any (inTo x (ed E m)) = an at HN HY HCO
                    generalize ed E m = z at hS3
                    clear hX hno hc hb hb3 hS3 hR3 hqe
                    go_wp2_with fail
                    refine HCO.out.mono ?_
                    rintro e w4 ⟨rfl, hb4⟩
                    have hB4 := bthen hB3 hb4
                    have hX4 := hX3.later hb4
                    clear HCO hX3 hB3 hb4
                    cases an
                    · have HC := Lib.hid (HF.out (HN.out rfl))
                      clear HY HN
                      go_wp2_with fail
                      refine bodyPost_ret (v := .bool false) (by simp [results, Try.results77, go_sem]) rfl ?_
                      exact ⟨false, rfl, HC, hB1.trans (hB4.mono hB1.size)⟩
                    · have HZ := Lib.hid (HY.out rfl)
                      clear HY HN
                      go_wp2_with fail
                      go_roundw
                      case measure => simp [intOf]; omega
                      case rel => exact ⟨m + 1, by omega, by go_num, hX4, HZ, hB4⟩
                  · obtain rfl : m = E.length := by omega
                    have HC := Lib.hid (HT.out (HFP.out hno.out))
                    go_wp2_with fail
                    refine bodyPost_ret (v := .bool true) (by simp [results, Try.results77, go_sem]) rfl ?_
                    exact ⟨true, rfl, HC, hB1.trans (hb.mono hB1.size)⟩
          · have HC := Lib.hid (HF.out (HTN.out (by simpa using htw)))
            clear HTN HFIN HEN HPN
            go_wp2_with fail
            refine bodyPost_ret (v := .bool false) (by simp [results, Try.results77, go_sem]) rfl ?_
            exact ⟨false, rfl, HC, hB1.trans (hb.mono hB1.size)⟩
end Go.Proofs.Ytkenbmelhfhidaa
