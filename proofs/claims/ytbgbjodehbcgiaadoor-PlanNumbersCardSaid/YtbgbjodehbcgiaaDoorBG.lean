/- Several texts in one: C17a C17b C17c C17d C17e C17f ClassLaw2 C17g. -/
import Derived.Test.YtbgbjodehbcgiaaDoorBF
import Derived.Test.YtbgbjodehbcgiaaDoorBD
import Derived.Deep.RegionHeld3
import Derived.Test.YtbgbjodehbcgiaaDoorBE
/- The contracts of classify.good, covered, Extended and of osierref17.Good, Covered, Extended; of slices.Clone over words. -/
namespace Go.Proofs.YtbgbjodehbcgiaaDoor
open Go.RowKit

attribute [local go_sem ↓] uz_and uz_or uz_andNot uz_and_one uz_shr uz_shl_one uz_shl uz_sub uz_sub_one uz_add uz_beq_zero uz_bne_zero uz_beq uz_bne uz_beq_one

def goodB (V : Int) (E : List (BitVec 32)) : Bool := validB V E && decide (E.length ≤ 6)
theorem goodB_iff {V : Int} {E : List (BitVec 32)} : goodB V E = true ↔ validB V E = true ∧ E.length ≤ 6 := by simp [goodB]
theorem goodB_valid {V : Int} {E : List (BitVec 32)} (h : validB V E = true) : goodB V E = decide (E.length ≤ 6) := by simp [goodB, h]
theorem goodB_not {V : Int} {E : List (BitVec 32)} (h : validB V E = false) : goodB V E = false := by simp [goodB, h]
theorem good_any (V : Int) (A : Option Addr) (E : List (BitVec 32)) (c : Nat) (w : World) (hl : E.length ≤ 35184372087808) (hE : Rd w w.heap.size A (us E)) :
    Calls Tryd.prog 63 #[.agg #[.int .i64 V, .slice A E.length c]] w fun e w' => e = .returned (.bool (goodB V E)) ∧ Below w.heap.size w w' := by
  go_enter Tryd.func63, Tryd.ntmps63
  go_wp2_with fail
  have hb0 := below_alloc w (.cells #[.int .i64 V, .slice A E.length c] 28)
  have hG0 : Row (w.alloc (.cells #[.int .i64 V, .slice A E.length c] 28)) w.heap.size 28 [.int .i64 V, .slice A E.length c] := Row.new _ _ _
  generalize w.alloc _ = w0 at hb0 hG0 ⊢
  refine (valid_any V A E c _ hl (hE.later hb0)).mono ?_
  rintro e w1 ⟨rfl, hb1⟩
  have hG1 := hG0.later hb1
  have d1 : w1.cell? ⟨w.heap.size, 1, none⟩ = some (.slice A E.length c) := hG1.cell 1
  have hB1 := bthen hb0 hb1
  cases hv : validB V E
  · have hg := goodB_not hv
    go_wp2_with fail
    go_ret
    exact ⟨by rw [hg]; rfl, hB1⟩
  · have hg := goodB_valid hv
    by_cases h6 : E.length ≤ 6
    · have e1 : decide ((E.length : Int) ≤ 6) = true := decide_eq_true (by omega)
      have hg2 : goodB V E = true := by rw [hg]; exact decide_eq_true h6
      clear h6 hg hv
      go_wp2_with fail
      go_ret
      exact ⟨by rw [hg2]; rfl, hB1⟩
    · have e1 : decide ((E.length : Int) ≤ 6) = false := decide_eq_false (by omega)
      have hg2 : goodB V E = false := by rw [hg]; exact decide_eq_false h6
      clear h6 hg hv
      go_wp2_with fail
      go_ret
      exact ⟨by rw [hg2]; rfl, hB1⟩
theorem r17good_any (V : Int) (A : Option Addr) (E : List (BitVec 32)) (c : Nat) (w : World) (hl : E.length ≤ 35184372087808) (hE : Rd w w.heap.size A (us E)) :
    Calls Tryd.prog 22 #[.agg #[.int .i64 V, .slice A E.length c]] w fun e w' => e = .returned (.bool (goodB V E)) ∧ Below w.heap.size w w' := by
  go_enter Tryd.func22, Tryd.ntmps22
  go_wp2_with fail
  have hb0 := below_alloc w (.cells #[.int .i64 V, .slice A E.length c] 28)
  have hG0 : Row (w.alloc (.cells #[.int .i64 V, .slice A E.length c] 28)) w.heap.size 28 [.int .i64 V, .slice A E.length c] := Row.new _ _ _
  generalize w.alloc _ = w0 at hb0 hG0 ⊢
  refine (r14valid_any V A E c _ hl (hE.later hb0)).mono ?_
  rintro e w1 ⟨rfl, hb1⟩
  have hG1 := hG0.later hb1
  have d1 : w1.cell? ⟨w.heap.size, 1, none⟩ = some (.slice A E.length c) := hG1.cell 1
  have hB1 := bthen hb0 hb1
  cases hv : validB V E
  · have hg := goodB_not hv
    go_wp2_with fail
    go_ret
    exact ⟨by rw [hg]; rfl, hB1⟩
  · have hg := goodB_valid hv
    by_cases h6 : E.length ≤ 6
    · have e1 : decide ((E.length : Int) ≤ 6) = true := decide_eq_true (by omega)
      have hg2 : goodB V E = true := by rw [hg]; exact decide_eq_true h6
      clear h6 hg hv
      go_wp2_with fail
      go_ret
      exact ⟨by rw [hg2]; rfl, hB1⟩
    · have e1 : decide ((E.length : Int) ≤ 6) = false := decide_eq_false (by omega)
      have hg2 : goodB V E = false := by rw [hg]; exact decide_eq_false h6
      clear h6 hg hv
      go_wp2_with fail
      go_ret
      exact ⟨by rw [hg2]; rfl, hB1⟩
theorem orTo_succ (E : List (BitVec 32)) (k : Nat) : orTo E (k + 1) = orTo E k ||| ed E k := rfl
theorem covered_any (V : Int) (A : Option Addr) (E : List (BitVec 32)) (c : Nat) (w : World) (hl : E.length ≤ 35184372087808) (hE : Rd w w.heap.size A (us E)) :
    Calls Tryd.prog 50 #[.agg #[.int .i64 V, .slice A E.length c]] w fun e w' => e = .returned (.int .u32 (uz (covB E))) ∧ Below w.heap.size w w' := by
  go_enter Tryd.func50, Tryd.ntmps50
  go_upto_region 1 with fail
  have hb0 := below_alloc w (.cells #[.int .i64 V, .slice A E.length c] 28)
  have hG0 : Row (w.alloc (.cells #[.int .i64 V, .slice A E.length c] 28)) w.heap.size 28 [.int .i64 V, .slice A E.length c] := Row.new _ _ _
  generalize w.alloc _ = w0 at hb0 hG0 ⊢
  have d1 : w0.cell? ⟨w.heap.size, 1, none⟩ = some (.slice A E.length c) := hG0.cell 1
  have hE0 := hE.later hb0
  go_wp2_with fail
  go_loop [3, 9] (fun s i => ∃ k : Nat, k ≤ E.length ∧ i = .int .i64 k ∧ s = .int .u32 (uz (orTo E k))) (fun _ i => E.length - (intOf i).toNat)
  case atStart => exact ⟨0, Nat.zero_le _, rfl, rfl⟩
  case round =>
    obtain ⟨k, hk, rfl, rfl⟩ := hrel
    by_cases hlt : k < E.length
    · obtain ⟨ad, hA, _, hc⟩ := hE0.e_at hlt
      subst hA
      have HN := Lib.hid (orTo_succ E k)
      generalize ed E k = x at hc HN
      generalize orTo E k = s at HN ⊢
      go_wp2_with fail
      go_round
      case rel => exact ⟨k + 1, by omega, by go_num, by rw [HN.out]⟩
      case measure => simp [intOf]; omega
    · obtain rfl : k = E.length := by omega
      have HC : Hid (orTo E E.length = covB E) := rfl
      rw [HC.out]
      go_wp2_with fail
      go_ret
      exact ⟨rfl, hb0⟩
theorem r17covered_any (V : Int) (A : Option Addr) (E : List (BitVec 32)) (c : Nat) (w : World) (hl : E.length ≤ 35184372087808) (hE : Rd w w.heap.size A (us E)) :
    Calls Tryd.prog 54 #[.agg #[.int .i64 V, .slice A E.length c]] w fun e w' => e = .returned (.int .u32 (uz (covB E))) ∧ Below w.heap.size w w' := by
  go_enter Tryd.func54, Tryd.ntmps54
  go_upto_region 1 with fail
  have hb0 := below_alloc w (.cells #[.int .i64 V, .slice A E.length c] 28)
  have hG0 : Row (w.alloc (.cells #[.int .i64 V, .slice A E.length c] 28)) w.heap.size 28 [.int .i64 V, .slice A E.length c] := Row.new _ _ _
  generalize w.alloc _ = w0 at hb0 hG0 ⊢
  have d1 : w0.cell? ⟨w.heap.size, 1, none⟩ = some (.slice A E.length c) := hG0.cell 1
  have hE0 := hE.later hb0
  go_wp2_with fail
  go_loop [3, 4] (fun s i => ∃ k : Nat, k ≤ E.length ∧ i = .int .i64 k ∧ s = .int .u32 (uz (orTo E k))) (fun _ i => E.length - (intOf i).toNat)
  case atStart => exact ⟨0, Nat.zero_le _, rfl, rfl⟩
  case round =>
    obtain ⟨k, hk, rfl, rfl⟩ := hrel
    by_cases hlt : k < E.length
    · obtain ⟨ad, hA, _, hc⟩ := hE0.e_at hlt
      subst hA
      have HN := Lib.hid (orTo_succ E k)
      have a1 : (0 : Int) ≤ k := by omega
      have a2 : (k : Int) < E.length := by omega
      generalize ed E k = x at hc HN
      generalize orTo E k = s at HN ⊢
      have HAD := Lib.hid (add_less s x)
      go_wp2_with (go_at_call 57; refine (r14less_any _ _ _).mono ?_; rintro e w' ⟨rfl, rfl⟩)
      go_round
      case rel => exact ⟨k + 1, by omega, by go_num, by rw [HN.out, ← HAD.out]⟩
      case measure => simp [intOf]; omega
    · obtain rfl : k = E.length := by omega
      have HC : Hid (orTo E E.length = covB E) := rfl
      rw [HC.out]
      go_wp2_with fail
      go_ret
      exact ⟨rfl, hb0⟩
set_option maxRecDepth 100000 in
theorem clone_u32_any (ad : Addr) (E : List (BitVec 32)) (c : Nat) (w : World) (hl : E.length ≤ 100) (hE : Rd w w.heap.size (some ad) (us E)) :
    Calls Tryd.prog 64 #[.slice (some ad) E.length c] w fun e w' => ∃ v, e = .returned v ∧ w'.ownsRow w.heap.size 29 1 v E.length (us E) ∧ Below w.heap.size w w' := by
  obtain ⟨i, hi, hz, hs1, hb1⟩ := info_parts Tryd.info_u32
  have hnil : (binOp .eql 26 (.slice (some ad) E.length c) (.slice none 0 0)).run Tryd.prog w = .ok (.bool false) w := by
    simp [binOp, run_equal_slice_nil w 26 29 (some ad) E.length c Tryd.underlying26]
  go_enter Tryd.func64, Tryd.ntmps64
  go_wp2_with ((with_reducible show wpList _ _ _ _ _ _); refine wpList_append_own_at _ rfl (.tmp 5) (.tmp 6) 26 rfl w.heap.size 29 i (.int .u32 0) 1 4 Tryd.underlying26 hi hz hs1 hb1 rfl (by decide) _ 0 [] rfl (empty_own w 29) ad E.length c (us E) rfl (by simp) ((hE.below (below_alloc w _)).news) (us_one E) (by unfold maxLen; omega) (by omega) (by simp) ?_)
  intro v' w' hown hg _ _
  go_wp2_with fail
  go_ret
  exact ⟨_, rfl, hown, ((Below.refl _ _).alloc (Nat.le_refl _) _).grown hg (by simp) fun k hk => by
    simp only [Value.ownBlock, Option.some.injEq] at hk
    omega⟩

/-- What Extended answers. -/
def ExtIs (V : Int) (E : List (BitVec 32)) (head : BitVec 32) (V' : Int) (F : List (BitVec 32)) (code : Int) : Prop :=
  (goodB V E = false ∧ V' = 0 ∧ F = [] ∧ code = 140) ∨ (goodB V E = true ∧ V' = V ∧ F = extE E head ∧ code = 0)
theorem extIs_uniq {V : Int} {E : List (BitVec 32)} {s : BitVec 32} {V1 V2 : Int} {F G : List (BitVec 32)} {a b : Int} (h : ExtIs V E s V1 F a) (k : ExtIs V E s V2 G b) : V1 = V2 ∧ F = G ∧ a = b := by
  rcases h with ⟨h1, rfl, rfl, rfl⟩ | ⟨h1, rfl, rfl, rfl⟩ <;> rcases k with ⟨k1, rfl, rfl, rfl⟩ | ⟨k1, rfl, rfl, rfl⟩ <;> simp_all
theorem extIs_len {V : Int} {E : List (BitVec 32)} {s : BitVec 32} {V1 : Int} {F : List (BitVec 32)} {a : Int} (h : ExtIs V E s V1 F a) : F.length ≤ 7 := by
  rcases h with ⟨h1, rfl, rfl, rfl⟩ | ⟨h1, rfl, rfl, rfl⟩
  · exact Nat.zero_le _
  · rw [extE_length]; have := (goodB_iff.1 h1).2; omega

set_option maxHeartbeats 4000000 in
set_option maxRecDepth 100000 in
theorem extended_any (V : Int) (ad : Addr) (E : List (BitVec 32)) (c : Nat) (head : BitVec 32) (w : World) (hl : E.length ≤ 35184372087808) (hE : Rd w w.heap.size (some ad) (us E)) :
    Calls Tryd.prog 21 #[.agg #[.int .i64 V, .slice (some ad) E.length c], .int .u32 (uz head)] w fun e w' =>
      ∃ (V' : Int) (v : Value) (F : List (BitVec 32)) (code : Int), e = .returned (.tuple #[.agg #[.int .i64 V', v], .int .i64 code]) ∧ w'.ownsRow w.heap.size 29 1 v F.length (us F) ∧ Hid (ExtIs V E head V' F code) ∧ Below w.heap.size w w' := by
  go_enter Tryd.func21, Tryd.ntmps21
  go_wp2_with fail
  have hb0 : Below w.heap.size w ((w.alloc (.cells #[.int .i64 V, .slice (some ad) E.length c] 28)).alloc (.cells #[.int .i64 0, .slice none 0 0] 28)) := (below_alloc w _).alloc (by simp) _
  have hR0 : Row ((w.alloc (.cells #[.int .i64 V, .slice (some ad) E.length c] 28)).alloc (.cells #[.int .i64 0, .slice none 0 0] 28)) w.heap.size 28 [.int .i64 V, .slice (some ad) E.length c] := (Row.new w _ _).alloc _
  have hR1 : Row ((w.alloc (.cells #[.int .i64 V, .slice (some ad) E.length c] 28)).alloc (.cells #[.int .i64 0, .slice none 0 0] 28)) (w.heap.size + 1) 28 [.int .i64 0, .slice none 0 0] := Row.new_ (by simp)
  generalize (w.alloc (.cells #[.int .i64 V, .slice (some ad) E.length c] 28)).alloc _ = w0 at hb0 hR0 hR1 ⊢
  refine (good_any V (some ad) E c _ hl (hE.later hb0)).mono ?_
  rintro e w1 ⟨rfl, hb⟩
  have hb1 := bthen hb0 hb
  have hR0' := hR0.later hb
  have hR1' := hR1.later hb
  have c0 : w1.cell? ⟨w.heap.size, 0, none⟩ = some (.int .i64 V) := hR0'.cell 0
  have c1 : w1.cell? ⟨w.heap.size, 1, none⟩ = some (.slice (some ad) E.length c) := hR0'.cell 1
  have d0 : w1.cell? ⟨w.heap.size + 1, 0, none⟩ = some (.int .i64 0) := hR1'.cell 0
  have d1 : w1.cell? ⟨w.heap.size + 1, 1, none⟩ = some (.slice none 0 0) := hR1'.cell 1
  have df0 := hR1'.frozen 0
  have df1 := hR1'.frozen 1
  have hlt0 : w.heap.size < w1.heap.size := hR0'.lt
  have hlt1 : w.heap.size + 1 < w1.heap.size := hR1'.lt
  cases hv : goodB V E
  · go_wp2
    refine bodyPost_ret (v := .tuple #[.agg #[.int .i64 0, .slice none 0 0], .int .i64 140]) (by simp [results, Tryd.results21, go_sem, d0, d1]) rfl ?_
    exact ⟨0, _, [], 140, rfl, World.ownsRow_nil _ _ _ _, .inl ⟨hv, rfl, rfl, rfl⟩, (hb1.setCell (by simp) _).setCell (by simp) _⟩
  · have hE1 := hE.later hb1
    have h6 : E.length ≤ 6 := (goodB_iff.1 hv).2
    have HV := Lib.hid hv
    clear hv
    go_wp2_with fail
    refine (clone_u32_any ad E c w1 (by omega) hE1).mono ?_
    rintro e w2 ⟨v, rfl, hown, hb2⟩
    have hB2 := bthen hb1 hb2
    have hR2 := hR0'.later hb2
    have hS2 := hR1'.later hb2
    have hE2 := hE1.later hb2
    have hown2 := own_less hown hb1.size
    have HX : Hid (ExtIs V E head V (E ++ [head &&& covB E]) 0) := Lib.hid (.inr ⟨HV.out, rfl, rfl, rfl⟩)
    have hl2 := hR2.lt
    have hl3 := hS2.lt
    clear c0 c1 d0 d1 df0 df1 hown hb hb0 hR0 hR1 hR0' hR1' hb2
    have HCO := Lib.hid (fun w' hw => covered_any V (some ad) E c w' hl hw)
    generalize covB E = cv at HX HCO
    go_upto_region 4 with fail
    have c0 : w2.cell? ⟨w.heap.size, 0, none⟩ = some (.int .i64 V) := hR2.cell 0
    have c1 : w2.cell? ⟨w.heap.size, 1, none⟩ = some (.slice (some ad) E.length c) := hR2.cell 1
    go_region_law (first | (refine step_u32 (wr := w4) rfl (.tmp 16) (.tmp 21) rfl w.heap.size v E (head &&& cv) (by first | rfl | go_simp) (by first | rfl | go_simp) hO4 (by omega) hB4.size ?_; intro g' c' w' hown' hgr' hb5 hg'; have hR5 := hR4.grown hgr' (own_row_ne hO4 hR4 (by decide)); have hS5 := hS4.grown hgr' (own_row_ne hO4 hS4 (by decide)); have k0 : w'.cell? ⟨w.heap.size, 0, none⟩ = some (.int .i64 V) := hR5.cell 0; have k1 : w'.cell? ⟨w.heap.size, 1, none⟩ = some (.slice (some ad) E.length c) := hR5.cell 1; have k2 : w'.cell? ⟨w.heap.size + 1, 0, none⟩ = some (.int .i64 0) := hS5.cell 0; have k3 : w'.cell? ⟨w.heap.size + 1, 1, none⟩ = some (.slice none 0 0) := hS5.cell 1; have k4 := hS5.frozen 0; have k5 := hS5.frozen 1; have k6 := hS5.lt) | (go_simp; go_at_call 50; refine (HCO.out w2.drew (show Rd w2.drew w2.drew.heap.size (some ad) (us E) from hE2)).mono ?_; rintro e w4 ⟨rfl, hb4⟩; replace hb4 := below_undrew hb4; have hR4 := hR2.later hb4; have hS4 := hS2.later hb4; have hO4 := own_below hown2 hb4; have hB4 := bthen hB2 hb4; have m0 : w4.cell? ⟨w.heap.size, 0, none⟩ = some (.int .i64 V) := hR4.cell 0; have m1 := hR4.lt))
    all_goals
      have hB6 := hB4.trans hb5
      clear c0 c1 m0
      go_wp2_with fail
      have z1 : ((w'.setCell ⟨w.heap.size + 1, 0, none⟩ (.int .i64 V)).setCell ⟨w.heap.size + 1, 1, none⟩ (.slice (some ⟨g', 0, none⟩) (E.length + 1) c')).cell? ⟨w.heap.size + 1, 0, none⟩ = some (.int .i64 V) := ((hS5.set_ 0 (.int .i64 V)).set_ 1 (.slice (some ⟨g', 0, none⟩) (E.length + 1) c')).cell 0
      have z2 : ((w'.setCell ⟨w.heap.size + 1, 0, none⟩ (.int .i64 V)).setCell ⟨w.heap.size + 1, 1, none⟩ (.slice (some ⟨g', 0, none⟩) (E.length + 1) c')).cell? ⟨w.heap.size + 1, 1, none⟩ = some (.slice (some ⟨g', 0, none⟩) (E.length + 1) c') := ((hS5.set_ 0 (.int .i64 V)).set_ 1 (.slice (some ⟨g', 0, none⟩) (E.length + 1) c')).cell 1
      refine bodyPost_ret (v := .tuple #[.agg #[.int .i64 V, .slice (some ⟨g', 0, none⟩) (E.length + 1) c'], .int .i64 0]) (by simp [results, Tryd.results21, go_sem, z1, z2]) rfl ?_
      refine ⟨V, _, _, 0, rfl, ?_, HX, (hB6.setCell (by simp) _).setCell (by simp) _⟩
      rw [List.length_append, List.length_singleton]
      refine own_grown hown' (grown_set (grown_set (grown_below (Below.refl w'.heap.size w') (some (w.heap.size + 1))) 0 _) 1 _) fun x hx => ?_
      injection hx with hx
      subst hx
      exact own_row_ne hown' hS5 (by decide)

set_option maxHeartbeats 4000000 in
set_option maxRecDepth 100000 in
theorem r17extended_any (V : Int) (A : Option Addr) (E : List (BitVec 32)) (c : Nat) (head : BitVec 32) (w : World) (hl : E.length ≤ 35184372087808) (hE : Rd w w.heap.size A (us E)) :
    Calls Tryd.prog 99 #[.agg #[.int .i64 V, .slice A E.length c], .int .u32 (uz head)] w fun e w' =>
      ∃ (V' : Int) (v : Value) (F : List (BitVec 32)) (code : Int), e = .returned (.tuple #[.agg #[.int .i64 V', v], .int .i64 code]) ∧ w'.ownsRow w.heap.size 29 1 v F.length (us F) ∧ Hid (ExtIs V E head V' F code) ∧ Below w.heap.size w w' := by
  go_enter Tryd.func99, Tryd.ntmps99
  go_wp2_with fail
  have hb0 : Below w.heap.size w ((w.alloc (.cells #[.int .i64 V, .slice A E.length c] 28)).alloc (.cells #[.int .i64 0, .slice none 0 0] 28)) := (below_alloc w _).alloc (by simp) _
  have hR0 : Row ((w.alloc (.cells #[.int .i64 V, .slice A E.length c] 28)).alloc (.cells #[.int .i64 0, .slice none 0 0] 28)) w.heap.size 28 [.int .i64 V, .slice A E.length c] := (Row.new w _ _).alloc _
  have hR1 : Row ((w.alloc (.cells #[.int .i64 V, .slice A E.length c] 28)).alloc (.cells #[.int .i64 0, .slice none 0 0] 28)) (w.heap.size + 1) 28 [.int .i64 0, .slice none 0 0] := Row.new_ (by simp)
  generalize (w.alloc (.cells #[.int .i64 V, .slice A E.length c] 28)).alloc _ = w0 at hb0 hR0 hR1 ⊢
  refine (r17good_any V A E c _ hl (hE.later hb0)).mono ?_
  rintro e w1 ⟨rfl, hb⟩
  have hb1 := bthen hb0 hb
  have hR0' := hR0.later hb
  have hR1' := hR1.later hb
  have c0 : w1.cell? ⟨w.heap.size, 0, none⟩ = some (.int .i64 V) := hR0'.cell 0
  have c1 : w1.cell? ⟨w.heap.size, 1, none⟩ = some (.slice A E.length c) := hR0'.cell 1
  have d0 : w1.cell? ⟨w.heap.size + 1, 0, none⟩ = some (.int .i64 0) := hR1'.cell 0
  have d1 : w1.cell? ⟨w.heap.size + 1, 1, none⟩ = some (.slice none 0 0) := hR1'.cell 1
  have df0 := hR1'.frozen 0
  have df1 := hR1'.frozen 1
  have hlt0 : w.heap.size < w1.heap.size := hR0'.lt
  have hlt1 : w.heap.size + 1 < w1.heap.size := hR1'.lt
  cases hv : goodB V E
  · go_wp2
    refine bodyPost_ret (v := .tuple #[.agg #[.int .i64 0, .slice none 0 0], .int .i64 140]) (by simp [results, Tryd.results99, go_sem, d0, d1]) rfl ?_
    exact ⟨0, _, [], 140, rfl, World.ownsRow_nil _ _ _ _, .inl ⟨hv, rfl, rfl, rfl⟩, (hb1.setCell (by simp) _).setCell (by simp) _⟩
  · have hE1 := hE.later hb1
    have h6 : E.length ≤ 6 := (goodB_iff.1 hv).2
    have HV := Lib.hid hv
    clear hv
    go_wp2_with fail
    refine (copy_any V A E c w1 hl hE1).mono ?_
    rintro e w2 ⟨g, rfl, hg, hRg, hb2⟩
    have hB2 := bthen hb1 hb2
    have hR2 := hR0'.later hb2
    have hS2 := hR1'.later hb2
    have hE2 := hE1.later hb2
    have hwg : w.heap.size ≤ g := Nat.le_trans hb1.size hg
    have HX : Hid (ExtIs V E head V (E ++ [head &&& covB E]) 0) := Lib.hid (.inr ⟨HV.out, rfl, rfl, rfl⟩)
    clear c0 c1 d0 d1 df0 df1 hb hb0 hR0 hR1 hR0' hR1' hlt0 hlt1
    have HCO := Lib.hid (fun w' hw => r17covered_any V A E c w' hl hw)
    generalize covB E = cv at HX HCO
    go_upto_region 4 with fail
    have hb3 := below_alloc w2 (.cells #[.int .i64 V, .slice (some ⟨g, 0, none⟩) E.length E.length] 28)
    have hI3 : Row (w2.alloc (.cells #[.int .i64 V, .slice (some ⟨g, 0, none⟩) E.length E.length] 28)) w2.heap.size 28 [.int .i64 V, .slice (some ⟨g, 0, none⟩) E.length E.length] := Row.new _ _ _
    have hB3 := bthen hB2 hb3
    have hR3 := hR2.later hb3
    have hS3 := hS2.later hb3
    have hE3 := hE2.later hb3
    have hRg3 := hRg.later hb3
    have hl3 := hS2.lt
    have hqw : w.heap.size + 1 < w2.heap.size := hl3
    generalize w2.heap.size = q at hI3 hqw ⊢
    generalize w2.alloc _ = w3 at hI3 hB3 hR3 hS3 hE3 hRg3 ⊢
    have hO3 : w3.ownsRow w.heap.size 29 1 (.slice (some ⟨g, 0, none⟩) E.length E.length) E.length (us E) := by
      have h0 := hRg3.own (base := w.heap.size) hwg (by unfold maxLen; simp; omega)
      rwa [us_length] at h0
    have c0 : w3.cell? ⟨w.heap.size, 0, none⟩ = some (.int .i64 V) := hR3.cell 0
    have c1 : w3.cell? ⟨w.heap.size, 1, none⟩ = some (.slice A E.length c) := hR3.cell 1
    have c2 : w3.cell? ⟨q, 1, none⟩ = some (.slice (some ⟨g, 0, none⟩) E.length E.length) := hI3.cell 1
    have hq3 := hI3.lt
    have hBO := Lib.hid (fun x y w => both_any x y w)
    clear hb2 hb3 hRg hl3 hR2 hS2 hE2 hB2 hE1 hb1 hg
    go_region_law (first | (refine step_u32 (wr := w4) rfl (.tmp 14) (.tmp 19) rfl w.heap.size (.slice (some ⟨g, 0, none⟩) E.length E.length) E (head &&& cv) (by first | rfl | go_simp) (by first | rfl | go_simp) hO4 (by omega) hB4.size ?_; intro g' c' w' hown' hgr' hb5 hg'; have hR5 := hR4.grown hgr' (own_row_ne hO4 hR4 (by decide)); have hS5 := hS4.grown hgr' (own_row_ne hO4 hS4 (by decide)); have hI5 := hI4.grown hgr' (own_row_ne hO4 hI4 (by decide)); have k0 : w'.cell? ⟨q, 1, none⟩ = some (.slice (some ⟨g, 0, none⟩) E.length E.length) := hI5.cell 1; have k1 := hI5.frozen 1) | (go_simp; go_at_call 53; refine (hBO.out _ _ _).mono ?_; rintro e w' ⟨rfl, rfl⟩) | (go_simp; go_at_call 54; refine (HCO.out w3.drew (show Rd w3.drew w3.drew.heap.size A (us E) from hE3)).mono ?_; rintro e w4 ⟨rfl, hb4⟩; replace hb4 := below_undrew hb4; have hR4 := hR3.later hb4; have hS4 := hS3.later hb4; have hI4 := hI3.later hb4; have hO4 := own_below hO3 hb4; have hB4 := bthen hB3 hb4; have m0 : w4.cell? ⟨q, 1, none⟩ = some (.slice (some ⟨g, 0, none⟩) E.length E.length) := hI4.cell 1; have m1 := hI4.lt))
    all_goals
      have hB6 := (hB4.trans hb5).setCell (p := ⟨q, 1, none⟩) (by simp; omega) (.slice (some ⟨g', 0, none⟩) (E.length + 1) c')
      have hI6 := hI5.set_ 1 (.slice (some ⟨g', 0, none⟩) (E.length + 1) c')
      have hS6 := hS5.far (p := ⟨q, 1, none⟩) (by simp; omega) (.slice (some ⟨g', 0, none⟩) (E.length + 1) c')
      have hown6 := own_grown hown' (grown_set (grown_below (Below.refl w'.heap.size w') (some q)) 1 (.slice (some ⟨g', 0, none⟩) (E.length + 1) c')) fun x hx => by injection hx with hx; subst hx; exact own_row_ne hown' hI5 (by decide)
      clear c0 c1 c2 m0 k0 k1 hown' hb5 hgr' hI5 hS5 hR5
      generalize w'.setCell _ _ = w6 at hB6 hI6 hS6 hown6 ⊢
      have k0 : w6.cell? ⟨q, 0, none⟩ = some (.int .i64 V) := hI6.cell 0
      have k1 : w6.cell? ⟨q, 1, none⟩ = some (.slice (some ⟨g', 0, none⟩) (E.length + 1) c') := hI6.cell 1
      have k2 : w6.cell? ⟨w.heap.size + 1, 0, none⟩ = some (.int .i64 0) := hS6.cell 0
      have k3 : w6.cell? ⟨w.heap.size + 1, 1, none⟩ = some (.slice none 0 0) := hS6.cell 1
      have k4 := hS6.frozen 0
      have k5 := hS6.frozen 1
      have k6 := hS6.lt
      go_wp2_with fail
      have z1 : ((w6.setCell ⟨w.heap.size + 1, 0, none⟩ (.int .i64 V)).setCell ⟨w.heap.size + 1, 1, none⟩ (.slice (some ⟨g', 0, none⟩) (E.length + 1) c')).cell? ⟨w.heap.size + 1, 0, none⟩ = some (.int .i64 V) := ((hS6.set_ 0 (.int .i64 V)).set_ 1 (.slice (some ⟨g', 0, none⟩) (E.length + 1) c')).cell 0
      have z2 : ((w6.setCell ⟨w.heap.size + 1, 0, none⟩ (.int .i64 V)).setCell ⟨w.heap.size + 1, 1, none⟩ (.slice (some ⟨g', 0, none⟩) (E.length + 1) c')).cell? ⟨w.heap.size + 1, 1, none⟩ = some (.slice (some ⟨g', 0, none⟩) (E.length + 1) c') := ((hS6.set_ 0 (.int .i64 V)).set_ 1 (.slice (some ⟨g', 0, none⟩) (E.length + 1) c')).cell 1
      refine bodyPost_ret (v := .tuple #[.agg #[.int .i64 V, .slice (some ⟨g', 0, none⟩) (E.length + 1) c'], .int .i64 0]) (by simp [results, Tryd.results99, go_sem, z1, z2]) rfl ?_
      refine ⟨V, _, _, 0, rfl, ?_, HX, (hB6.setCell (by simp) _).setCell (by simp) _⟩
      rw [List.length_append, List.length_singleton]
      refine own_grown hown6 (grown_set (grown_set (grown_below (Below.refl w6.heap.size w6) (some (w.heap.size + 1))) 0 _) 1 _) fun x hx => ?_
      injection hx with hx
      subst hx
      exact own_row_ne hown6 hS6 (by decide)
end Go.Proofs.YtbgbjodehbcgiaaDoor

/- The contract of classify.where: the edges that have a vertex, as bits. -/
namespace Go.Proofs.YtbgbjodehbcgiaaDoor
open Go.RowKit
attribute [local go_sem ↓] uz_and uz_or uz_andNot uz_and_one uz_shr uz_shl

def wh (E : List (BitVec 32)) (v : Nat) : Nat → BitVec 32
  | 0 => 0#32
  | k + 1 => wh E v k ||| (((ed E k >>> v) &&& 1#32) <<< k)
theorem wh_bit (E : List (BitVec 32)) (v : Nat) : ∀ (k i : Nat), k ≤ 32 → (wh E v k).getLsbD i = (decide (i < k) && (ed E i).getLsbD v)
  | 0, i, _ => by simp [wh]
  | k + 1, i, h => by
    rw [wh, BitVec.getLsbD_or, wh_bit E v k i (by omega), BitVec.getLsbD_shiftLeft, BitVec.getLsbD_and, BitVec.getLsbD_ushiftRight]
    rcases Nat.lt_trichotomy i k with c | c | c
    · simp [c, show i < k + 1 by omega]
    · subst c
      simp [show i < 32 by omega]
    · have h1 : ¬ i < k := by omega
      have h2 : ¬ i < k + 1 := by omega
      have h3 : i - k ≠ 0 := by omega
      simp [h1, h2, h3]
theorem eq_zero_iff_bit (x : BitVec 32) : x = 0#32 ↔ ∀ i, x.getLsbD i = false := by
  constructor
  · rintro rfl i; simp
  · intro h; exact BitVec.eq_of_getLsbD_eq fun i _ => by simp [h i]
theorem mem_ed17 {E : List (BitVec 32)} {e : BitVec 32} (h : e ∈ E) : ∃ i, i < E.length ∧ ed E i = e := by
  obtain ⟨i, hi, rfl⟩ := List.getElem_of_mem h
  exact ⟨i, hi, (ed_eq E i hi).symm⟩
theorem ed_mem_ (E : List (BitVec 32)) (i : Nat) (h : i < E.length) : ed E i ∈ E := by rw [← ed_eq E i h]; exact List.getElem_mem _
theorem wh_and {E : List (BitVec 32)} (hn : E.length ≤ 32) (x y : Nat) : (wh E x E.length &&& wh E y E.length != 0#32) = bothX E x y := by
  rw [Bool.eq_iff_iff, bothX_iff, bne_iff_ne, ne_eq, eq_zero_iff_bit, Classical.not_forall]
  constructor
  · rintro ⟨i, hi⟩
    rw [BitVec.getLsbD_and, wh_bit _ _ _ _ hn, wh_bit _ _ _ _ hn] at hi
    simp only [Bool.not_eq_false, Bool.and_eq_true, decide_eq_true_eq] at hi
    exact ⟨ed E i, ed_mem_ E i hi.1.1, hi.1.2, hi.2.2⟩
  · rintro ⟨e, he, h1, h2⟩
    obtain ⟨i, hi, rfl⟩ := mem_ed17 he
    refine ⟨i, ?_⟩
    rw [BitVec.getLsbD_and, wh_bit _ _ _ _ hn, wh_bit _ _ _ _ hn]
    unfold hv at h1 h2
    simp [hi, h1, h2]
theorem wh_not {E : List (BitVec 32)} (hn : E.length ≤ 32) (x y : Nat) : (wh E x E.length &&& ~~~ wh E y E.length != 0#32) = onlyX E x y := by
  rw [Bool.eq_iff_iff, bne_iff_ne, ne_eq, eq_zero_iff_bit, Classical.not_forall]
  unfold onlyX
  simp only [List.any_eq_true, Bool.and_eq_true, Bool.not_eq_true']
  constructor
  · rintro ⟨i, hi⟩
    rw [BitVec.getLsbD_and, BitVec.getLsbD_not, wh_bit _ _ _ _ hn, wh_bit _ _ _ _ hn] at hi
    by_cases c : i < E.length
    · simp [c] at hi
      exact ⟨ed E i, ed_mem_ E i c, hi.1, hi.2.2⟩
    · simp [c] at hi
  · rintro ⟨e, he, h1, h2⟩
    obtain ⟨i, hi, rfl⟩ := mem_ed17 he
    refine ⟨i, ?_⟩
    rw [BitVec.getLsbD_and, BitVec.getLsbD_not, wh_bit _ _ _ _ hn, wh_bit _ _ _ _ hn]
    simp [hi, h1, h2]
    omega

/-- What Clash answers. -/
def ClashIs (V : Int) (E : List (BitVec 32)) (head : BitVec 32) (x y : Int) (ok : Bool) (code : Int) : Prop :=
  (goodB V E = false ∧ x = 0 ∧ y = 0 ∧ ok = false ∧ code = 140) ∨
  (goodB V E = true ∧ x = 0 ∧ y = 0 ∧ ok = false ∧ code = 0 ∧ ∀ a b : Nat, (a : Int) < V → (b : Int) < V → clashB E head a b = false) ∨
  (goodB V E = true ∧ ok = true ∧ code = 0 ∧ ∃ a b : Nat, x = a ∧ y = b ∧ (a : Int) < V ∧ (b : Int) < V ∧ clashB E head a b = true ∧ (∀ c d : Nat, c < a → (d : Int) < V → clashB E head c d = false) ∧ ∀ d, d < b → clashB E head a d = false)
theorem clashIs_uniq {V : Int} {E : List (BitVec 32)} {head : BitVec 32} {x y x' y' : Int} {ok ok' : Bool} {c c' : Int} (h : ClashIs V E head x y ok c) (k : ClashIs V E head x' y' ok' c') : x = x' ∧ y = y' ∧ ok = ok' ∧ c = c' := by
  rcases h with ⟨g, rfl, rfl, rfl, rfl⟩ | ⟨g, rfl, rfl, rfl, rfl, hn⟩ | ⟨g, rfl, rfl, a, b, rfl, rfl, ha, hb, hc, h1, h2⟩ <;>
  rcases k with ⟨g', rfl, rfl, rfl, rfl⟩ | ⟨g', rfl, rfl, rfl, rfl, kn⟩ | ⟨g', rfl, rfl, a', b', rfl, rfl, ka, kb, kc, k1, k2⟩
  · exact ⟨rfl, rfl, rfl, rfl⟩
  · rw [g] at g'; cases g'
  · rw [g] at g'; cases g'
  · rw [g] at g'; cases g'
  · exact ⟨rfl, rfl, rfl, rfl⟩
  · rw [hn a' b' ka kb] at kc; cases kc
  · rw [g] at g'; cases g'
  · rw [kn a b ha hb] at hc; cases hc
  · rcases Nat.lt_trichotomy a a' with c | c | c
    · rw [k1 a b c hb] at hc; cases hc
    · subst c
      rcases Nat.lt_trichotomy b b' with d | d | d
      · rw [k2 b d] at hc; cases hc
      · subst d; exact ⟨rfl, rfl, rfl, rfl⟩
      · rw [h2 b' d] at kc; cases kc
    · rw [h1 a' b' c kb] at kc; cases kc

set_option maxHeartbeats 4000000 in
set_option maxRecDepth 100000 in
theorem where_any (V : Int) (A : Option Addr) (E : List (BitVec 32)) (c : Nat) (v : Nat) (w : World) (h6 : E.length ≤ 6) (hE : Rd w w.heap.size A (us E)) :
    Calls Tryd.prog 103 #[.agg #[.int .i64 V, .slice A E.length c], .int .i64 v] w fun e w' => e = .returned (.int .u32 (uz (wh E v E.length))) ∧ Below w.heap.size w w' := by
  go_enter Tryd.func103, Tryd.ntmps103
  go_wp2_with fail
  have hb0 := below_alloc w (.cells #[.int .i64 V, .slice A E.length c] 28)
  generalize w.alloc _ = w0 at hb0 ⊢
  have hv : (0 : Int) ≤ v := by omega
  go_loopw [5, 11] (fun s i wr => ∃ k : Nat, k ≤ E.length ∧ i = .int .i64 k ∧ s = .int .u32 (uz (wh E v k)) ∧ wr = w0) (fun _ i _ => E.length - (intOf i).toNat)
  case atStart => exact ⟨0, Nat.zero_le _, rfl, rfl, rfl⟩
  case round =>
    obtain ⟨k, hk, rfl, rfl, hw⟩ := hrel
    subst hw
    by_cases hlt : k < E.length
    · obtain ⟨ad, hA, _, q⟩ := (hE.later hb0).e_at hlt
      subst hA
      have b1 : (0 : Int) ≤ k := by omega
      have b2 : (k : Int) < E.length := by omega
      have HW : Hid (wh E v (k + 1) = wh E v k ||| (((ed E k >>> v) &&& 1#32) <<< k)) := Lib.hid rfl
      generalize ed E k = x at q HW
      generalize wh E v k = s at HW ⊢
      go_wp2_with fail
      go_roundw
      case rel => exact ⟨k + 1, by omega, by go_num, by rw [HW.out], trivial⟩
      case measure => simp [intOf]; omega
    · obtain rfl : k = E.length := by omega
      go_wp2_with fail
      go_ret
      exact ⟨rfl, hb0⟩
end Go.Proofs.YtbgbjodehbcgiaaDoor

/- The contract of classify.Clash. -/
namespace Go.Proofs.YtbgbjodehbcgiaaDoor
open Go.RowKit
attribute [local go_sem ↓] uz_and uz_or uz_andNot uz_and_one uz_shr uz_shl_one uz_shl uz_sub uz_sub_one uz_add uz_beq_zero uz_bne_zero uz_beq uz_bne uz_beq_one
attribute [local go_sem ↓] Go.wp_at_zero Go.wp_at_succ

theorem shr_zero (x : BitVec 32) (k : Nat) : (x >>> k &&& 1#32 == 0#32) = !x.getLsbD k := by
  have e : x >>> k &&& 1#32 = if x.getLsbD k then 1#32 else 0#32 := by
    apply BitVec.eq_of_getLsbD_eq
    intro i hi
    by_cases h : x.getLsbD k <;> simp [h] <;> rcases i with _ | i <;> simp [h]
  rw [e]; cases x.getLsbD k <;> rfl
theorem only_self (E : List (BitVec 32)) (x : Nat) : onlyX E x x = false := by unfold onlyX; simp
theorem beq_of_bne {a b : BitVec 32} {o : Bool} (h : (a != b) = o) : (a == b) = !o := by rw [← h]; simp [bne]

theorem both_zero {a b : BitVec 32} (h1 : (a &&& b != 0#32) = false) (h2 : (a &&& ~~~b != 0#32) = false) (h : (a == 0#32) = false) : False := by
  have e : a = (a &&& b) ||| (a &&& ~~~b) := by
    apply BitVec.eq_of_getLsbD_eq
    intro i hi
    rw [BitVec.getLsbD_or, BitVec.getLsbD_and, BitVec.getLsbD_and, BitVec.getLsbD_not]
    cases a.getLsbD i <;> cases b.getLsbD i <;> simp [hi]
  have h1' : a &&& b = 0#32 := by simpa using h1
  have h2' : a &&& ~~~b = 0#32 := by simpa using h2
  rw [h1', h2'] at e
  rw [e] at h
  cases h

set_option maxHeartbeats 400000000 in
set_option maxRecDepth 100000 in
theorem clash_any (V : Int) (A : Option Addr) (E : List (BitVec 32)) (c : Nat) (head : BitVec 32) (w : World) (hl : E.length ≤ 35184372087808) (hE : Rd w w.heap.size A (us E)) :
    Calls Tryd.prog 61 #[.agg #[.int .i64 V, .slice A E.length c], .int .u32 (uz head)] w fun e w' => ∃ (x y : Int) (ok : Bool) (code : Int), e = .returned (.tuple #[.int .i64 x, .int .i64 y, .bool ok, .int .i64 code]) ∧ Hid (ClashIs V E head x y ok code) ∧ Below w.heap.size w w' := by
  go_enter Tryd.func61, Tryd.ntmps61
  go_wp2_with fail
  have hb0 := below_alloc w (.cells #[.int .i64 V, .slice A E.length c] 28)
  have hG0 : Row (w.alloc (.cells #[.int .i64 V, .slice A E.length c] 28)) w.heap.size 28 [.int .i64 V, .slice A E.length c] := Row.new _ _ _
  generalize w.alloc _ = w0 at hb0 hG0 ⊢
  refine (good_any V A E c _ hl (hE.later hb0)).mono ?_
  rintro e w1 ⟨rfl, hb1⟩
  have hB1 := bthen hb0 hb1
  have hG1 := hG0.later hb1
  have hE1 := hE.later hB1
  have d0 : w1.cell? ⟨w.heap.size, 0, none⟩ = some (.int .i64 V) := hG1.cell 0
  have d1 : w1.cell? ⟨w.heap.size, 1, none⟩ = some (.slice A E.length c) := hG1.cell 1
  clear hb0 hG0 hb1 hE
  cases hv : goodB V E
  · have HC : Hid (ClashIs V E head 0 0 false 140) := Lib.hid (.inl ⟨hv, rfl, rfl, rfl, rfl⟩)
    clear hv
    go_wp2_with fail
    refine bodyPost_ret (v := .tuple #[.int .i64 0, .int .i64 0, .bool false, .int .i64 140]) (by simp [results, Tryd.results61, go_sem]) rfl ?_
    exact ⟨_, _, _, _, rfl, HC, hB1⟩
  · have h6 : E.length ≤ 6 := (goodB_iff.1 hv).2
    obtain ⟨hV0, hV30, _, _⟩ := validB_of (goodB_iff.1 hv).1
    obtain ⟨n, rfl⟩ : ∃ n : Nat, V = n := ⟨V.toNat, by omega⟩
    have HV := Lib.hid hv
    have HWH : Hid (∀ (x : World) (v : Nat), Below w1.heap.size w1 x → Calls Tryd.prog 103 #[.agg #[.int .i64 n, .slice A E.length c], .int .i64 v] x fun e w' => e = .returned (.int .u32 (uz (wh E v E.length))) ∧ Below w1.heap.size w1 w') :=
      Lib.hid fun x v hx => (where_any n A E c v x h6 (hE1.later hx)).mono fun e w' ⟨he, hb⟩ => ⟨he, bthen hx hb⟩
    have HK : Hid (∀ x, Below w1.heap.size w1 x → Below w1.heap.size w1 x ∧ x.cell? ⟨w.heap.size, 0, none⟩ = some (.int .i64 n) ∧ x.cell? ⟨w.heap.size, 1, none⟩ = some (.slice A E.length c)) :=
      Lib.hid (fun x hx => ⟨hx, (hG1.later hx).cell 0, (hG1.later hx).cell 1⟩)
    clear hv hV0 hG1 hE1
    go_wp2_with fail
    clear d0 d1
    go_loopw [19] (fun i wr => ∃ x : Nat, x ≤ n ∧ i = .int .i64 x ∧ Hid (∀ a b : Nat, a < x → (b : Int) < n → clashB E head a b = false) ∧ Below w1.heap.size w1 wr) (fun i _ => n - (intOf i).toNat)
    case atStart => exact ⟨0, Nat.zero_le _, rfl, Lib.hid fun a b ha => absurd ha (Nat.not_lt_zero _), Below.refl _ _⟩
    case round =>
      obtain ⟨x, hx, rfl, hno, hbx⟩ := hrel
      by_cases hlt : x < n
      · obtain ⟨_, d0, d1⟩ := HK.out _ hbx
        have b1 : (0 : Int) ≤ x := by omega
        have b2 : (x : Int) < n := by omega
        go_wp2_with fail
        clear d0 d1
        go_loopg [24] n (fun gk j wr => ∃ y : Nat, y ≤ n ∧ gk = n - y ∧ j = .int .i64 y ∧ Hid (∀ b : Nat, b < y → clashB E head x b = false) ∧ Below w1.heap.size w1 wr)
        case atStart => exact ⟨0, Nat.zero_le _, rfl, rfl, Lib.hid fun b hb => absurd hb (Nat.not_lt_zero _), hbx⟩
        case round =>
          obtain ⟨y, hy, rfl, rfl, hno2, hby⟩ := hrel
          by_cases hlty : y < n
          · have b3 : (0 : Int) ≤ y := by omega
            have b4 : (y : Int) < n := by omega
            go_upto_region 9 with fail
            go_cut [10, 11] (fun a b wx => a = .int .u32 (uz (wh E x E.length)) ∧ b = .int .u32 (uz (wh E y E.length)) ∧ Below w1.heap.size w1 wx)
            case first =>
              go_region_held3 (fun x : World => Below w1.heap.size w1 x ∧ x.cell? ⟨w.heap.size, 0, none⟩ = some (.int .i64 n) ∧ x.cell? ⟨w.heap.size, 1, none⟩ = some (.slice A E.length c))
                (first | exact HK.out _ (by assumption) | exact HK.out _ (below_drewN (by assumption) 1))
                (first | (go_at_call 103; refine (HWH.out _ _ (by first | assumption | exact below_drewN (by assumption) 1)).mono ?_; rintro e w4 ⟨rfl, hb4⟩))
              all_goals
                go_wp2_with fail
                go_meet
                exact ⟨rfl, rfl, by assumption⟩
            case rest =>
              obtain ⟨rfl, rfl, hbc⟩ := hcut
              have e1 := wh_and (by omega : E.length ≤ 32) x y
              have e2 := wh_not (by omega : E.length ≤ 32) x y
              have e3 := wh_not (by omega : E.length ≤ 32) y x
              have HCL : Hid (clashB E head x y = ((bothX E x y && onlyX E x y && onlyX E y x && decide (x < y)) || (bothX E x y && !onlyX E x y && onlyX E y x && head.getLsbD x && !head.getLsbD y))) := Lib.hid rfl
              have HXY : Hid (x = y → clashB E head x y = false) := Lib.hid fun e => by
                subst e
                rw [HCL.out, only_self]
                simp
              have HO1 : Hid (bothX E x y = false → clashB E head x y = false) := Lib.hid fun e => by rw [HCL.out, e]; simp
              have HR : Hid (clashB E head x y = false → ∀ b : Nat, b < y + 1 → clashB E head x b = false) := Lib.hid fun e b hb => by
                rcases Nat.lt_or_ge b y with h | h
                · exact hno2.out b h
                · obtain rfl : b = y := by omega
                  exact e
              have HT : Hid (clashB E head x y = true → ClashIs n E head x y true 0) := Lib.hid fun e => .inr (.inr ⟨HV.out, rfl, rfl, x, y, rfl, rfl, b2, b4, e, hno.out, fun d hd => hno2.out d hd⟩)
              have hx1 := shr_one head x
              have hy0 := shr_zero head y
              have e4 := beq_of_bne e2
              have hBc : Below w.heap.size w wc := hB1.trans (hbc.mono hB1.size)
              clear hbx hno hno2 hby
              generalize hK : clashB E head x y = K at HCL HXY HO1 HR HT
              generalize wh E x E.length = a at e1 e2 e3 e4 ⊢
              generalize wh E y E.length = b at e1 e2 e3 e4 ⊢
              generalize bothX E x y = o1 at e1 HCL HO1
              generalize onlyX E x y = o2 at e2 e4 HCL
              generalize onlyX E y x = o3 at e3 HCL
              generalize head.getLsbD x = p at hx1 HCL
              generalize head.getLsbD y = q at hy0 HCL
              clear hK
              cases hz1 : (a == 0#32)
              · cases hz2 : (b == 0#32)
                · by_cases hxy : x = y
                  · have HF := Lib.hid (HR.out (HXY.out hxy))
                    have hxy' : ((x : Int) == (y : Int)) = true := by simp [hxy]
                    clear hxy
                    go_wp2_with fail
                    go_roundg (n - (y + 1))
                    case measure => omega
                    case rel => exact ⟨y + 1, by omega, rfl, by go_num, HF, hbc⟩
                  · have hxy' : ((x : Int) == (y : Int)) = false := by rw [beq_eq_false_iff_ne]; omega
                    obtain ⟨l, hl⟩ : ∃ l, decide (x < y) = l := ⟨_, rfl⟩
                    have hl' : decide ((x : Int) < (y : Int)) = l := by rw [← hl]; simp
                    rw [hl] at HCL
                    clear hxy HXY HO1
                    have HLT : Hid (l = decide (x < y)) := Lib.hid hl.symm
                    cases l <;> cases o1 <;> cases o2 <;> cases o3 <;> cases p <;> cases q
                    all_goals first
                      | (have e5 : (a &&& ~~~b == 0#32) = false := e4; clear e4)
                      | (have e5 : (a &&& ~~~b == 0#32) = true := e4; clear e4)
                    all_goals first
                      | (have hy1 : (head >>> y &&& 1#32 == 0#32) = false := hy0; clear hy0)
                      | (have hy1 : (head >>> y &&& 1#32 == 0#32) = true := hy0; clear hy0)
                    all_goals first
                      | exact (both_zero e1 e2 hz1).elim
                      | (have hK : K = false := HCL.out
                         have HF := Lib.hid (HR.out hK)
                         clear hK HT HR HCL
                         go_wp2_with fail
                         go_roundg (n - (y + 1))
                         case measure => omega
                         case rel => exact ⟨y + 1, by omega, rfl, by go_num, HF, hbc⟩)
                      | (have hK : K = true := HCL.out
                         have HF := Lib.hid (HT.out hK)
                         clear hK HT HR HCL
                         go_wp2_with fail
                         refine bodyPost_ret (v := .tuple #[.int .i64 x, .int .i64 y, .bool true, .int .i64 0]) (by simp [results, Tryd.results61, go_sem]) rfl ?_
                         exact ⟨_, _, _, _, rfl, HF, hBc⟩)
                · have HF := Lib.hid (HR.out (HO1.out (by rw [← e1, show b = 0#32 by simpa using hz2]; simp)))
                  clear HCL e1 e2 e3 e4
                  go_wp2_with fail
                  go_roundg (n - (y + 1))
                  case measure => omega
                  case rel => exact ⟨y + 1, by omega, rfl, by go_num, HF, hbc⟩
              · have HF := Lib.hid (HR.out (HO1.out (by rw [← e1, show a = 0#32 by simpa using hz1]; simp)))
                clear HCL e1 e2 e3 e4
                go_wp2_with fail
                go_roundg (n - (y + 1))
                case measure => omega
                case rel => exact ⟨y + 1, by omega, rfl, by go_num, HF, hbc⟩
          · obtain rfl : y = n := by omega
            go_wp2_with fail
            go_roundw
            case rel =>
              refine ⟨x + 1, by omega, by go_num, Lib.hid fun a b ha hb => ?_, hby⟩
              rcases Nat.lt_or_ge a x with h | h
              · exact hno.out a b h hb
              · obtain rfl : a = x := by omega
                exact hno2.out b (by omega)
            case measure => simp [intOf]; omega
      · obtain rfl : x = n := by omega
        have HC : Hid (ClashIs x E head 0 0 false 0) := Lib.hid (.inr (.inl ⟨HV.out, rfl, rfl, rfl, rfl, fun a b ha hb => hno.out a b (by omega) hb⟩))
        go_wp2_with fail
        refine bodyPost_ret (v := .tuple #[.int .i64 0, .int .i64 0, .bool false, .int .i64 0]) (by simp [results, Tryd.results61, go_sem]) rfl ?_
        exact ⟨_, _, _, _, rfl, HC, hB1.trans (hbx.mono hB1.size)⟩
end Go.Proofs.YtbgbjodehbcgiaaDoor

/- The contract of classify.Classify. -/
namespace Go.Proofs.YtbgbjodehbcgiaaDoor
open Go.RowKit

/-- What Classify answers. -/
def ClassIs (V : Int) (E : List (BitVec 32)) (head : BitVec 32) (a x h : Bool) (code : Int) : Prop :=
  (goodB V E = false ∧ a = false ∧ x = false ∧ h = false ∧ code = 140) ∨
  (goodB V E = true ∧ a = acyB V E ∧ x = (acyB V E && acyB V (extE E head)) ∧ code = 0 ∧ ∃ p q : Int, ClashIs V E head p q (!h) 0)

set_option maxHeartbeats 40000000 in
set_option maxRecDepth 100000 in
theorem classify_any (V : Int) (ad : Addr) (E : List (BitVec 32)) (c : Nat) (head : BitVec 32) (w : World) (hl : E.length ≤ 35184372087808) (hE : Rd w w.heap.size (some ad) (us E)) :
    Calls Tryd.prog 19 #[.agg #[.int .i64 V, .slice (some ad) E.length c], .int .u32 (uz head)] w fun e w' => ∃ (a x h : Bool) (code : Int), e = .returned (.tuple #[.agg #[.bool a, .bool x, .bool h], .int .i64 code]) ∧ Hid (ClassIs V E head a x h code) ∧ Below w.heap.size w w' := by
  go_enter Tryd.func19, Tryd.ntmps19
  go_wp2_with fail
  have hb0 : Below w.heap.size w ((w.alloc (.cells #[.int .i64 V, .slice (some ad) E.length c] 28)).alloc (.cells #[.bool false, .bool false, .bool false] 48)) := (below_alloc w _).alloc (by simp) _
  have hR0 : Row ((w.alloc (.cells #[.int .i64 V, .slice (some ad) E.length c] 28)).alloc (.cells #[.bool false, .bool false, .bool false] 48)) w.heap.size 28 [.int .i64 V, .slice (some ad) E.length c] := (Row.new w _ _).alloc _
  have hR1 : Row ((w.alloc (.cells #[.int .i64 V, .slice (some ad) E.length c] 28)).alloc (.cells #[.bool false, .bool false, .bool false] 48)) (w.heap.size + 1) 48 [.bool false, .bool false, .bool false] := Row.new_ (by simp)
  generalize (w.alloc (.cells #[.int .i64 V, .slice (some ad) E.length c] 28)).alloc _ = w0 at hb0 hR0 hR1 ⊢
  refine (extended_any V ad E c head w0 hl (hE.later hb0)).mono ?_
  rintro e w1 ⟨V', v, F, code, rfl, hown, hX, hb1⟩
  obtain ⟨A1, c1, rfl, _, _, hF1, _⟩ := Rd.of_own hown
  have hB1 := bthen hb0 hb1
  have hR0' := hR0.later hb1
  have hR1' := hR1.later hb1
  have hE1 := hE.later hB1
  clear hown hb0 hR0 hR1 hb1 hE
  rcases hX.out with ⟨hg, rfl, rfl, rfl⟩ | ⟨hg, rfl, rfl, rfl⟩
  · have HC : Hid (ClassIs V E head false false false 140) := Lib.hid (.inl ⟨hg, rfl, rfl, rfl, rfl⟩)
    clear hX hg
    go_upto_region 2 with fail
    have hb2 := below_alloc w1 (.cells #[.int .i64 0, .slice A1 0 c1] 28)
    have hB2 := bthen hB1 hb2
    have hR2 := hR1'.later hb2
    generalize w1.alloc _ = w2 at hB2 hR2 ⊢
    generalize w1.heap.size = q
    have d0 : w2.cell? ⟨w.heap.size + 1, 0, none⟩ = some (.bool false) := hR2.cell 0
    have d1 : w2.cell? ⟨w.heap.size + 1, 1, none⟩ = some (.bool false) := hR2.cell 1
    have d2 : w2.cell? ⟨w.heap.size + 1, 2, none⟩ = some (.bool false) := hR2.cell 2
    have f0 := hR2.frozen 0
    have f1 := hR2.frozen 1
    have f2 := hR2.frozen 2
    have hlt := hR2.lt
    clear hE1 hR0' hR1' hB1 hb2 hF1
    go_wp2_with fail
    have hR3 := ((hR2.set_ 0 (.bool false)).set_ 1 (.bool false)).set_ 2 (.bool false)
    have z0 := hR3.cell 0
    have z1 := hR3.cell 1
    have z2 := hR3.cell 2
    simp only [List.set, List.getElem?_cons_zero, List.getElem?_cons_succ] at z0 z1 z2
    refine bodyPost_ret (v := .tuple #[.agg #[.bool false, .bool false, .bool false], .int .i64 140]) (by simp [results, Tryd.results19, go_sem, z0, z1, z2]) rfl ?_
    exact ⟨_, _, _, _, rfl, HC, ((hB2.setCell (by simp) _).setCell (by simp) _).setCell (by simp) _⟩
  · have HG := Lib.hid hg
    have h6 : E.length ≤ 6 := (goodB_iff.1 hg).2
    have hl7 : (extE E head).length ≤ 35184372087808 := by simp [extE]; omega
    have hcE : codeB V' E = 0 := by simp [codeB, (goodB_iff.1 hg).1]
    clear hX hg
    go_upto_region 2 with fail
    generalize hFL : extE E head = F at hF1 hl7 ⊢
    have HFL := Lib.hid hFL
    clear hFL
    have hb2 := below_alloc w1 (.cells #[.int .i64 V', .slice A1 F.length c1] 28)
    have hI2 : Row (w1.alloc (.cells #[.int .i64 V', .slice A1 F.length c1] 28)) w1.heap.size 28 [.int .i64 V', .slice A1 F.length c1] := Row.new _ _ _
    have hB2 := bthen hB1 hb2
    have hR2 := hR1'.later hb2
    have hS2 := hR0'.later hb2
    have hE2 := hE1.later hb2
    have hF2 := hF1.later hb2
    generalize w1.heap.size = q at hI2 ⊢
    generalize w1.alloc _ = w2 at hB2 hR2 hS2 hE2 hF2 hI2 ⊢
    have c0 : w2.cell? ⟨w.heap.size, 0, none⟩ = some (.int .i64 V') := hS2.cell 0
    have c1' : w2.cell? ⟨w.heap.size, 1, none⟩ = some (.slice (some ad) E.length c) := hS2.cell 1
    clear hb2 hB1 hR1' hR0' hE1 hF1
    go_wp2_with fail
    refine (acyclic_any V' (some ad) E c w2 hl hE2).mono ?_
    rintro e w3 ⟨rfl, hb3⟩
    have hB3 := bthen hB2 hb3
    have hR3 := hR2.later hb3
    have hS3 := hS2.later hb3
    have hE3 := hE2.later hb3
    have hI3 := hI2.later hb3
    have hF3 := hF2.later hb3
    have d0 : w3.cell? ⟨q, 0, none⟩ = some (.int .i64 V') := hI3.cell 0
    have d1 : w3.cell? ⟨q, 1, none⟩ = some (.slice A1 F.length c1) := hI3.cell 1
    clear c0 c1' hB2 hR2 hS2 hE2 hI2 hF2 hb3
    go_wp2_with fail
    refine (acyclic_any V' A1 F c1 w3 hl7 hF3).mono ?_
    rintro e w4 ⟨rfl, hb4⟩
    have hB4 := bthen hB3 hb4
    have hR4 := hR3.later hb4
    have hS4 := hS3.later hb4
    have hE4 := hE3.later hb4
    have c0 : w4.cell? ⟨w.heap.size, 0, none⟩ = some (.int .i64 V') := hS4.cell 0
    have c1' : w4.cell? ⟨w.heap.size, 1, none⟩ = some (.slice (some ad) E.length c) := hS4.cell 1
    clear d0 d1 hB3 hR3 hS3 hE3 hI3 hF3 hb4
    go_wp2_with fail
    refine (clash_any V' (some ad) E c head w4 hl hE4).mono ?_
    rintro e w5 ⟨x, y, ok, code, rfl, hCL, hb5⟩
    have hB5 := bthen hB4 hb5
    have hR5 := hR4.later hb5
    clear c0 c1' hB4 hR4 hS4 hE4 hb5
    have hc0 : code = 0 := by
      rcases hCL.out with ⟨a, _⟩ | ⟨_, _, _, _, a, _⟩ | ⟨_, _, a, _⟩
      · rw [HG.out] at a; cases a
      · exact a
      · exact a
    subst hc0
    have HC : Hid (ClassIs V' E head (acyB V' E) (acyB V' E && acyB V' F) (!ok) 0) := Lib.hid (.inr ⟨HG.out, rfl, by rw [HFL.out], rfl, x, y, by rw [Bool.not_not]; exact hCL.out⟩)
    clear hCL
    generalize acyB V' E = a1 at HC ⊢
    generalize acyB V' F = a2 at HC ⊢
    have d0 : w5.cell? ⟨w.heap.size + 1, 0, none⟩ = some (.bool false) := hR5.cell 0
    have d1 : w5.cell? ⟨w.heap.size + 1, 1, none⟩ = some (.bool false) := hR5.cell 1
    have d2 : w5.cell? ⟨w.heap.size + 1, 2, none⟩ = some (.bool false) := hR5.cell 2
    have f0 := hR5.frozen 0
    have f1 := hR5.frozen 1
    have f2 := hR5.frozen 2
    have hlt := hR5.lt
    cases a1
    · go_wp2_with fail
      have hR6 := ((hR5.set_ 0 (.bool false)).set_ 1 (.bool false)).set_ 2 (.bool !ok)
      have z0 := hR6.cell 0
      have z1 := hR6.cell 1
      have z2 := hR6.cell 2
      simp only [List.set, List.getElem?_cons_zero, List.getElem?_cons_succ] at z0 z1 z2
      refine bodyPost_ret (v := .tuple #[.agg #[.bool false, .bool false, .bool !ok], .int .i64 0]) (by simp [results, Tryd.results19, go_sem, z0, z1, z2]) rfl ?_
      exact ⟨_, _, _, _, rfl, HC, ((hB5.setCell (by simp) _).setCell (by simp) _).setCell (by simp) _⟩
    · go_wp2_with fail
      have hR6 := ((hR5.set_ 0 (.bool true)).set_ 1 (.bool a2)).set_ 2 (.bool !ok)
      have z0 := hR6.cell 0
      have z1 := hR6.cell 1
      have z2 := hR6.cell 2
      simp only [List.set, List.getElem?_cons_zero, List.getElem?_cons_succ] at z0 z1 z2
      refine bodyPost_ret (v := .tuple #[.agg #[.bool true, .bool a2, .bool !ok], .int .i64 0]) (by simp [results, Tryd.results19, go_sem, z0, z1, z2]) rfl ?_
      exact ⟨_, _, _, _, rfl, HC, ((hB5.setCell (by simp) _).setCell (by simp) _).setCell (by simp) _⟩
end Go.Proofs.YtbgbjodehbcgiaaDoor

/- The contract of osierlaw17.awake. -/
namespace Go.Proofs.YtbgbjodehbcgiaaDoor
open Go.RowKit
theorem awake_not : acyB 3 [3#32, 6#32, 5#32] = false := by
  rw [Bool.eq_false_iff]
  intro h
  obtain ⟨p, hp⟩ := (acyB_iff (by decide)).1 h
  have he := (existsB_iff (V := 3) (E := [3#32, 6#32, 5#32]) (fun i v hi hv' => by
    rcases Nat.lt_or_ge v 3 with h | h
    · exact h
    · exfalso
      have hi' : i < 3 := hi
      rcases i with _ | _ | _ | i
      · exact absurd (Nat.testBit_lt_two_pow (x := 3) (i := v) (Nat.lt_of_lt_of_le (by decide : 3 < 2 ^ 3) (Nat.pow_le_pow_right (by omega) h))) (by simpa [hv, ed, BitVec.getLsbD] using hv')
      · exact absurd (Nat.testBit_lt_two_pow (x := 6) (i := v) (Nat.lt_of_lt_of_le (by decide : 6 < 2 ^ 3) (Nat.pow_le_pow_right (by omega) h))) (by simpa [hv, ed, BitVec.getLsbD] using hv')
      · exact absurd (Nat.testBit_lt_two_pow (x := 5) (i := v) (Nat.lt_of_lt_of_le (by decide : 5 < 2 ^ 3) (Nat.pow_le_pow_right (by omega) h))) (by simpa [hv, ed, BitVec.getLsbD] using hv')
      · omega)).2 ⟨p, hp⟩
  revert he
  decide
theorem awake_class {a x h : Bool} {code : Int} (k : ClassIs 3 [3#32, 6#32] 5#32 a x h code) : a = true ∧ x = false ∧ h = false ∧ code = 0 := by
  rcases k with ⟨g, _⟩ | ⟨_, ha, hx, hc, p, q, hC⟩
  · exact absurd g (by decide)
  · have h1 : acyB 3 [3#32, 6#32] = true := (acyB_iff (by decide)).2 ⟨_, ((checkB_iff 3 _ [1, -1]).1 (by decide)).2.2⟩
    have h2 : extE [3#32, 6#32] 5#32 = [3#32, 6#32, 5#32] := by decide
    refine ⟨by rw [ha, h1], by rw [hx, h2, awake_not, h1]; rfl, ?_, hc⟩
    rcases hC with ⟨g, _⟩ | ⟨_, _, _, _, _, hn⟩ | ⟨_, hk, _⟩
    · exact absurd g (by decide)
    · exact absurd (hn 0 1 (by decide) (by decide)) (by decide)
    · cases h
      · rfl
      · cases hk

set_option maxHeartbeats 4000000 in
set_option maxRecDepth 100000 in
theorem awake17_any (w : World) : Calls Tryd.prog 17 #[] w fun e w' => e = .returned (.bool true) ∧ Below w.heap.size w w' := by
  go_enter Tryd.func17, Tryd.ntmps17
  go_wp2_with fail
  have hR : Row (w.alloc (.cells #[.int .u32 3, .int .u32 6] 29)) w.heap.size 29 (us [3#32, 6#32]) := heap_alloc_new w _
  have hb0 := below_alloc w (.cells #[.int .u32 3, .int .u32 6] 29)
  generalize hg : w.heap.size = g at hR ⊢
  generalize w.alloc _ = w1 at hR hb0 ⊢
  have hC := classify_any 3 ⟨g, 0, none⟩ [3#32, 6#32] 2 5#32 w1 (by decide) hR.rd
  rw [show uz 5#32 = 5 from rfl] at hC
  refine hC.mono ?_
  rintro e w2 ⟨a, x, h, code, rfl, hK, hb1⟩
  obtain ⟨rfl, rfl, rfl, rfl⟩ := awake_class hK.out
  have hB1 := bthen hb0 hb1
  clear hC hK hR hb0 hb1
  go_wp2_with fail
  go_ret
  exact ⟨rfl, hg ▸ hB1.trans (below_alloc _ _ |>.mono hB1.size)⟩
end Go.Proofs.YtbgbjodehbcgiaaDoor

/- The contract of osierref17.Clash. -/
namespace Go.Proofs.YtbgbjodehbcgiaaDoor
open Go.RowKit
attribute [local go_sem ↓] uz_and uz_or uz_andNot uz_and_one uz_shr uz_shl_one uz_shl uz_sub uz_sub_one uz_add uz_beq_zero uz_bne_zero uz_beq uz_bne uz_beq_one
attribute [local go_sem ↓] Go.wp_at_zero Go.wp_at_succ

def cntE (E : List (BitVec 32)) (q : BitVec 32 → Bool) (k : Nat) : Nat := cntB (fun i => q (ed E i)) k
theorem cntE_le (E : List (BitVec 32)) (q : BitVec 32 → Bool) (k : Nat) : cntE E q k ≤ k := cntB_le _ _
theorem cntE_step (E : List (BitVec 32)) (q : BitVec 32 → Bool) (k : Nat) : cntE E q (k + 1) = cntE E q k + if q (ed E k) then 1 else 0 := rfl
theorem cntE_pos (E : List (BitVec 32)) (q : BitVec 32 → Bool) : E.any q = decide (0 < cntE E q E.length) := by
  rw [Bool.eq_iff_iff, decide_eq_true_eq, List.any_eq_true]
  constructor
  · rintro ⟨e, he, h⟩
    obtain ⟨i, hi, rfl⟩ := mem_ed17 he
    exact cntB_pos (p := fun i => q (ed E i)) hi h
  · intro h
    apply Classical.byContradiction
    intro c
    have h2 : cntE E q E.length = cntB (fun _ => false) E.length := cntB_congr fun i hi => by
      cases d : q (ed E i)
      · rfl
      · exact absurd ⟨_, ed_mem_ E i hi, d⟩ c
    rw [cntB_none (fun _ => rfl)] at h2
    omega
def qB (x y : Nat) (e : BitVec 32) : Bool := e.getLsbD x && e.getLsbD y
def qX (x y : Nat) (e : BitVec 32) : Bool := e.getLsbD x && !e.getLsbD y
theorem bothX_cnt (E : List (BitVec 32)) (x y : Nat) : bothX E x y = decide (0 < cntE E (qB x y) E.length) := cntE_pos E (qB x y)
theorem onlyX_cnt (E : List (BitVec 32)) (x y : Nat) : onlyX E x y = decide (0 < cntE E (qX x y) E.length) := cntE_pos E (qX x y)

theorem clash_tree {n1 n2 n3 x y : Nat} {p q K : Bool} (h : K = ((decide (0 < n1) && decide (0 < n2) && decide (0 < n3) && decide (x < y)) || (decide (0 < n1) && !decide (0 < n2) && decide (0 < n3) && p && !q))) :
    (n1 = 0 ∧ K = false) ∨ (0 < n1 ∧ n2 = 0 ∧ n3 = 0 ∧ K = false) ∨ (0 < n1 ∧ n2 = 0 ∧ 0 < n3 ∧ p = false ∧ K = false) ∨ (0 < n1 ∧ n2 = 0 ∧ 0 < n3 ∧ p = true ∧ q = true ∧ K = false) ∨ (0 < n1 ∧ n2 = 0 ∧ 0 < n3 ∧ p = true ∧ q = false ∧ K = true) ∨ (0 < n1 ∧ 0 < n2 ∧ n3 = 0 ∧ K = false) ∨ (0 < n1 ∧ 0 < n2 ∧ 0 < n3 ∧ x < y ∧ K = true) ∨ (0 < n1 ∧ 0 < n2 ∧ 0 < n3 ∧ ¬ x < y ∧ K = false) := by
  rcases Nat.eq_zero_or_pos n1 with z1 | z1
  · exact .inl ⟨z1, by rw [h, z1]; simp⟩
  · rcases Nat.eq_zero_or_pos n2 with z2 | z2
    · rcases Nat.eq_zero_or_pos n3 with z3 | z3
      · exact .inr (.inl ⟨z1, z2, z3, by rw [h, z3]; simp⟩)
      · cases p
        · exact .inr (.inr (.inl ⟨z1, z2, z3, rfl, by rw [h, z2]; simp⟩))
        · cases q
          · exact .inr (.inr (.inr (.inr (.inl ⟨z1, z2, z3, rfl, rfl, by rw [h, z2]; simp [z1, z3]⟩))))
          · exact .inr (.inr (.inr (.inl ⟨z1, z2, z3, rfl, rfl, by rw [h, z2]; simp⟩)))
    · rcases Nat.eq_zero_or_pos n3 with z3 | z3
      · exact .inr (.inr (.inr (.inr (.inr (.inl ⟨z1, z2, z3, by rw [h, z3]; simp⟩)))))
      · by_cases c : x < y
        · exact .inr (.inr (.inr (.inr (.inr (.inr (.inl ⟨z1, z2, z3, c, by rw [h]; simp [z1, z2, z3, c]⟩))))))
        · exact .inr (.inr (.inr (.inr (.inr (.inr (.inr ⟨z1, z2, z3, c, by rw [h]; simp [z2, c]⟩))))))

set_option maxHeartbeats 400000000 in
set_option maxRecDepth 100000 in
theorem r17clash_any (V : Int) (A : Option Addr) (E : List (BitVec 32)) (c : Nat) (head : BitVec 32) (w : World) (hl : E.length ≤ 35184372087808) (hE : Rd w w.heap.size A (us E)) :
    Calls Tryd.prog 101 #[.agg #[.int .i64 V, .slice A E.length c], .int .u32 (uz head)] w fun e w' => ∃ (x y : Int) (ok : Bool) (code : Int), e = .returned (.tuple #[.int .i64 x, .int .i64 y, .bool ok, .int .i64 code]) ∧ Hid (ClashIs V E head x y ok code) ∧ Below w.heap.size w w' := by
  go_enter Tryd.func101, Tryd.ntmps101
  go_wp2_with fail
  have hb0 := below_alloc w (.cells #[.int .i64 V, .slice A E.length c] 28)
  have hG0 : Row (w.alloc (.cells #[.int .i64 V, .slice A E.length c] 28)) w.heap.size 28 [.int .i64 V, .slice A E.length c] := Row.new _ _ _
  generalize w.alloc _ = w0 at hb0 hG0 ⊢
  refine (r17good_any V A E c _ hl (hE.later hb0)).mono ?_
  rintro e w1 ⟨rfl, hb1⟩
  have hB1 := bthen hb0 hb1
  have hG1 := hG0.later hb1
  have hE1 := hE.later hB1
  have d0 : w1.cell? ⟨w.heap.size, 0, none⟩ = some (.int .i64 V) := hG1.cell 0
  have d1 : w1.cell? ⟨w.heap.size, 1, none⟩ = some (.slice A E.length c) := hG1.cell 1
  clear hb0 hG0 hb1 hE
  cases hv : goodB V E
  · have HC : Hid (ClashIs V E head 0 0 false 140) := Lib.hid (.inl ⟨hv, rfl, rfl, rfl, rfl⟩)
    clear hv
    go_wp2_with fail
    refine bodyPost_ret (v := .tuple #[.int .i64 0, .int .i64 0, .bool false, .int .i64 140]) (by simp [results, Tryd.results101, go_sem]) rfl ?_
    exact ⟨_, _, _, _, rfl, HC, hB1⟩
  · have h6 : E.length ≤ 6 := (goodB_iff.1 hv).2
    obtain ⟨hV0, hV30, _, _⟩ := validB_of (goodB_iff.1 hv).1
    obtain ⟨n, rfl⟩ : ∃ n : Nat, V = n := ⟨V.toNat, by omega⟩
    have HV := Lib.hid hv
    have HK : Hid (∀ x, Below w1.heap.size w1 x → Below w1.heap.size w1 x ∧ x.cell? ⟨w.heap.size, 0, none⟩ = some (.int .i64 n) ∧ x.cell? ⟨w.heap.size, 1, none⟩ = some (.slice A E.length c)) :=
      Lib.hid (fun x hx => ⟨hx, (hG1.later hx).cell 0, (hG1.later hx).cell 1⟩)
    have HE : Hid (∀ x, Below w1.heap.size w1 x → Rd x w1.heap.size A (us E)) := Lib.hid fun x hx => hE1.below hx
    clear hv hV0 hG1 hE1
    go_wp2_with fail
    clear d0 d1
    go_loopw [8] (fun i wr => ∃ x : Nat, x ≤ n ∧ i = .int .i64 x ∧ Hid (∀ a b : Nat, a < x → (b : Int) < n → clashB E head a b = false) ∧ Below w1.heap.size w1 wr) (fun i _ => n - (intOf i).toNat)
    case atStart => exact ⟨0, Nat.zero_le _, rfl, Lib.hid fun a b ha => absurd ha (Nat.not_lt_zero _), Below.refl _ _⟩
    case round =>
      obtain ⟨x, hx, rfl, hno, hbx⟩ := hrel
      obtain ⟨_, d0, d1⟩ := HK.out _ hbx
      by_cases hlt : x < n
      · have b1 : (0 : Int) ≤ x := by omega
        have b2 : (x : Int) < n := by omega
        go_wp2_with fail
        clear d0 d1
        go_loopg [9] n (fun gk j wr => ∃ y : Nat, y ≤ n ∧ gk = n - y ∧ j = .int .i64 y ∧ Hid (∀ b : Nat, b < y → clashB E head x b = false) ∧ Below w1.heap.size w1 wr)
        case atStart => exact ⟨0, Nat.zero_le _, rfl, rfl, Lib.hid fun b hb => absurd hb (Nat.not_lt_zero _), hbx⟩
        clear hbx
        case round =>
          obtain ⟨y, hy, rfl, rfl, hno2, hby⟩ := hrel
          obtain ⟨_, d0, d1⟩ := HK.out _ hby
          by_cases hlty : y < n
          · have b3 : (0 : Int) ≤ y := by omega
            have b4 : (y : Int) < n := by omega
            go_wp2_with fail
            clear d0 d1
            go_loopw [10, 11, 12, 13] (fun p q r i wr => ∃ k : Nat, k ≤ E.length ∧ i = .int .i64 k ∧ p = .int .i64 (cntE E (qB x y) k : Nat) ∧ q = .int .i64 (cntE E (qX x y) k : Nat) ∧ r = .int .i64 (cntE E (qX y x) k : Nat) ∧ Below w1.heap.size w1 wr) (fun _ _ _ i _ => E.length - (intOf i).toNat)
            case atStart => exact ⟨0, Nat.zero_le _, rfl, rfl, rfl, rfl, hby⟩
            clear hby
            case round =>
              obtain ⟨k, hk, rfl, rfl, rfl, rfl, hbz⟩ := hrel
              obtain ⟨_, d0, d1⟩ := HK.out _ hbz
              have c1 := cntE_le E (qB x y) k
              have c2 := cntE_le E (qX x y) k
              have c3 := cntE_le E (qX y x) k
              by_cases hlk : k < E.length
              · obtain ⟨ad, hA, _, hc⟩ := (HE.out _ hbz).e_at hlk
                subst hA
                have H1 : Hid (cntE E (qB x y) (k + 1) = cntE E (qB x y) k + if ((ed E k).getLsbD x && (ed E k).getLsbD y) then 1 else 0) := Lib.hid rfl
                have H2 : Hid (cntE E (qX x y) (k + 1) = cntE E (qX x y) k + if ((ed E k).getLsbD x && !(ed E k).getLsbD y) then 1 else 0) := Lib.hid rfl
                have H3 : Hid (cntE E (qX y x) (k + 1) = cntE E (qX y x) k + if ((ed E k).getLsbD y && !(ed E k).getLsbD x) then 1 else 0) := Lib.hid rfl
                have i1 := inB_nat (ed E k) x
                have i2 := inB_nat (ed E k) y
                have b5 : (0 : Int) ≤ k := by omega
                have b6 : (k : Int) < E.length := by omega
                generalize (ed E k).getLsbD x = px at H1 H2 H3 i1
                generalize (ed E k).getLsbD y = py at H1 H2 H3 i2
                generalize ed E k = z at hc i1 i2
                generalize cntE E (qB x y) k = n1 at c1 H1 ⊢
                generalize cntE E (qX x y) k = n2 at c2 H2 ⊢
                generalize cntE E (qX y x) k = n3 at c3 H3 ⊢
                clear hno hno2
                cases px <;> cases py
                · have K1 : Hid (cntE E (qB x y) (k + 1) = n1) := Lib.hid H1.out
                  have K2 : Hid (cntE E (qX x y) (k + 1) = n2) := Lib.hid H2.out
                  have K3 : Hid (cntE E (qX y x) (k + 1) = n3) := Lib.hid H3.out
                  clear H1 H2 H3
                  go_wp2_with fail
                  go_quiet (first | (go_at_call 55; exact pure_quiet (in_any z _)))
                  go_wp2_with fail
                  go_roundw
                  case measure => simp [intOf]; omega
                  case rel => exact ⟨k + 1, by omega, by go_num, by rw [K1.out], by rw [K2.out], by rw [K3.out], below_drewN hbz _⟩
                · have K1 : Hid (cntE E (qB x y) (k + 1) = n1) := Lib.hid H1.out
                  have K2 : Hid (cntE E (qX x y) (k + 1) = n2) := Lib.hid H2.out
                  have K3 : Hid (cntE E (qX y x) (k + 1) = n3 + 1) := Lib.hid H3.out
                  clear H1 H2 H3
                  go_wp2_with fail
                  go_quiet (first | (go_at_call 55; exact pure_quiet (in_any z _)))
                  go_wp2_with fail
                  go_roundw
                  case measure => simp [intOf]; omega
                  case rel => exact ⟨k + 1, by omega, by go_num, by rw [K1.out], by rw [K2.out], by rw [K3.out]; go_num, below_drewN hbz _⟩
                · have K1 : Hid (cntE E (qB x y) (k + 1) = n1) := Lib.hid H1.out
                  have K2 : Hid (cntE E (qX x y) (k + 1) = n2 + 1) := Lib.hid H2.out
                  have K3 : Hid (cntE E (qX y x) (k + 1) = n3) := Lib.hid H3.out
                  clear H1 H2 H3
                  go_wp2_with fail
                  go_quiet (first | (go_at_call 55; exact pure_quiet (in_any z _)))
                  go_wp2_with fail
                  go_roundw
                  case measure => simp [intOf]; omega
                  case rel => exact ⟨k + 1, by omega, by go_num, by rw [K1.out], by rw [K2.out]; go_num, by rw [K3.out], below_drewN hbz _⟩
                · have K1 : Hid (cntE E (qB x y) (k + 1) = n1 + 1) := Lib.hid H1.out
                  have K2 : Hid (cntE E (qX x y) (k + 1) = n2) := Lib.hid H2.out
                  have K3 : Hid (cntE E (qX y x) (k + 1) = n3) := Lib.hid H3.out
                  clear H1 H2 H3
                  go_wp2_with fail
                  go_quiet (first | (go_at_call 55; exact pure_quiet (in_any z _)))
                  go_wp2_with fail
                  go_roundw
                  case measure => simp [intOf]; omega
                  case rel => exact ⟨k + 1, by omega, by go_num, by rw [K1.out]; go_num, by rw [K2.out], by rw [K3.out], below_drewN hbz _⟩
              · obtain rfl : k = E.length := by omega
                have HCL : Hid (clashB E head x y = ((bothX E x y && onlyX E x y && onlyX E y x && decide (x < y)) || (bothX E x y && !onlyX E x y && onlyX E y x && head.getLsbD x && !head.getLsbD y))) := Lib.hid rfl
                rw [bothX_cnt, onlyX_cnt E x y, onlyX_cnt E y x] at HCL
                have HR : Hid (clashB E head x y = false → ∀ b : Nat, b < y + 1 → clashB E head x b = false) := Lib.hid fun e b hb => by
                  rcases Nat.lt_or_ge b y with h | h
                  · exact hno2.out b h
                  · obtain rfl : b = y := by omega
                    exact e
                have HT : Hid (clashB E head x y = true → ClashIs n E head x y true 0) := Lib.hid fun e => .inr (.inr ⟨HV.out, rfl, rfl, x, y, rfl, rfl, b2, b4, e, hno.out, fun d hd => hno2.out d hd⟩)
                have i1 := inB_nat head x
                have i2 := inB_nat head y
                have hBz : Below w.heap.size w wr := hB1.trans (hbz.mono hB1.size)
                clear hno hno2
                generalize clashB E head x y = K at HCL HR HT
                generalize cntE E (qB x y) E.length = n1 at c1 HCL ⊢
                generalize cntE E (qX x y) E.length = n2 at c2 HCL ⊢
                generalize cntE E (qX y x) E.length = n3 at c3 HCL ⊢
                generalize head.getLsbD x = p at HCL i1
                generalize head.getLsbD y = q at HCL i2
                have HD : Hid ((n1 = 0 ∧ K = false) ∨ (0 < n1 ∧ n2 = 0 ∧ n3 = 0 ∧ K = false) ∨ (0 < n1 ∧ n2 = 0 ∧ 0 < n3 ∧ p = false ∧ K = false) ∨ (0 < n1 ∧ n2 = 0 ∧ 0 < n3 ∧ p = true ∧ q = true ∧ K = false) ∨ (0 < n1 ∧ n2 = 0 ∧ 0 < n3 ∧ p = true ∧ q = false ∧ K = true) ∨ (0 < n1 ∧ 0 < n2 ∧ n3 = 0 ∧ K = false) ∨ (0 < n1 ∧ 0 < n2 ∧ 0 < n3 ∧ x < y ∧ K = true) ∨ (0 < n1 ∧ 0 < n2 ∧ 0 < n3 ∧ ¬ x < y ∧ K = false)) := Lib.hid (clash_tree HCL.out)
                clear HCL
                rcases HD.out with ⟨rfl, hK⟩ | ⟨z1, rfl, rfl, hK⟩ | ⟨z1, rfl, z3, rfl, hK⟩ | ⟨z1, rfl, z3, rfl, rfl, hK⟩ | ⟨z1, rfl, z3, rfl, rfl, hK⟩ | ⟨z1, z2, rfl, hK⟩ | ⟨z1, z2, z3, hxy, hK⟩ | ⟨z1, z2, z3, hxy, hK⟩
                all_goals clear HD
                all_goals try have g1 : decide (0 < n1) = true := decide_eq_true z1
                all_goals try have g2 : decide (0 < n2) = true := decide_eq_true z2
                all_goals try have g3 : decide (0 < n3) = true := decide_eq_true z3
                all_goals try have e2 : (n2 == 0) = false := by rw [beq_eq_false_iff_ne]; omega
                all_goals try have e3 : ((n2 : Int) == 0) = false := by rw [beq_eq_false_iff_ne]; omega
                all_goals try have f1 : decide (x < y) = true := decide_eq_true (by omega)
                all_goals try have f1 : decide (x < y) = false := decide_eq_false (by omega)
                all_goals try clear z1
                all_goals try clear z2
                all_goals try clear z3
                all_goals try clear hxy
                all_goals first
                  | (have HF := Lib.hid (HR.out hK)
                     clear hK HT HR
                     go_wp2_with (go_at_call 55; refine (in_any _ _ _).mono ?_; rintro e w' ⟨rfl, rfl⟩)
                     go_roundg (n - (y + 1))
                     case measure => omega
                     case rel => exact ⟨y + 1, by omega, rfl, by go_num, HF, hbz⟩)
                  | (have HF := Lib.hid (HT.out hK)
                     clear hK HT HR
                     go_wp2_with (go_at_call 55; refine (in_any _ _ _).mono ?_; rintro e w' ⟨rfl, rfl⟩)
                     refine bodyPost_ret (v := .tuple #[.int .i64 x, .int .i64 y, .bool true, .int .i64 0]) (by simp [results, Tryd.results101, go_sem]) rfl ?_
                     exact ⟨_, _, _, _, rfl, HF, hBz⟩)
          · obtain rfl : y = n := by omega
            go_wp2_with fail
            go_roundw
            case rel =>
              refine ⟨x + 1, by omega, by go_num, Lib.hid fun a b ha hb => ?_, hby⟩
              rcases Nat.lt_or_ge a x with h | h
              · exact hno.out a b h hb
              · obtain rfl : a = x := by omega
                exact hno2.out b (by omega)
            case measure => simp [intOf]; omega
      · obtain rfl : x = n := by omega
        have HC : Hid (ClashIs x E head 0 0 false 0) := Lib.hid (.inr (.inl ⟨HV.out, rfl, rfl, rfl, rfl, fun a b ha hb => hno.out a b (by omega) hb⟩))
        go_wp2_with fail
        refine bodyPost_ret (v := .tuple #[.int .i64 0, .int .i64 0, .bool false, .int .i64 0]) (by simp [results, Tryd.results101, go_sem]) rfl ?_
        exact ⟨_, _, _, _, rfl, HC, hB1.trans (hbx.mono hB1.size)⟩
end Go.Proofs.YtbgbjodehbcgiaaDoor

/- The plain laws of ClassifyChain and ClassifyAlike. -/
namespace Go.Proofs.YtbgbjodehbcgiaaDoor

theorem cov_out {V : Int} {E : List (BitVec 32)} (h : validB V E = true) : outB V (covB E) = false := by
  obtain ⟨h0, h1, _, _⟩ := validB_of h
  refine outB_false_of h0 h1 fun v hvv hk => ?_
  rw [inB_nat]
  cases d : (covB E).getLsbD v
  · rfl
  · obtain ⟨e, he, hh⟩ := (hv_cov E v).1 d
    have := outB_true_of h0 h1 (k := v) hvv (x := e) (by rw [inB_nat]; exact hh)
    rw [validB_out h e he] at this
    cases this
theorem ext_valid {V : Int} {E : List (BitVec 32)} {head : BitVec 32} (hg : goodB V E = true) : validB V (extE E head) = true := by
  obtain ⟨hv, h6⟩ := goodB_iff.1 hg
  obtain ⟨h0, h1, _, _⟩ := validB_of hv
  refine validB_mk h0 h1 (by rw [extE_length]; omega) fun e he => ?_
  rcases mem_ext.1 he with h | rfl
  · exact validB_out hv e h
  · exact outB_andl head (cov_out hv)
theorem noknot_cover {E : List (BitVec 32)} {x : BitVec 32} (hx : ∀ e ∈ E, ∀ v, hv e v → hv x v) : ¬ ∃ R, Knot (E ++ [x]) R := by
  rintro ⟨R, k⟩
  have hl : (E ++ [x]).length = E.length + 1 := by simp
  obtain ⟨i, hi, hp⟩ := k.part E.length (by omega)
  rw [ed_app, if_neg (Nat.lt_irrefl _), if_pos rfl] at hp
  have all : ∀ a, a < R.length → a = i := fun a ha => by
    refine k.anti a i ha hi fun v hav => ?_
    obtain ⟨j, hj, e⟩ := k.edge _ (ed_mem R a ha)
    obtain ⟨h1, h2⟩ := (e v).1 hav
    refine hp v ?_ h2
    rw [ed_app] at h1
    by_cases c : j < E.length
    · rw [if_pos c] at h1; exact hx _ (ed_mem E j c) v h1
    · rw [if_neg c, if_pos (by omega)] at h1; exact h1
  obtain ⟨v0, h0⟩ := k.ne
  obtain ⟨a, b, ha, hb, hab, _, _⟩ := k.twice v0 h0
  exact hab ((all a ha).trans (all b hb).symm)
theorem knot_zero {E R : List (BitVec 32)} (k : Knot (E ++ [0#32]) R) : Knot E R := by
  have hl : (E ++ [0#32]).length = E.length + 1 := by simp
  refine ⟨k.ne, k.anti, k.twice, fun a ha => ?_, fun j hj => ?_⟩
  · obtain ⟨j, hj, e⟩ := k.edge a ha
    by_cases c : j < E.length
    · rw [ed_app, if_pos c] at e; exact ⟨j, c, e⟩
    · exfalso
      rw [ed_app, if_neg c, if_pos (by omega)] at e
      obtain ⟨q, hq, rfl⟩ := mem_ed ha
      have hz : ∀ i, i < R.length → q = i := fun i hi => k.anti q i hq hi fun v hh => absurd ((e v).1 hh).1 (hv_zero v)
      obtain ⟨v0, h0⟩ := k.ne
      obtain ⟨a, b, ha, hb, hab, _, _⟩ := k.twice v0 h0
      exact hab ((hz a ha).symm.trans (hz b hb))
  · obtain ⟨i, hi, h⟩ := k.part j (by omega)
    rw [ed_app, if_pos hj] at h
    exact ⟨i, hi, h⟩
theorem clash_hier {V : Int} {E : List (BitVec 32)} {head : BitVec 32} {p q : Int} {ok : Bool} (hg : goodB V E = true) (h : ClashIs V E head p q ok 0) : ok = !hierB V.toNat E head := by
  obtain ⟨h0, h1, _, _⟩ := validB_of (goodB_iff.1 hg).1
  rcases h with ⟨g, _⟩ | ⟨_, _, _, rfl, _, hn⟩ | ⟨_, rfl, _, a, b, _, _, ha, hb, hc, _⟩
  · rw [hg] at g; cases g
  · have : hierB V.toNat E head = true := hierB_iff.2 fun a b ha hb => hn a b (by omega) (by omega)
    rw [this]; rfl
  · have : hierB V.toNat E head = false := by
      rw [← Bool.not_eq_true]
      intro hh
      have := hierB_iff.1 hh a b (by omega) (by omega)
      rw [hc] at this; cases this
    rw [this]; rfl
theorem class_of {V : Int} {E : List (BitVec 32)} {head : BitVec 32} {a x h : Bool} {c : Int} (hg : goodB V E = true) (K : ClassIs V E head a x h c) : a = acyB V E ∧ x = (acyB V E && acyB V (extE E head)) ∧ h = hierB V.toNat E head ∧ c = 0 := by
  rcases K with ⟨g, _⟩ | ⟨_, ha, hx, hc, p, q, hC⟩
  · rw [hg] at g; cases g
  · refine ⟨ha, hx, ?_, hc⟩
    have := clash_hier hg hC
    cases h <;> cases d : hierB V.toNat E head <;> rw [d] at this <;> simp at this ⊢
theorem class_not {V : Int} {E : List (BitVec 32)} {head : BitVec 32} {a x h : Bool} {c : Int} (hg : goodB V E = false) (K : ClassIs V E head a x h c) : a = false ∧ x = false ∧ h = false ∧ c = 140 := by
  rcases K with ⟨_, h⟩ | ⟨g, _⟩
  · exact h
  · rw [hg] at g; cases g
theorem class_uniq {V : Int} {E : List (BitVec 32)} {head : BitVec 32} {a x h a' x' h' : Bool} {c c' : Int} (K : ClassIs V E head a x h c) (K' : ClassIs V E head a' x' h' c') : a = a' ∧ x = x' ∧ h = h' ∧ c = c' := by
  cases hg : goodB V E
  · obtain ⟨rfl, rfl, rfl, rfl⟩ := class_not hg K
    obtain ⟨rfl, rfl, rfl, rfl⟩ := class_not hg K'
    exact ⟨rfl, rfl, rfl, rfl⟩
  · obtain ⟨rfl, rfl, rfl, rfl⟩ := class_of hg K
    obtain ⟨rfl, rfl, rfl, rfl⟩ := class_of hg K'
    exact ⟨rfl, rfl, rfl, rfl⟩
theorem good_lt {V : Int} {E : List (BitVec 32)} (hg : goodB V E = true) : ∀ e ∈ E, ∀ v, hv e v → v < V.toNat := fun e he v hh => by
  obtain ⟨hv, _⟩ := goodB_iff.1 hg
  obtain ⟨h0, h1, _, _⟩ := validB_of hv
  apply Classical.byContradiction
  intro c
  have := outB_true_of h0 h1 (k := v) (by omega) (x := e) (by rw [inB_nat]; exact hh)
  rw [validB_out hv e he] at this
  cases this
theorem chain_law {V : Int} {E : List (BitVec 32)} {head ones : BitVec 32} {a x h a1 x1 h1 a0 x0 h0 : Bool} {c c1 c0 : Int} (ho : ∀ v, v < 32 → hv ones v) (K : ClassIs V E head a x h c) (K1 : ClassIs V E ones a1 x1 h1 c1) (K0 : ClassIs V E 0#32 a0 x0 h0 c0) :
    (c = 140 ∧ a = false ∧ x = false ∧ h = false) ∨ (c = 0 ∧ (h = true → x = true) ∧ (x = true → a = true) ∧ a1 = a ∧ a0 = a ∧ x1 = a ∧ x0 = a ∧ h1 = h0) := by
  cases hg : goodB V E
  · obtain ⟨rfl, rfl, rfl, rfl⟩ := class_not hg K
    exact .inl ⟨rfl, rfl, rfl, rfl⟩
  · obtain ⟨rfl, rfl, rfl, rfl⟩ := class_of hg K
    obtain ⟨rfl, rfl, rfl, rfl⟩ := class_of hg K1
    obtain ⟨rfl, rfl, rfl, rfl⟩ := class_of hg K0
    obtain ⟨hv, h6⟩ := goodB_iff.1 hg
    have hlt := good_lt hg
    have hP : ∀ head, hierB V.toNat E head = true ↔ HierP E head := fun head => hierP_iff hlt
    refine .inr ⟨rfl, fun hh => ?_, fun hx => ?_, rfl, rfl, ?_, ?_, ?_⟩
    · obtain ⟨j1, j2⟩ := hier_connex h6 ((hP head).1 hh)
      rw [(acyB_iff hv).2 j2, (acyB_iff (ext_valid hg)).2 j1]; rfl
    · rw [Bool.and_eq_true] at hx; exact hx.1
    · have : acyB V (extE E ones) = true := (acyB_iff (ext_valid hg)).2 ((jt_iff (by rw [extE_length]; omega)).2 (noknot_cover fun e he v hh => (hv_and _ _ _).2 ⟨ho v (hv_lt hh), (hv_cov E v).2 ⟨e, he, hh⟩⟩))
      rw [this, Bool.and_true]
    · cases d : acyB V E
      · rfl
      · have hj := (acyB_iff hv).1 d
        have : acyB V (extE E 0#32) = true := (acyB_iff (ext_valid hg)).2 ((jt_iff (by rw [extE_length]; omega)).2 (by
          rintro ⟨R, k⟩
          unfold extE at k
          rw [BitVec.zero_and] at k
          exact (jt_iff (by omega)).1 hj ⟨R, knot_zero k⟩))
        rw [this]; rfl
    · rw [Bool.eq_iff_iff, hP, hP]
      exact ⟨fun k => k.none, fun k => k.full fun v ⟨e, _, hh⟩ => ho v (hv_lt hh)⟩
theorem alike_law {V : Int} {E F : List (BitVec 32)} {head head2 : BitVec 32} {a x h a' x' h' : Bool} {c c' : Int} (hg : goodB V E = true) (hgF : goodB V F = true) (hm : ∀ a, a ∈ E ↔ a ∈ F) (hh : ∀ v, v < V.toNat → (hv head v ↔ hv head2 v)) (K : ClassIs V E head a x h c) (K' : ClassIs V F head2 a' x' h' c') : a = a' ∧ x = x' ∧ h = h' ∧ c' = 0 := by
  obtain ⟨rfl, rfl, rfl, rfl⟩ := class_of hg K
  obtain ⟨rfl, rfl, rfl, rfl⟩ := class_of hgF K'
  obtain ⟨hv1, h6⟩ := goodB_iff.1 hg
  obtain ⟨hv2, k6⟩ := goodB_iff.1 hgF
  have hlt := good_lt hg
  have hh1 : ∀ v, (∃ e ∈ E, hv e v) → (hv head v ↔ hv head2 v) := fun v ⟨e, he, k⟩ => hh v (hlt e he v k)
  have hh2 : ∀ v, (∃ e ∈ F, hv e v) → (hv head2 v ↔ hv head v) := fun v ⟨e, he, k⟩ => (hh v (good_lt hgF e he v k)).symm
  have e1 : acyB V E = acyB V F := by
    rw [Bool.eq_iff_iff, acyB_iff hv1, acyB_iff hv2]
    exact jt_mem (by omega) (by omega) hm
  have e2 : acyB V (extE E head) = acyB V (extE F head2) := by
    rw [Bool.eq_iff_iff, acyB_iff (ext_valid hg), acyB_iff (ext_valid hgF)]
    exact jt_mem (by rw [extE_length]; omega) (by rw [extE_length]; omega) (ext_mem hm hh1)
  refine ⟨e1, by rw [e1, e2], ?_, rfl⟩
  rw [Bool.eq_iff_iff, hierP_iff hlt, hierP_iff (good_lt hgF)]
  exact ⟨fun k => k.mem hm hh1, fun k => k.mem (fun a => (hm a).symm) hh2⟩
end Go.Proofs.YtbgbjodehbcgiaaDoor

/- The contract of osierref17.Classify. -/
namespace Go.Proofs.YtbgbjodehbcgiaaDoor
open Go.RowKit

theorem exists_acy {V : Nat} {E : List (BitVec 32)} (hv : validB V E = true) : existsB V E = acyB V E := by
  rw [Bool.eq_iff_iff, acyB_iff hv]
  exact existsB_iff (fun i v hi hh => ed_lt hv i v hi hh)

set_option maxHeartbeats 40000000 in
set_option maxRecDepth 100000 in
theorem r17classify_any (V : Int) (A : Option Addr) (E : List (BitVec 32)) (c : Nat) (head : BitVec 32) (w : World) (hl : E.length ≤ 35184372087808) (hE : Rd w w.heap.size A (us E)) :
    Calls Tryd.prog 52 #[.agg #[.int .i64 V, .slice A E.length c], .int .u32 (uz head)] w fun e w' => ∃ (a x h : Bool) (code : Int), e = .returned (.tuple #[.bool a, .bool x, .bool h, .int .i64 code]) ∧ Hid (ClassIs V E head a x h code) ∧ Below w.heap.size w w' := by
  go_enter Tryd.func52, Tryd.ntmps52
  go_wp2_with fail
  have hb0 := below_alloc w (.cells #[.int .i64 V, .slice A E.length c] 28)
  have hG0 : Row (w.alloc (.cells #[.int .i64 V, .slice A E.length c] 28)) w.heap.size 28 [.int .i64 V, .slice A E.length c] := Row.new _ _ _
  generalize w.alloc _ = w0 at hb0 hG0 ⊢
  refine (r17extended_any V A E c head w0 hl (hE.later hb0)).mono ?_
  rintro e w1 ⟨V', v, F, code, rfl, hown, hX, hb1⟩
  obtain ⟨A1, c1, rfl, _, _, hF1, _⟩ := Rd.of_own hown
  have hB1 := bthen hb0 hb1
  have hG1 := hG0.later hb1
  have hE1 := hE.later hB1
  clear hown hb0 hG0 hb1 hE
  rcases hX.out with ⟨hg, rfl, rfl, rfl⟩ | ⟨hg, rfl, rfl, rfl⟩
  · have HC : Hid (ClassIs V E head false false false 140) := Lib.hid (.inl ⟨hg, rfl, rfl, rfl, rfl⟩)
    clear hX hg
    go_wp2_with fail
    refine bodyPost_ret (v := .tuple #[.bool false, .bool false, .bool false, .int .i64 140]) (by simp [results, Tryd.results52, go_sem]) rfl ?_
    exact ⟨_, _, _, _, rfl, HC, hB1.trans (below_alloc _ _ |>.mono hB1.size)⟩
  · have HG := Lib.hid hg
    have h6 : E.length ≤ 6 := (goodB_iff.1 hg).2
    obtain ⟨hV0, hV30, _, _⟩ := validB_of (goodB_iff.1 hg).1
    obtain ⟨n, rfl⟩ : ∃ n : Nat, V' = n := ⟨V'.toNat, by omega⟩
    have hl7 : (extE E head).length ≤ 7 := by rw [extE_length]; omega
    have HX1 : Hid (∀ w, Rd w w.heap.size A (us E) → Calls Tryd.prog 100 #[.agg #[.int .i64 n, .slice A E.length c]] w fun e w' => e = .returned (.bool (acyB n E)) ∧ Below w.heap.size w w') := Lib.hid fun w hw => by
      rw [← exists_acy (goodB_iff.1 hg).1]
      exact exists_any n A E c w (by omega) (by omega) hw
    have HX2 : Hid (∀ w, Rd w w.heap.size A1 (us (extE E head)) → Calls Tryd.prog 100 #[.agg #[.int .i64 n, .slice A1 (extE E head).length c1]] w fun e w' => e = .returned (.bool (acyB n (extE E head))) ∧ Below w.heap.size w w') := Lib.hid fun w hw => by
      rw [← exists_acy (ext_valid hg)]
      exact exists_any n A1 _ c1 w (by omega) hl7 hw
    clear hX hg hV0 hV30
    go_upto_region 2 with fail
    generalize hFL : extE E head = F at hF1 HX2 hl7 ⊢
    have HFL := Lib.hid hFL
    clear hFL
    have hb2 := below_alloc w1 (.cells #[.int .i64 n, .slice A1 F.length c1] 28)
    have hI2 : Row (w1.alloc (.cells #[.int .i64 n, .slice A1 F.length c1] 28)) w1.heap.size 28 [.int .i64 n, .slice A1 F.length c1] := Row.new _ _ _
    have hB2 := bthen hB1 hb2
    have hG2 := hG1.later hb2
    have hE2 := hE1.later hb2
    have hF2 := hF1.later hb2
    generalize w1.heap.size = q at hI2 ⊢
    generalize w1.alloc _ = w2 at hB2 hG2 hE2 hF2 hI2 ⊢
    have d0 : w2.cell? ⟨w.heap.size, 0, none⟩ = some (.int .i64 n) := hG2.cell 0
    have d1 : w2.cell? ⟨w.heap.size, 1, none⟩ = some (.slice A E.length c) := hG2.cell 1
    clear hb2 hB1 hG1 hE1 hF1
    go_wp2_with fail
    refine (HX1.out w2 hE2).mono ?_
    rintro e w3 ⟨rfl, hb3⟩
    have hB3 := bthen hB2 hb3
    have hG3 := hG2.later hb3
    have hE3 := hE2.later hb3
    have hI3 := hI2.later hb3
    have hF3 := hF2.later hb3
    clear d0 d1 hB2 hG2 hE2 hI2 hF2 hb3 HX1
    have d0 : w3.cell? ⟨w.heap.size, 0, none⟩ = some (.int .i64 n) := hG3.cell 0
    have d1 : w3.cell? ⟨w.heap.size, 1, none⟩ = some (.slice A E.length c) := hG3.cell 1
    go_wp2_with fail
    refine (r17clash_any n A E c head w3 hl hE3).mono ?_
    rintro e w4 ⟨x, y, ok, code, rfl, hCL, hb4⟩
    have hB4 := bthen hB3 hb4
    have hI4 := hI3.later hb4
    have hF4 := hF3.later hb4
    have hc0 : code = 0 := by
      rcases hCL.out with ⟨a, _⟩ | ⟨_, _, _, _, a, _⟩ | ⟨_, _, a, _⟩
      · rw [HG.out] at a; cases a
      · exact a
      · exact a
    subst hc0
    have HC : Hid (ClassIs n E head (acyB n E) (acyB n E && acyB n F) (!ok) 0) := Lib.hid (.inr ⟨HG.out, rfl, by rw [HFL.out], rfl, x, y, by rw [Bool.not_not]; exact hCL.out⟩)
    clear hCL d0 d1 hB3 hG3 hE3 hI3 hF3 hb4
    generalize acyB n E = a1 at HC ⊢
    have d0 : w4.cell? ⟨q, 0, none⟩ = some (.int .i64 n) := hI4.cell 0
    have d1 : w4.cell? ⟨q, 1, none⟩ = some (.slice A1 F.length c1) := hI4.cell 1
    cases a1
    · go_wp2_with fail
      refine bodyPost_ret (v := .tuple #[.bool false, .bool false, .bool !ok, .int .i64 0]) (by simp [results, Tryd.results52, go_sem]) rfl ?_
      exact ⟨_, _, _, _, rfl, HC, hB4⟩
    · go_wp2_with fail
      refine (HX2.out w4 hF4).mono ?_
      rintro e w5 ⟨rfl, hb5⟩
      have hB5 := bthen hB4 hb5
      generalize acyB n F = a2 at HC ⊢
      go_wp2_with fail
      refine bodyPost_ret (v := .tuple #[.bool true, .bool a2, .bool !ok, .int .i64 0]) (by simp [results, Tryd.results52, go_sem]) rfl ?_
      exact ⟨_, _, _, _, rfl, HC, hB5⟩
end Go.Proofs.YtbgbjodehbcgiaaDoor
