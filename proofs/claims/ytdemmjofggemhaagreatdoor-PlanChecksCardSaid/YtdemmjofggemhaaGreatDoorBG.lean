/- Several texts in one: C17a C17b C17c C17d C17e C17f ClassLaw2 C17g. -/
import Derived.Test.YtdemmjofggemhaaGreatDoorBF
import Derived.Test.YtdemmjofggemhaaGreatDoorBD
import Derived.Deep.RegionHeld3
import Derived.Test.YtdemmjofggemhaaGreatDoorBE
/- The contracts of classify.good, covered, Extended and of osierref17.Good, Covered, Extended; of slices.Clone over words. -/
namespace Go.Proofs.YtdemmjofggemhaaGreatDoor
open Go.RowKit

attribute [local go_sem ↓] uz_and uz_or uz_andNot uz_and_one uz_shr uz_shl_one uz_shl uz_sub uz_sub_one uz_add uz_beq_zero uz_bne_zero uz_beq uz_bne uz_beq_one

def goodB (V : Int) (E : List (BitVec 32)) : Bool := validB V E && decide (E.length ≤ 6)
theorem goodB_iff {V : Int} {E : List (BitVec 32)} : goodB V E = true ↔ validB V E = true ∧ E.length ≤ 6 := by simp [goodB]
theorem goodB_valid {V : Int} {E : List (BitVec 32)} (h : validB V E = true) : goodB V E = decide (E.length ≤ 6) := by simp [goodB, h]
theorem goodB_not {V : Int} {E : List (BitVec 32)} (h : validB V E = false) : goodB V E = false := by simp [goodB, h]
theorem r17good_any (V : Int) (A : Option Addr) (E : List (BitVec 32)) (c : Nat) (w : World) (hl : E.length ≤ 35184372087808) (hE : Rd w w.heap.size A (us E)) :
    Calls Tryz.prog 37 #[.agg #[.int .i64 V, .slice A E.length c]] w fun e w' => e = .returned (.bool (goodB V E)) ∧ Below w.heap.size w w' := by
  go_enter Tryz.func37, Tryz.ntmps37
  go_wp2_with fail
  have hb0 := below_alloc w (.cells #[.int .i64 V, .slice A E.length c] 36)
  have hG0 : Row (w.alloc (.cells #[.int .i64 V, .slice A E.length c] 36)) w.heap.size 36 [.int .i64 V, .slice A E.length c] := Row.new _ _ _
  generalize w.alloc _ = w0 at hb0 hG0 ⊢
  refine (r14valid_any V A E c _ hl (hE.later hb0)).mono ?_
  rintro e w1 ⟨rfl, hb1⟩
  have hG1 := hG0.later hb1
  have d1 : w1.cell? ⟨w.heap.size, 1, none⟩ = some (.slice A E.length c) := hG1.cell 1
  have hB1 := bthen hb0 hb1
  cases hv : validB V E
  · have hg := goodB_not hv
    go_wp2_with fail
    go_ret
    exact ⟨by rw [hg]; rfl, hB1⟩
  · have hg := goodB_valid hv
    by_cases h6 : E.length ≤ 6
    · have e1 : decide ((E.length : Int) ≤ 6) = true := decide_eq_true (by omega)
      have hg2 : goodB V E = true := by rw [hg]; exact decide_eq_true h6
      clear h6 hg hv
      go_wp2_with fail
      go_ret
      exact ⟨by rw [hg2]; rfl, hB1⟩
    · have e1 : decide ((E.length : Int) ≤ 6) = false := decide_eq_false (by omega)
      have hg2 : goodB V E = false := by rw [hg]; exact decide_eq_false h6
      clear h6 hg hv
      go_wp2_with fail
      go_ret
      exact ⟨by rw [hg2]; rfl, hB1⟩
theorem orTo_succ (E : List (BitVec 32)) (k : Nat) : orTo E (k + 1) = orTo E k ||| ed E k := rfl
theorem r17covered_any (V : Int) (A : Option Addr) (E : List (BitVec 32)) (c : Nat) (w : World) (hl : E.length ≤ 35184372087808) (hE : Rd w w.heap.size A (us E)) :
    Calls Tryz.prog 55 #[.agg #[.int .i64 V, .slice A E.length c]] w fun e w' => e = .returned (.int .u32 (uz (covB E))) ∧ Below w.heap.size w w' := by
  go_enter Tryz.func55, Tryz.ntmps55
  go_upto_region 1 with fail
  have hb0 := below_alloc w (.cells #[.int .i64 V, .slice A E.length c] 36)
  have hG0 : Row (w.alloc (.cells #[.int .i64 V, .slice A E.length c] 36)) w.heap.size 36 [.int .i64 V, .slice A E.length c] := Row.new _ _ _
  generalize w.alloc _ = w0 at hb0 hG0 ⊢
  have d1 : w0.cell? ⟨w.heap.size, 1, none⟩ = some (.slice A E.length c) := hG0.cell 1
  have hE0 := hE.later hb0
  go_wp2_with fail
  go_loop [3, 4] (fun s i => ∃ k : Nat, k ≤ E.length ∧ i = .int .i64 k ∧ s = .int .u32 (uz (orTo E k))) (fun _ i => E.length - (intOf i).toNat)
  case atStart => exact ⟨0, Nat.zero_le _, rfl, rfl⟩
  case round =>
    obtain ⟨k, hk, rfl, rfl⟩ := hrel
    by_cases hlt : k < E.length
    · obtain ⟨ad, hA, _, hc⟩ := hE0.e_at hlt
      subst hA
      have HN := Lib.hid (orTo_succ E k)
      have a1 : (0 : Int) ≤ k := by omega
      have a2 : (k : Int) < E.length := by omega
      generalize ed E k = x at hc HN
      generalize orTo E k = s at HN ⊢
      have HAD := Lib.hid (add_less s x)
      go_wp2_with (go_at_call 84; refine (r14less_any _ _ _).mono ?_; rintro e w' ⟨rfl, rfl⟩)
      go_round
      case rel => exact ⟨k + 1, by omega, by go_num, by rw [HN.out, ← HAD.out]⟩
      case measure => simp [intOf]; omega
    · obtain rfl : k = E.length := by omega
      have HC : Hid (orTo E E.length = covB E) := rfl
      rw [HC.out]
      go_wp2_with fail
      go_ret
      exact ⟨rfl, hb0⟩
set_option maxRecDepth 100000 in
theorem clone_u32_any (ad : Addr) (E : List (BitVec 32)) (c : Nat) (w : World) (hl : E.length ≤ 100) (hE : Rd w w.heap.size (some ad) (us E)) :
    Calls Tryz.prog 25 #[.slice (some ad) E.length c] w fun e w' => ∃ v, e = .returned v ∧ w'.ownsRow w.heap.size 37 1 v E.length (us E) ∧ Below w.heap.size w w' := by
  obtain ⟨i, hi, hz, hs1, hb1⟩ := info_parts Tryz.info_u32
  have hnil : (binOp .eql 34 (.slice (some ad) E.length c) (.slice none 0 0)).run Tryz.prog w = .ok (.bool false) w := by
    simp [binOp, run_equal_slice_nil w 34 37 (some ad) E.length c Tryz.underlying34]
  go_enter Tryz.func25, Tryz.ntmps25
  go_wp2_with ((with_reducible show wpList _ _ _ _ _ _); refine wpList_append_own_at _ rfl (.tmp 5) (.tmp 6) 34 rfl w.heap.size 37 i (.int .u32 0) 1 4 Tryz.underlying34 hi hz hs1 hb1 rfl (by decide) _ 0 [] rfl (empty_own w 37) ad E.length c (us E) rfl (by simp) ((hE.below (below_alloc w _)).news) (us_one E) (by unfold maxLen; omega) (by omega) (by simp) ?_)
  intro v' w' hown hg _ _
  go_wp2_with fail
  go_ret
  exact ⟨_, rfl, hown, ((Below.refl _ _).alloc (Nat.le_refl _) _).grown hg (by simp) fun k hk => by
    simp only [Value.ownBlock, Option.some.injEq] at hk
    omega⟩

/-- What Extended answers. -/
def ExtIs (V : Int) (E : List (BitVec 32)) (head : BitVec 32) (V' : Int) (F : List (BitVec 32)) (code : Int) : Prop :=
  (goodB V E = false ∧ V' = 0 ∧ F = [] ∧ code = 140) ∨ (goodB V E = true ∧ V' = V ∧ F = extE E head ∧ code = 0)
set_option maxHeartbeats 4000000 in
set_option maxRecDepth 100000 in
theorem r17extended_any (V : Int) (A : Option Addr) (E : List (BitVec 32)) (c : Nat) (head : BitVec 32) (w : World) (hl : E.length ≤ 35184372087808) (hE : Rd w w.heap.size A (us E)) :
    Calls Tryz.prog 17 #[.agg #[.int .i64 V, .slice A E.length c], .int .u32 (uz head)] w fun e w' =>
      ∃ (V' : Int) (v : Value) (F : List (BitVec 32)) (code : Int), e = .returned (.tuple #[.agg #[.int .i64 V', v], .int .i64 code]) ∧ w'.ownsRow w.heap.size 37 1 v F.length (us F) ∧ Hid (ExtIs V E head V' F code) ∧ Below w.heap.size w w' := by
  go_enter Tryz.func17, Tryz.ntmps17
  go_wp2_with fail
  have hb0 : Below w.heap.size w ((w.alloc (.cells #[.int .i64 V, .slice A E.length c] 36)).alloc (.cells #[.int .i64 0, .slice none 0 0] 36)) := (below_alloc w _).alloc (by simp) _
  have hR0 : Row ((w.alloc (.cells #[.int .i64 V, .slice A E.length c] 36)).alloc (.cells #[.int .i64 0, .slice none 0 0] 36)) w.heap.size 36 [.int .i64 V, .slice A E.length c] := (Row.new w _ _).alloc _
  have hR1 : Row ((w.alloc (.cells #[.int .i64 V, .slice A E.length c] 36)).alloc (.cells #[.int .i64 0, .slice none 0 0] 36)) (w.heap.size + 1) 36 [.int .i64 0, .slice none 0 0] := Row.new_ (by simp)
  generalize (w.alloc (.cells #[.int .i64 V, .slice A E.length c] 36)).alloc _ = w0 at hb0 hR0 hR1 ⊢
  refine (r17good_any V A E c _ hl (hE.later hb0)).mono ?_
  rintro e w1 ⟨rfl, hb⟩
  have hb1 := bthen hb0 hb
  have hR0' := hR0.later hb
  have hR1' := hR1.later hb
  have c0 : w1.cell? ⟨w.heap.size, 0, none⟩ = some (.int .i64 V) := hR0'.cell 0
  have c1 : w1.cell? ⟨w.heap.size, 1, none⟩ = some (.slice A E.length c) := hR0'.cell 1
  have d0 : w1.cell? ⟨w.heap.size + 1, 0, none⟩ = some (.int .i64 0) := hR1'.cell 0
  have d1 : w1.cell? ⟨w.heap.size + 1, 1, none⟩ = some (.slice none 0 0) := hR1'.cell 1
  have df0 := hR1'.frozen 0
  have df1 := hR1'.frozen 1
  have hlt0 : w.heap.size < w1.heap.size := hR0'.lt
  have hlt1 : w.heap.size + 1 < w1.heap.size := hR1'.lt
  cases hv : goodB V E
  · go_wp2
    refine bodyPost_ret (v := .tuple #[.agg #[.int .i64 0, .slice none 0 0], .int .i64 140]) (by simp [results, Tryz.results17, go_sem, d0, d1]) rfl ?_
    exact ⟨0, _, [], 140, rfl, World.ownsRow_nil _ _ _ _, .inl ⟨hv, rfl, rfl, rfl⟩, (hb1.setCell (by simp) _).setCell (by simp) _⟩
  · have hE1 := hE.later hb1
    have h6 : E.length ≤ 6 := (goodB_iff.1 hv).2
    have HV := Lib.hid hv
    clear hv
    go_wp2_with fail
    refine (copy_any V A E c w1 hl hE1).mono ?_
    rintro e w2 ⟨g, rfl, hg, hRg, hb2⟩
    have hB2 := bthen hb1 hb2
    have hR2 := hR0'.later hb2
    have hS2 := hR1'.later hb2
    have hE2 := hE1.later hb2
    have hwg : w.heap.size ≤ g := Nat.le_trans hb1.size hg
    have HX : Hid (ExtIs V E head V (E ++ [head &&& covB E]) 0) := Lib.hid (.inr ⟨HV.out, rfl, rfl, rfl⟩)
    clear c0 c1 d0 d1 df0 df1 hb hb0 hR0 hR1 hR0' hR1' hlt0 hlt1
    have HCO := Lib.hid (fun w' hw => r17covered_any V A E c w' hl hw)
    generalize covB E = cv at HX HCO
    go_upto_region 4 with fail
    have hb3 := below_alloc w2 (.cells #[.int .i64 V, .slice (some ⟨g, 0, none⟩) E.length E.length] 36)
    have hI3 : Row (w2.alloc (.cells #[.int .i64 V, .slice (some ⟨g, 0, none⟩) E.length E.length] 36)) w2.heap.size 36 [.int .i64 V, .slice (some ⟨g, 0, none⟩) E.length E.length] := Row.new _ _ _
    have hB3 := bthen hB2 hb3
    have hR3 := hR2.later hb3
    have hS3 := hS2.later hb3
    have hE3 := hE2.later hb3
    have hRg3 := hRg.later hb3
    have hl3 := hS2.lt
    have hqw : w.heap.size + 1 < w2.heap.size := hl3
    generalize w2.heap.size = q at hI3 hqw ⊢
    generalize w2.alloc _ = w3 at hI3 hB3 hR3 hS3 hE3 hRg3 ⊢
    have hO3 : w3.ownsRow w.heap.size 37 1 (.slice (some ⟨g, 0, none⟩) E.length E.length) E.length (us E) := by
      have h0 := hRg3.own (base := w.heap.size) hwg (by unfold maxLen; simp; omega)
      rwa [us_length] at h0
    have c0 : w3.cell? ⟨w.heap.size, 0, none⟩ = some (.int .i64 V) := hR3.cell 0
    have c1 : w3.cell? ⟨w.heap.size, 1, none⟩ = some (.slice A E.length c) := hR3.cell 1
    have c2 : w3.cell? ⟨q, 1, none⟩ = some (.slice (some ⟨g, 0, none⟩) E.length E.length) := hI3.cell 1
    have hq3 := hI3.lt
    have hBO := Lib.hid (fun x y w => both_any x y w)
    clear hb2 hb3 hRg hl3 hR2 hS2 hE2 hB2 hE1 hb1 hg
    go_region_law (first | (refine step_u32 (wr := w4) rfl (.tmp 14) (.tmp 19) rfl w.heap.size (.slice (some ⟨g, 0, none⟩) E.length E.length) E (head &&& cv) (by first | rfl | go_simp) (by first | rfl | go_simp) hO4 (by omega) hB4.size ?_; intro g' c' w' hown' hgr' hb5 hg'; have hR5 := hR4.grown hgr' (own_row_ne hO4 hR4 (by decide)); have hS5 := hS4.grown hgr' (own_row_ne hO4 hS4 (by decide)); have hI5 := hI4.grown hgr' (own_row_ne hO4 hI4 (by decide)); have k0 : w'.cell? ⟨q, 1, none⟩ = some (.slice (some ⟨g, 0, none⟩) E.length E.length) := hI5.cell 1; have k1 := hI5.frozen 1) | (go_simp; go_at_call 54; refine (hBO.out _ _ _).mono ?_; rintro e w' ⟨rfl, rfl⟩) | (go_simp; go_at_call 55; refine (HCO.out w3.drew (show Rd w3.drew w3.drew.heap.size A (us E) from hE3)).mono ?_; rintro e w4 ⟨rfl, hb4⟩; replace hb4 := below_undrew hb4; have hR4 := hR3.later hb4; have hS4 := hS3.later hb4; have hI4 := hI3.later hb4; have hO4 := own_below hO3 hb4; have hB4 := bthen hB3 hb4; have m0 : w4.cell? ⟨q, 1, none⟩ = some (.slice (some ⟨g, 0, none⟩) E.length E.length) := hI4.cell 1; have m1 := hI4.lt))
    all_goals
      have hB6 := (hB4.trans hb5).setCell (p := ⟨q, 1, none⟩) (by simp; omega) (.slice (some ⟨g', 0, none⟩) (E.length + 1) c')
      have hI6 := hI5.set_ 1 (.slice (some ⟨g', 0, none⟩) (E.length + 1) c')
      have hS6 := hS5.far (p := ⟨q, 1, none⟩) (by simp; omega) (.slice (some ⟨g', 0, none⟩) (E.length + 1) c')
      have hown6 := own_grown hown' (grown_set (grown_below (Below.refl w'.heap.size w') (some q)) 1 (.slice (some ⟨g', 0, none⟩) (E.length + 1) c')) fun x hx => by injection hx with hx; subst hx; exact own_row_ne hown' hI5 (by decide)
      clear c0 c1 c2 m0 k0 k1 hown' hb5 hgr' hI5 hS5 hR5
      generalize w'.setCell _ _ = w6 at hB6 hI6 hS6 hown6 ⊢
      have k0 : w6.cell? ⟨q, 0, none⟩ = some (.int .i64 V) := hI6.cell 0
      have k1 : w6.cell? ⟨q, 1, none⟩ = some (.slice (some ⟨g', 0, none⟩) (E.length + 1) c') := hI6.cell 1
      have k2 : w6.cell? ⟨w.heap.size + 1, 0, none⟩ = some (.int .i64 0) := hS6.cell 0
      have k3 : w6.cell? ⟨w.heap.size + 1, 1, none⟩ = some (.slice none 0 0) := hS6.cell 1
      have k4 := hS6.frozen 0
      have k5 := hS6.frozen 1
      have k6 := hS6.lt
      go_wp2_with fail
      have z1 : ((w6.setCell ⟨w.heap.size + 1, 0, none⟩ (.int .i64 V)).setCell ⟨w.heap.size + 1, 1, none⟩ (.slice (some ⟨g', 0, none⟩) (E.length + 1) c')).cell? ⟨w.heap.size + 1, 0, none⟩ = some (.int .i64 V) := ((hS6.set_ 0 (.int .i64 V)).set_ 1 (.slice (some ⟨g', 0, none⟩) (E.length + 1) c')).cell 0
      have z2 : ((w6.setCell ⟨w.heap.size + 1, 0, none⟩ (.int .i64 V)).setCell ⟨w.heap.size + 1, 1, none⟩ (.slice (some ⟨g', 0, none⟩) (E.length + 1) c')).cell? ⟨w.heap.size + 1, 1, none⟩ = some (.slice (some ⟨g', 0, none⟩) (E.length + 1) c') := ((hS6.set_ 0 (.int .i64 V)).set_ 1 (.slice (some ⟨g', 0, none⟩) (E.length + 1) c')).cell 1
      refine bodyPost_ret (v := .tuple #[.agg #[.int .i64 V, .slice (some ⟨g', 0, none⟩) (E.length + 1) c'], .int .i64 0]) (by simp [results, Tryz.results17, go_sem, z1, z2]) rfl ?_
      refine ⟨V, _, _, 0, rfl, ?_, HX, (hB6.setCell (by simp) _).setCell (by simp) _⟩
      rw [List.length_append, List.length_singleton]
      refine own_grown hown6 (grown_set (grown_set (grown_below (Below.refl w6.heap.size w6) (some (w.heap.size + 1))) 0 _) 1 _) fun x hx => ?_
      injection hx with hx
      subst hx
      exact own_row_ne hown6 hS6 (by decide)
end Go.Proofs.YtdemmjofggemhaaGreatDoor

/- The contract of classify.where: the edges that have a vertex, as bits. -/
namespace Go.Proofs.YtdemmjofggemhaaGreatDoor
open Go.RowKit
attribute [local go_sem ↓] uz_and uz_or uz_andNot uz_and_one uz_shr uz_shl

end Go.Proofs.YtdemmjofggemhaaGreatDoor

/- The contract of classify.Clash. -/
namespace Go.Proofs.YtdemmjofggemhaaGreatDoor
open Go.RowKit
attribute [local go_sem ↓] uz_and uz_or uz_andNot uz_and_one uz_shr uz_shl_one uz_shl uz_sub uz_sub_one uz_add uz_beq_zero uz_bne_zero uz_beq uz_bne uz_beq_one
attribute [local go_sem ↓] Go.wp_at_zero Go.wp_at_succ

end Go.Proofs.YtdemmjofggemhaaGreatDoor

/- The contract of classify.Classify. -/
namespace Go.Proofs.YtdemmjofggemhaaGreatDoor
open Go.RowKit

end Go.Proofs.YtdemmjofggemhaaGreatDoor

/- The contract of osierlaw17.awake. -/
namespace Go.Proofs.YtdemmjofggemhaaGreatDoor
open Go.RowKit
end Go.Proofs.YtdemmjofggemhaaGreatDoor

/- The contract of osierref17.Clash. -/
namespace Go.Proofs.YtdemmjofggemhaaGreatDoor
open Go.RowKit
attribute [local go_sem ↓] uz_and uz_or uz_andNot uz_and_one uz_shr uz_shl_one uz_shl uz_sub uz_sub_one uz_add uz_beq_zero uz_bne_zero uz_beq uz_bne uz_beq_one
attribute [local go_sem ↓] Go.wp_at_zero Go.wp_at_succ

end Go.Proofs.YtdemmjofggemhaaGreatDoor

/- The plain laws of ClassifyChain and ClassifyAlike. -/
namespace Go.Proofs.YtdemmjofggemhaaGreatDoor

theorem cov_out {V : Int} {E : List (BitVec 32)} (h : validB V E = true) : outB V (covB E) = false := by
  obtain ⟨h0, h1, _, _⟩ := validB_of h
  refine outB_false_of h0 h1 fun v hvv hk => ?_
  rw [inB_nat]
  cases d : (covB E).getLsbD v
  · rfl
  · obtain ⟨e, he, hh⟩ := (hv_cov E v).1 d
    have := outB_true_of h0 h1 (k := v) hvv (x := e) (by rw [inB_nat]; exact hh)
    rw [validB_out h e he] at this
    cases this
theorem ext_valid {V : Int} {E : List (BitVec 32)} {head : BitVec 32} (hg : goodB V E = true) : validB V (extE E head) = true := by
  obtain ⟨hv, h6⟩ := goodB_iff.1 hg
  obtain ⟨h0, h1, _, _⟩ := validB_of hv
  refine validB_mk h0 h1 (by rw [extE_length]; omega) fun e he => ?_
  rcases mem_ext.1 he with h | rfl
  · exact validB_out hv e h
  · exact outB_andl head (cov_out hv)
end Go.Proofs.YtdemmjofggemhaaGreatDoor

/- The contract of osierref17.Classify. -/
namespace Go.Proofs.YtdemmjofggemhaaGreatDoor
open Go.RowKit

theorem exists_acy {V : Nat} {E : List (BitVec 32)} (hv : validB V E = true) : existsB V E = acyB V E := by
  rw [Bool.eq_iff_iff, acyB_iff hv]
  exact existsB_iff (fun i v hi hh => ed_lt hv i v hi hh)

end Go.Proofs.YtdemmjofggemhaaGreatDoor
