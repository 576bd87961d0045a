/- Several texts in one: C17a C17b C17c C17d C17e C17f ClassLaw2 C17g. -/
import Derived.Test.YtbgbjodehbcgiaaGreatDoorBF
import Derived.Test.YtbgbjodehbcgiaaGreatDoorBD
import Derived.Deep.RegionHeld3
import Derived.Test.YtbgbjodehbcgiaaGreatDoorBE
/- The contracts of classify.good, covered, Extended and of osierref17.Good, Covered, Extended; of slices.Clone over words. -/
namespace Go.Proofs.YtbgbjodehbcgiaaGreatDoor
open Go.RowKit

attribute [local go_sem ↓] uz_and uz_or uz_andNot uz_and_one uz_shr uz_shl_one uz_shl uz_sub uz_sub_one uz_add uz_beq_zero uz_bne_zero uz_beq uz_bne uz_beq_one

def goodB (V : Int) (E : List (BitVec 32)) : Bool := validB V E && decide (E.length ≤ 6)
theorem goodB_iff {V : Int} {E : List (BitVec 32)} : goodB V E = true ↔ validB V E = true ∧ E.length ≤ 6 := by simp [goodB]
theorem goodB_valid {V : Int} {E : List (BitVec 32)} (h : validB V E = true) : goodB V E = decide (E.length ≤ 6) := by simp [goodB, h]
theorem goodB_not {V : Int} {E : List (BitVec 32)} (h : validB V E = false) : goodB V E = false := by simp [goodB, h]
theorem r17good_any (V : Int) (A : Option Addr) (E : List (BitVec 32)) (c : Nat) (w : World) (hl : E.length ≤ 35184372087808) (hE : Rd w w.heap.size A (us E)) :
    Calls Tryz.prog 54 #[.agg #[.int .i64 V, .slice A E.length c]] w fun e w' => e = .returned (.bool (goodB V E)) ∧ Below w.heap.size w w' := by
  go_enter Tryz.func54, Tryz.ntmps54
  go_wp2_with fail
  have hb0 := below_alloc w (.cells #[.int .i64 V, .slice A E.length c] 46)
  have hG0 : Row (w.alloc (.cells #[.int .i64 V, .slice A E.length c] 46)) w.heap.size 46 [.int .i64 V, .slice A E.length c] := Row.new _ _ _
  generalize w.alloc _ = w0 at hb0 hG0 ⊢
  refine (r14valid_any V A E c _ hl (hE.later hb0)).mono ?_
  rintro e w1 ⟨rfl, hb1⟩
  have hG1 := hG0.later hb1
  have d1 : w1.cell? ⟨w.heap.size, 1, none⟩ = some (.slice A E.length c) := hG1.cell 1
  have hB1 := bthen hb0 hb1
  cases hv : validB V E
  · have hg := goodB_not hv
    go_wp2_with fail
    go_ret
    exact ⟨by rw [hg]; rfl, hB1⟩
  · have hg := goodB_valid hv
    by_cases h6 : E.length ≤ 6
    · have e1 : decide ((E.length : Int) ≤ 6) = true := decide_eq_true (by omega)
      have hg2 : goodB V E = true := by rw [hg]; exact decide_eq_true h6
      clear h6 hg hv
      go_wp2_with fail
      go_ret
      exact ⟨by rw [hg2]; rfl, hB1⟩
    · have e1 : decide ((E.length : Int) ≤ 6) = false := decide_eq_false (by omega)
      have hg2 : goodB V E = false := by rw [hg]; exact decide_eq_false h6
      clear h6 hg hv
      go_wp2_with fail
      go_ret
      exact ⟨by rw [hg2]; rfl, hB1⟩
theorem orTo_succ (E : List (BitVec 32)) (k : Nat) : orTo E (k + 1) = orTo E k ||| ed E k := rfl
theorem r17covered_any (V : Int) (A : Option Addr) (E : List (BitVec 32)) (c : Nat) (w : World) (hl : E.length ≤ 35184372087808) (hE : Rd w w.heap.size A (us E)) :
    Calls Tryz.prog 69 #[.agg #[.int .i64 V, .slice A E.length c]] w fun e w' => e = .returned (.int .u32 (uz (covB E))) ∧ Below w.heap.size w w' := by
  go_enter Tryz.func69, Tryz.ntmps69
  go_upto_region 1 with fail
  have hb0 := below_alloc w (.cells #[.int .i64 V, .slice A E.length c] 46)
  have hG0 : Row (w.alloc (.cells #[.int .i64 V, .slice A E.length c] 46)) w.heap.size 46 [.int .i64 V, .slice A E.length c] := Row.new _ _ _
  generalize w.alloc _ = w0 at hb0 hG0 ⊢
  have d1 : w0.cell? ⟨w.heap.size, 1, none⟩ = some (.slice A E.length c) := hG0.cell 1
  have hE0 := hE.later hb0
  go_wp2_with fail
  go_loop [3, 4] (fun s i => ∃ k : Nat, k ≤ E.length ∧ i = .int .i64 k ∧ s = .int .u32 (uz (orTo E k))) (fun _ i => E.length - (intOf i).toNat)
  case atStart => exact ⟨0, Nat.zero_le _, rfl, rfl⟩
  case round =>
    obtain ⟨k, hk, rfl, rfl⟩ := hrel
    by_cases hlt : k < E.length
    · obtain ⟨ad, hA, _, hc⟩ := hE0.e_at hlt
      subst hA
      have HN := Lib.hid (orTo_succ E k)
      have a1 : (0 : Int) ≤ k := by omega
      have a2 : (k : Int) < E.length := by omega
      generalize ed E k = x at hc HN
      generalize orTo E k = s at HN ⊢
      have HAD := Lib.hid (add_less s x)
      go_wp2_with (go_at_call 86; refine (r14less_any _ _ _).mono ?_; rintro e w' ⟨rfl, rfl⟩)
      go_round
      case rel => exact ⟨k + 1, by omega, by go_num, by rw [HN.out, ← HAD.out]⟩
      case measure => simp [intOf]; omega
    · obtain rfl : k = E.length := by omega
      have HC : Hid (orTo E E.length = covB E) := rfl
      rw [HC.out]
      go_wp2_with fail
      go_ret
      exact ⟨rfl, hb0⟩
set_option maxRecDepth 100000 in
theorem clone_u32_any (ad : Addr) (E : List (BitVec 32)) (c : Nat) (w : World) (hl : E.length ≤ 100) (hE : Rd w w.heap.size (some ad) (us E)) :
    Calls Tryz.prog 31 #[.slice (some ad) E.length c] w fun e w' => ∃ v, e = .returned v ∧ w'.ownsRow w.heap.size 47 1 v E.length (us E) ∧ Below w.heap.size w w' := by
  obtain ⟨i, hi, hz, hs1, hb1⟩ := info_parts Tryz.info_u32
  have hnil : (binOp .eql 44 (.slice (some ad) E.length c) (.slice none 0 0)).run Tryz.prog w = .ok (.bool false) w := by
    simp [binOp, run_equal_slice_nil w 44 47 (some ad) E.length c Tryz.underlying44]
  go_enter Tryz.func31, Tryz.ntmps31
  go_wp2_with ((with_reducible show wpList _ _ _ _ _ _); refine wpList_append_own_at _ rfl (.tmp 5) (.tmp 6) 44 rfl w.heap.size 47 i (.int .u32 0) 1 4 Tryz.underlying44 hi hz hs1 hb1 rfl (by decide) _ 0 [] rfl (empty_own w 47) ad E.length c (us E) rfl (by simp) ((hE.below (below_alloc w _)).news) (us_one E) (by unfold maxLen; omega) (by omega) (by simp) ?_)
  intro v' w' hown hg _ _
  go_wp2_with fail
  go_ret
  exact ⟨_, rfl, hown, ((Below.refl _ _).alloc (Nat.le_refl _) _).grown hg (by simp) fun k hk => by
    simp only [Value.ownBlock, Option.some.injEq] at hk
    omega⟩

/-- What Extended answers. -/
def ExtIs (V : Int) (E : List (BitVec 32)) (head : BitVec 32) (V' : Int) (F : List (BitVec 32)) (code : Int) : Prop :=
  (goodB V E = false ∧ V' = 0 ∧ F = [] ∧ code = 140) ∨ (goodB V E = true ∧ V' = V ∧ F = extE E head ∧ code = 0)
set_option maxHeartbeats 4000000 in
set_option maxRecDepth 100000 in
theorem r17extended_any (V : Int) (A : Option Addr) (E : List (BitVec 32)) (c : Nat) (head : BitVec 32) (w : World) (hl : E.length ≤ 35184372087808) (hE : Rd w w.heap.size A (us E)) :
    Calls Tryz.prog 21 #[.agg #[.int .i64 V, .slice A E.length c], .int .u32 (uz head)] w fun e w' =>
      ∃ (V' : Int) (v : Value) (F : List (BitVec 32)) (code : Int), e = .returned (.tuple #[.agg #[.int .i64 V', v], .int .i64 code]) ∧ w'.ownsRow w.heap.size 47 1 v F.length (us F) ∧ Hid (ExtIs V E head V' F code) ∧ Below w.heap.size w w' := by
  go_enter Tryz.func21, Tryz.ntmps21
  go_wp2_with fail
  have hb0 : Below w.heap.size w ((w.alloc (.cells #[.int .i64 V, .slice A E.length c] 46)).alloc (.cells #[.int .i64 0, .slice none 0 0] 46)) := (below_alloc w _).alloc (by simp) _
  have hR0 : Row ((w.alloc (.cells #[.int .i64 V, .slice A E.length c] 46)).alloc (.cells #[.int .i64 0, .slice none 0 0] 46)) w.heap.size 46 [.int .i64 V, .slice A E.length c] := (Row.new w _ _).alloc _
  have hR1 : Row ((w.alloc (.cells #[.int .i64 V, .slice A E.length c] 46)).alloc (.cells #[.int .i64 0, .slice none 0 0] 46)) (w.heap.size + 1) 46 [.int .i64 0, .slice none 0 0] := Row.new_ (by simp)
  generalize (w.alloc (.cells #[.int .i64 V, .slice A E.length c] 46)).alloc _ = w0 at hb0 hR0 hR1 ⊢
  refine (r17good_any V A E c _ hl (hE.later hb0)).mono ?_
  rintro e w1 ⟨rfl, hb⟩
  have hb1 := bthen hb0 hb
  have hR0' := hR0.later hb
  have hR1' := hR1.later hb
  have c0 : w1.cell? ⟨w.heap.size, 0, none⟩ = some (.int .i64 V) := hR0'.cell 0
  have c1 : w1.cell? ⟨w.heap.size, 1, none⟩ = some (.slice A E.length c) := hR0'.cell 1
  have d0 : w1.cell? ⟨w.heap.size + 1, 0, none⟩ = some (.int .i64 0) := hR1'.cell 0
  have d1 : w1.cell? ⟨w.heap.size + 1, 1, none⟩ = some (.slice none 0 0) := hR1'.cell 1
  have df0 := hR1'.frozen 0
  have df1 := hR1'.frozen 1
  have hlt0 : w.heap.size < w1.heap.size := hR0'.lt
  have hlt1 : w.heap.size + 1 < w1.heap.size := hR1'.lt
  cases hv : goodB V E
  · go_wp2
    refine bodyPost_ret (v := .tuple #[.agg #[.int .i64 0, .slice none 0 0], .int .i64 140]) (by simp [results, Tryz.results21, go_sem, d0, d1]) rfl ?_
    exact ⟨0, _, [], 140, rfl, World.ownsRow_nil _ _ _ _, .inl ⟨hv, rfl, rfl, rfl⟩, (hb1.setCell (by simp) _).setCell (by simp) _⟩
  · have hE1 := hE.later hb1
    have h6 : E.length ≤ 6 := (goodB_iff.1 hv).2
    have HV := Lib.hid hv
    clear hv
    go_wp2_with fail
    refine (copy_any V A E c w1 hl hE1).mono ?_
    rintro e w2 ⟨g, rfl, hg, hRg, hb2⟩
    have hB2 := bthen hb1 hb2
    have hR2 := hR0'.later hb2
    have hS2 := hR1'.later hb2
    have hE2 := hE1.later hb2
    have hwg : w.heap.size ≤ g := Nat.le_trans hb1.size hg
    have HX : Hid (ExtIs V E head V (E ++ [head &&& covB E]) 0) := Lib.hid (.inr ⟨HV.out, rfl, rfl, rfl⟩)
    clear c0 c1 d0 d1 df0 df1 hb hb0 hR0 hR1 hR0' hR1' hlt0 hlt1
    have HCO := Lib.hid (fun w' hw => r17covered_any V A E c w' hl hw)
    generalize covB E = cv at HX HCO
    go_upto_region 4 with fail
    have hb3 := below_alloc w2 (.cells #[.int .i64 V, .slice (some ⟨g, 0, none⟩) E.length E.length] 46)
    have hI3 : Row (w2.alloc (.cells #[.int .i64 V, .slice (some ⟨g, 0, none⟩) E.length E.length] 46)) w2.heap.size 46 [.int .i64 V, .slice (some ⟨g, 0, none⟩) E.length E.length] := Row.new _ _ _
    have hB3 := bthen hB2 hb3
    have hR3 := hR2.later hb3
    have hS3 := hS2.later hb3
    have hE3 := hE2.later hb3
    have hRg3 := hRg.later hb3
    have hl3 := hS2.lt
    have hqw : w.heap.size + 1 < w2.heap.size := hl3
    generalize w2.heap.size = q at hI3 hqw ⊢
    generalize w2.alloc _ = w3 at hI3 hB3 hR3 hS3 hE3 hRg3 ⊢
    have hO3 : w3.ownsRow w.heap.size 47 1 (.slice (some ⟨g, 0, none⟩) E.length E.length) E.length (us E) := by
      have h0 := hRg3.own (base := w.heap.size) hwg (by unfold maxLen; simp; omega)
      rwa [us_length] at h0
    have c0 : w3.cell? ⟨w.heap.size, 0, none⟩ = some (.int .i64 V) := hR3.cell 0
    have c1 : w3.cell? ⟨w.heap.size, 1, none⟩ = some (.slice A E.length c) := hR3.cell 1
    have c2 : w3.cell? ⟨q, 1, none⟩ = some (.slice (some ⟨g, 0, none⟩) E.length E.length) := hI3.cell 1
    have hq3 := hI3.lt
    have hBO := Lib.hid (fun x y w => both_any x y w)
    clear hb2 hb3 hRg hl3 hR2 hS2 hE2 hB2 hE1 hb1 hg
    go_region_law (first | (refine step_u32 (wr := w4) rfl (.tmp 14) (.tmp 19) rfl w.heap.size (.slice (some ⟨g, 0, none⟩) E.length E.length) E (head &&& cv) (by first | rfl | go_simp) (by first | rfl | go_simp) hO4 (by omega) hB4.size ?_; intro g' c' w' hown' hgr' hb5 hg'; have hR5 := hR4.grown hgr' (own_row_ne hO4 hR4 (by decide)); have hS5 := hS4.grown hgr' (own_row_ne hO4 hS4 (by decide)); have hI5 := hI4.grown hgr' (own_row_ne hO4 hI4 (by decide)); have k0 : w'.cell? ⟨q, 1, none⟩ = some (.slice (some ⟨g, 0, none⟩) E.length E.length) := hI5.cell 1; have k1 := hI5.frozen 1) | (go_simp; go_at_call 68; refine (hBO.out _ _ _).mono ?_; rintro e w' ⟨rfl, rfl⟩) | (go_simp; go_at_call 69; refine (HCO.out w3.drew (show Rd w3.drew w3.drew.heap.size A (us E) from hE3)).mono ?_; rintro e w4 ⟨rfl, hb4⟩; replace hb4 := below_undrew hb4; have hR4 := hR3.later hb4; have hS4 := hS3.later hb4; have hI4 := hI3.later hb4; have hO4 := own_below hO3 hb4; have hB4 := bthen hB3 hb4; have m0 : w4.cell? ⟨q, 1, none⟩ = some (.slice (some ⟨g, 0, none⟩) E.length E.length) := hI4.cell 1; have m1 := hI4.lt))
    all_goals
      have hB6 := (hB4.trans hb5).setCell (p := ⟨q, 1, none⟩) (by simp; omega) (.slice (some ⟨g', 0, none⟩) (E.length + 1) c')
      have hI6 := hI5.set_ 1 (.slice (some ⟨g', 0, none⟩) (E.length + 1) c')
      have hS6 := hS5.far (p := ⟨q, 1, none⟩) (by simp; omega) (.slice (some ⟨g', 0, none⟩) (E.length + 1) c')
      have hown6 := own_grown hown' (grown_set (grown_below (Below.refl w'.heap.size w') (some q)) 1 (.slice (some ⟨g', 0, none⟩) (E.length + 1) c')) fun x hx => by injection hx with hx; subst hx; exact own_row_ne hown' hI5 (by decide)
      clear c0 c1 c2 m0 k0 k1 hown' hb5 hgr' hI5 hS5 hR5
      generalize w'.setCell _ _ = w6 at hB6 hI6 hS6 hown6 ⊢
      have k0 : w6.cell? ⟨q, 0, none⟩ = some (.int .i64 V) := hI6.cell 0
      have k1 : w6.cell? ⟨q, 1, none⟩ = some (.slice (some ⟨g', 0, none⟩) (E.length + 1) c') := hI6.cell 1
      have k2 : w6.cell? ⟨w.heap.size + 1, 0, none⟩ = some (.int .i64 0) := hS6.cell 0
      have k3 : w6.cell? ⟨w.heap.size + 1, 1, none⟩ = some (.slice none 0 0) := hS6.cell 1
      have k4 := hS6.frozen 0
      have k5 := hS6.frozen 1
      have k6 := hS6.lt
      go_wp2_with fail
      have z1 : ((w6.setCell ⟨w.heap.size + 1, 0, none⟩ (.int .i64 V)).setCell ⟨w.heap.size + 1, 1, none⟩ (.slice (some ⟨g', 0, none⟩) (E.length + 1) c')).cell? ⟨w.heap.size + 1, 0, none⟩ = some (.int .i64 V) := ((hS6.set_ 0 (.int .i64 V)).set_ 1 (.slice (some ⟨g', 0, none⟩) (E.length + 1) c')).cell 0
      have z2 : ((w6.setCell ⟨w.heap.size + 1, 0, none⟩ (.int .i64 V)).setCell ⟨w.heap.size + 1, 1, none⟩ (.slice (some ⟨g', 0, none⟩) (E.length + 1) c')).cell? ⟨w.heap.size + 1, 1, none⟩ = some (.slice (some ⟨g', 0, none⟩) (E.length + 1) c') := ((hS6.set_ 0 (.int .i64 V)).set_ 1 (.slice (some ⟨g', 0, none⟩) (E.length + 1) c')).cell 1
      refine bodyPost_ret (v := .tuple #[.agg #[.int .i64 V, .slice (some ⟨g', 0, none⟩) (E.length + 1) c'], .int .i64 0]) (by simp [results, Tryz.results21, go_sem, z1, z2]) rfl ?_
      refine ⟨V, _, _, 0, rfl, ?_, HX, (hB6.setCell (by simp) _).setCell (by simp) _⟩
      rw [List.length_append, List.length_singleton]
      refine own_grown hown6 (grown_set (grown_set (grown_below (Below.refl w6.heap.size w6) (some (w.heap.size + 1))) 0 _) 1 _) fun x hx => ?_
      injection hx with hx
      subst hx
      exact own_row_ne hown6 hS6 (by decide)
end Go.Proofs.YtbgbjodehbcgiaaGreatDoor

/- The contract of classify.where: the edges that have a vertex, as bits. -/
namespace Go.Proofs.YtbgbjodehbcgiaaGreatDoor
open Go.RowKit
attribute [local go_sem ↓] uz_and uz_or uz_andNot uz_and_one uz_shr uz_shl

theorem mem_ed17 {E : List (BitVec 32)} {e : BitVec 32} (h : e ∈ E) : ∃ i, i < E.length ∧ ed E i = e := by
  obtain ⟨i, hi, rfl⟩ := List.getElem_of_mem h
  exact ⟨i, hi, (ed_eq E i hi).symm⟩
theorem ed_mem_ (E : List (BitVec 32)) (i : Nat) (h : i < E.length) : ed E i ∈ E := by rw [← ed_eq E i h]; exact List.getElem_mem _
/-- What Clash answers. -/
def ClashIs (V : Int) (E : List (BitVec 32)) (head : BitVec 32) (x y : Int) (ok : Bool) (code : Int) : Prop :=
  (goodB V E = false ∧ x = 0 ∧ y = 0 ∧ ok = false ∧ code = 140) ∨
  (goodB V E = true ∧ x = 0 ∧ y = 0 ∧ ok = false ∧ code = 0 ∧ ∀ a b : Nat, (a : Int) < V → (b : Int) < V → clashB E head a b = false) ∨
  (goodB V E = true ∧ ok = true ∧ code = 0 ∧ ∃ a b : Nat, x = a ∧ y = b ∧ (a : Int) < V ∧ (b : Int) < V ∧ clashB E head a b = true ∧ (∀ c d : Nat, c < a → (d : Int) < V → clashB E head c d = false) ∧ ∀ d, d < b → clashB E head a d = false)
end Go.Proofs.YtbgbjodehbcgiaaGreatDoor

/- The contract of classify.Clash. -/
namespace Go.Proofs.YtbgbjodehbcgiaaGreatDoor
open Go.RowKit
attribute [local go_sem ↓] uz_and uz_or uz_andNot uz_and_one uz_shr uz_shl_one uz_shl uz_sub uz_sub_one uz_add uz_beq_zero uz_bne_zero uz_beq uz_bne uz_beq_one
attribute [local go_sem ↓] Go.wp_at_zero Go.wp_at_succ

end Go.Proofs.YtbgbjodehbcgiaaGreatDoor

/- The contract of classify.Classify. -/
namespace Go.Proofs.YtbgbjodehbcgiaaGreatDoor
open Go.RowKit

/-- What Classify answers. -/
def ClassIs (V : Int) (E : List (BitVec 32)) (head : BitVec 32) (a x h : Bool) (code : Int) : Prop :=
  (goodB V E = false ∧ a = false ∧ x = false ∧ h = false ∧ code = 140) ∨
  (goodB V E = true ∧ a = acyB V E ∧ x = (acyB V E && acyB V (extE E head)) ∧ code = 0 ∧ ∃ p q : Int, ClashIs V E head p q (!h) 0)

end Go.Proofs.YtbgbjodehbcgiaaGreatDoor

/- The contract of osierlaw17.awake. -/
namespace Go.Proofs.YtbgbjodehbcgiaaGreatDoor
open Go.RowKit
end Go.Proofs.YtbgbjodehbcgiaaGreatDoor

/- The contract of osierref17.Clash. -/
namespace Go.Proofs.YtbgbjodehbcgiaaGreatDoor
open Go.RowKit
attribute [local go_sem ↓] uz_and uz_or uz_andNot uz_and_one uz_shr uz_shl_one uz_shl uz_sub uz_sub_one uz_add uz_beq_zero uz_bne_zero uz_beq uz_bne uz_beq_one
attribute [local go_sem ↓] Go.wp_at_zero Go.wp_at_succ

def cntE (E : List (BitVec 32)) (q : BitVec 32 → Bool) (k : Nat) : Nat := cntB (fun i => q (ed E i)) k
theorem cntE_le (E : List (BitVec 32)) (q : BitVec 32 → Bool) (k : Nat) : cntE E q k ≤ k := cntB_le _ _
theorem cntE_pos (E : List (BitVec 32)) (q : BitVec 32 → Bool) : E.any q = decide (0 < cntE E q E.length) := by
  rw [Bool.eq_iff_iff, decide_eq_true_eq, List.any_eq_true]
  constructor
  · rintro ⟨e, he, h⟩
    obtain ⟨i, hi, rfl⟩ := mem_ed17 he
    exact cntB_pos (p := fun i => q (ed E i)) hi h
  · intro h
    apply Classical.byContradiction
    intro c
    have h2 : cntE E q E.length = cntB (fun _ => false) E.length := cntB_congr fun i hi => by
      cases d : q (ed E i)
      · rfl
      · exact absurd ⟨_, ed_mem_ E i hi, d⟩ c
    rw [cntB_none (fun _ => rfl)] at h2
    omega
def qB (x y : Nat) (e : BitVec 32) : Bool := e.getLsbD x && e.getLsbD y
def qX (x y : Nat) (e : BitVec 32) : Bool := e.getLsbD x && !e.getLsbD y
theorem bothX_cnt (E : List (BitVec 32)) (x y : Nat) : bothX E x y = decide (0 < cntE E (qB x y) E.length) := cntE_pos E (qB x y)
theorem onlyX_cnt (E : List (BitVec 32)) (x y : Nat) : onlyX E x y = decide (0 < cntE E (qX x y) E.length) := cntE_pos E (qX x y)

theorem clash_tree {n1 n2 n3 x y : Nat} {p q K : Bool} (h : K = ((decide (0 < n1) && decide (0 < n2) && decide (0 < n3) && decide (x < y)) || (decide (0 < n1) && !decide (0 < n2) && decide (0 < n3) && p && !q))) :
    (n1 = 0 ∧ K = false) ∨ (0 < n1 ∧ n2 = 0 ∧ n3 = 0 ∧ K = false) ∨ (0 < n1 ∧ n2 = 0 ∧ 0 < n3 ∧ p = false ∧ K = false) ∨ (0 < n1 ∧ n2 = 0 ∧ 0 < n3 ∧ p = true ∧ q = true ∧ K = false) ∨ (0 < n1 ∧ n2 = 0 ∧ 0 < n3 ∧ p = true ∧ q = false ∧ K = true) ∨ (0 < n1 ∧ 0 < n2 ∧ n3 = 0 ∧ K = false) ∨ (0 < n1 ∧ 0 < n2 ∧ 0 < n3 ∧ x < y ∧ K = true) ∨ (0 < n1 ∧ 0 < n2 ∧ 0 < n3 ∧ ¬ x < y ∧ K = false) := by
  rcases Nat.eq_zero_or_pos n1 with z1 | z1
  · exact .inl ⟨z1, by rw [h, z1]; simp⟩
  · rcases Nat.eq_zero_or_pos n2 with z2 | z2
    · rcases Nat.eq_zero_or_pos n3 with z3 | z3
      · exact .inr (.inl ⟨z1, z2, z3, by rw [h, z3]; simp⟩)
      · cases p
        · exact .inr (.inr (.inl ⟨z1, z2, z3, rfl, by rw [h, z2]; simp⟩))
        · cases q
          · exact .inr (.inr (.inr (.inr (.inl ⟨z1, z2, z3, rfl, rfl, by rw [h, z2]; simp [z1, z3]⟩))))
          · exact .inr (.inr (.inr (.inl ⟨z1, z2, z3, rfl, rfl, by rw [h, z2]; simp⟩)))
    · rcases Nat.eq_zero_or_pos n3 with z3 | z3
      · exact .inr (.inr (.inr (.inr (.inr (.inl ⟨z1, z2, z3, by rw [h, z3]; simp⟩)))))
      · by_cases c : x < y
        · exact .inr (.inr (.inr (.inr (.inr (.inr (.inl ⟨z1, z2, z3, c, by rw [h]; simp [z1, z2, z3, c]⟩))))))
        · exact .inr (.inr (.inr (.inr (.inr (.inr (.inr ⟨z1, z2, z3, c, by rw [h]; simp [z2, c]⟩))))))

set_option maxHeartbeats 400000000 in
set_option maxRecDepth 100000 in
theorem r17clash_any (V : Int) (A : Option Addr) (E : List (BitVec 32)) (c : Nat) (head : BitVec 32) (w : World) (hl : E.length ≤ 35184372087808) (hE : Rd w w.heap.size A (us E)) :
    Calls Tryz.prog 16 #[.agg #[.int .i64 V, .slice A E.length c], .int .u32 (uz head)] w fun e w' => ∃ (x y : Int) (ok : Bool) (code : Int), e = .returned (.tuple #[.int .i64 x, .int .i64 y, .bool ok, .int .i64 code]) ∧ Hid (ClashIs V E head x y ok code) ∧ Below w.heap.size w w' := by
  go_enter Tryz.func16, Tryz.ntmps16
  go_wp2_with fail
  have hb0 := below_alloc w (.cells #[.int .i64 V, .slice A E.length c] 46)
  have hG0 : Row (w.alloc (.cells #[.int .i64 V, .slice A E.length c] 46)) w.heap.size 46 [.int .i64 V, .slice A E.length c] := Row.new _ _ _
  generalize w.alloc _ = w0 at hb0 hG0 ⊢
  refine (r17good_any V A E c _ hl (hE.later hb0)).mono ?_
  rintro e w1 ⟨rfl, hb1⟩
  have hB1 := bthen hb0 hb1
  have hG1 := hG0.later hb1
  have hE1 := hE.later hB1
  have d0 : w1.cell? ⟨w.heap.size, 0, none⟩ = some (.int .i64 V) := hG1.cell 0
  have d1 : w1.cell? ⟨w.heap.size, 1, none⟩ = some (.slice A E.length c) := hG1.cell 1
  clear hb0 hG0 hb1 hE
  cases hv : goodB V E
  · have HC : Hid (ClashIs V E head 0 0 false 140) := Lib.hid (.inl ⟨hv, rfl, rfl, rfl, rfl⟩)
    clear hv
    go_wp2_with fail
    refine bodyPost_ret (v := .tuple #[.int .i64 0, .int .i64 0, .bool false, .int .i64 140]) (by simp [results, Tryz.results16, go_sem]) rfl ?_
    exact ⟨_, _, _, _, rfl, HC, hB1⟩
  · have h6 : E.length ≤ 6 := (goodB_iff.1 hv).2
    obtain ⟨hV0, hV30, _, _⟩ := validB_of (goodB_iff.1 hv).1
    obtain ⟨n, rfl⟩ : ∃ n : Nat, V = n := ⟨V.toNat, by omega⟩
    have HV := Lib.hid hv
    have HK : Hid (∀ x, Below w1.heap.size w1 x → Below w1.heap.size w1 x ∧ x.cell? ⟨w.heap.size, 0, none⟩ = some (.int .i64 n) ∧ x.cell? ⟨w.heap.size, 1, none⟩ = some (.slice A E.length c)) :=
      Lib.hid (fun x hx => ⟨hx, (hG1.later hx).cell 0, (hG1.later hx).cell 1⟩)
    have HE : Hid (∀ x, Below w1.heap.size w1 x → Rd x w1.heap.size A (us E)) := Lib.hid fun x hx => hE1.below hx
    clear hv hV0 hG1 hE1
    go_wp2_with fail
    clear d0 d1
    go_loopw [8] (fun i wr => ∃ x : Nat, x ≤ n ∧ i = .int .i64 x ∧ Hid (∀ a b : Nat, a < x → (b : Int) < n → clashB E head a b = false) ∧ Below w1.heap.size w1 wr) (fun i _ => n - (intOf i).toNat)
    case atStart => exact ⟨0, Nat.zero_le _, rfl, Lib.hid fun a b ha => absurd ha (Nat.not_lt_zero _), Below.refl _ _⟩
    case round =>
      obtain ⟨x, hx, rfl, hno, hbx⟩ := hrel
      obtain ⟨_, d0, d1⟩ := HK.out _ hbx
      by_cases hlt : x < n
      · have b1 : (0 : Int) ≤ x := by omega
        have b2 : (x : Int) < n := by omega
        go_wp2_with fail
        clear d0 d1
        go_loopg [9] n (fun gk j wr => ∃ y : Nat, y ≤ n ∧ gk = n - y ∧ j = .int .i64 y ∧ Hid (∀ b : Nat, b < y → clashB E head x b = false) ∧ Below w1.heap.size w1 wr)
        case atStart => exact ⟨0, Nat.zero_le _, rfl, rfl, Lib.hid fun b hb => absurd hb (Nat.not_lt_zero _), hbx⟩
        clear hbx
        case round =>
          obtain ⟨y, hy, rfl, rfl, hno2, hby⟩ := hrel
          obtain ⟨_, d0, d1⟩ := HK.out _ hby
          by_cases hlty : y < n
          · have b3 : (0 : Int) ≤ y := by omega
            have b4 : (y : Int) < n := by omega
            go_wp2_with fail
            clear d0 d1
            go_loopw [10, 11, 12, 13] (fun p q r i wr => ∃ k : Nat, k ≤ E.length ∧ i = .int .i64 k ∧ p = .int .i64 (cntE E (qB x y) k : Nat) ∧ q = .int .i64 (cntE E (qX x y) k : Nat) ∧ r = .int .i64 (cntE E (qX y x) k : Nat) ∧ Below w1.heap.size w1 wr) (fun _ _ _ i _ => E.length - (intOf i).toNat)
            case atStart => exact ⟨0, Nat.zero_le _, rfl, rfl, rfl, rfl, hby⟩
            clear hby
            case round =>
              obtain ⟨k, hk, rfl, rfl, rfl, rfl, hbz⟩ := hrel
              obtain ⟨_, d0, d1⟩ := HK.out _ hbz
              have c1 := cntE_le E (qB x y) k
              have c2 := cntE_le E (qX x y) k
              have c3 := cntE_le E (qX y x) k
              by_cases hlk : k < E.length
              · obtain ⟨ad, hA, _, hc⟩ := (HE.out _ hbz).e_at hlk
                subst hA
                have H1 : Hid (cntE E (qB x y) (k + 1) = cntE E (qB x y) k + if ((ed E k).getLsbD x && (ed E k).getLsbD y) then 1 else 0) := Lib.hid rfl
                have H2 : Hid (cntE E (qX x y) (k + 1) = cntE E (qX x y) k + if ((ed E k).getLsbD x && !(ed E k).getLsbD y) then 1 else 0) := Lib.hid rfl
                have H3 : Hid (cntE E (qX y x) (k + 1) = cntE E (qX y x) k + if ((ed E k).getLsbD y && !(ed E k).getLsbD x) then 1 else 0) := Lib.hid rfl
                have i1 := inB_nat (ed E k) x
                have i2 := inB_nat (ed E k) y
                have b5 : (0 : Int) ≤ k := by omega
                have b6 : (k : Int) < E.length := by omega
                generalize (ed E k).getLsbD x = px at H1 H2 H3 i1
                generalize (ed E k).getLsbD y = py at H1 H2 H3 i2
                generalize ed E k = z at hc i1 i2
                generalize cntE E (qB x y) k = n1 at c1 H1 ⊢
                generalize cntE E (qX x y) k = n2 at c2 H2 ⊢
                generalize cntE E (qX y x) k = n3 at c3 H3 ⊢
                clear hno hno2
                cases px <;> cases py
                · have K1 : Hid (cntE E (qB x y) (k + 1) = n1) := Lib.hid H1.out
                  have K2 : Hid (cntE E (qX x y) (k + 1) = n2) := Lib.hid H2.out
                  have K3 : Hid (cntE E (qX y x) (k + 1) = n3) := Lib.hid H3.out
                  clear H1 H2 H3
                  go_wp2_with fail
                  go_quiet (first | (go_at_call 55; exact pure_quiet (in_any z _)))
                  go_wp2_with fail
                  go_roundw
                  case measure => simp [intOf]; omega
                  case rel => exact ⟨k + 1, by omega, by go_num, by rw [K1.out], by rw [K2.out], by rw [K3.out], below_drewN hbz _⟩
                · have K1 : Hid (cntE E (qB x y) (k + 1) = n1) := Lib.hid H1.out
                  have K2 : Hid (cntE E (qX x y) (k + 1) = n2) := Lib.hid H2.out
                  have K3 : Hid (cntE E (qX y x) (k + 1) = n3 + 1) := Lib.hid H3.out
                  clear H1 H2 H3
                  go_wp2_with fail
                  go_quiet (first | (go_at_call 55; exact pure_quiet (in_any z _)))
                  go_wp2_with fail
                  go_roundw
                  case measure => simp [intOf]; omega
                  case rel => exact ⟨k + 1, by omega, by go_num, by rw [K1.out], by rw [K2.out], by rw [K3.out]; go_num, below_drewN hbz _⟩
                · have K1 : Hid (cntE E (qB x y) (k + 1) = n1) := Lib.hid H1.out
                  have K2 : Hid (cntE E (qX x y) (k + 1) = n2 + 1) := Lib.hid H2.out
                  have K3 : Hid (cntE E (qX y x) (k + 1) = n3) := Lib.hid H3.out
                  clear H1 H2 H3
                  go_wp2_with fail
                  go_quiet (first | (go_at_call 55; exact pure_quiet (in_any z _)))
                  go_wp2_with fail
                  go_roundw
                  case measure => simp [intOf]; omega
                  case rel => exact ⟨k + 1, by omega, by go_num, by rw [K1.out], by rw [K2.out]; go_num, by rw [K3.out], below_drewN hbz _⟩
                · have K1 : Hid (cntE E (qB x y) (k + 1) = n1 + 1) := Lib.hid H1.out
                  have K2 : Hid (cntE E (qX x y) (k + 1) = n2) := Lib.hid H2.out
                  have K3 : Hid (cntE E (qX y x) (k + 1) = n3) := Lib.hid H3.out
                  clear H1 H2 H3
                  go_wp2_with fail
                  go_quiet (first | (go_at_call 55; exact pure_quiet (in_any z _)))
                  go_wp2_with fail
                  go_roundw
                  case measure => simp [intOf]; omega
                  case rel => exact ⟨k + 1, by omega, by go_num, by rw [K1.out]; go_num, by rw [K2.out], by rw [K3.out], below_drewN hbz _⟩
              · obtain rfl : k = E.length := by omega
                have HCL : Hid (clashB E head x y = ((bothX E x y && onlyX E x y && onlyX E y x && decide (x < y)) || (bothX E x y && !onlyX E x y && onlyX E y x && head.getLsbD x && !head.getLsbD y))) := Lib.hid rfl
                rw [bothX_cnt, onlyX_cnt E x y, onlyX_cnt E y x] at HCL
                have HR : Hid (clashB E head x y = false → ∀ b : Nat, b < y + 1 → clashB E head x b = false) := Lib.hid fun e b hb => by
                  rcases Nat.lt_or_ge b y with h | h
                  · exact hno2.out b h
                  · obtain rfl : b = y := by omega
                    exact e
                have HT : Hid (clashB E head x y = true → ClashIs n E head x y true 0) := Lib.hid fun e => .inr (.inr ⟨HV.out, rfl, rfl, x, y, rfl, rfl, b2, b4, e, hno.out, fun d hd => hno2.out d hd⟩)
                have i1 := inB_nat head x
                have i2 := inB_nat head y
                have hBz : Below w.heap.size w wr := hB1.trans (hbz.mono hB1.size)
                clear hno hno2
                generalize clashB E head x y = K at HCL HR HT
                generalize cntE E (qB x y) E.length = n1 at c1 HCL ⊢
                generalize cntE E (qX x y) E.length = n2 at c2 HCL ⊢
                generalize cntE E (qX y x) E.length = n3 at c3 HCL ⊢
                generalize head.getLsbD x = p at HCL i1
                generalize head.getLsbD y = q at HCL i2
                have HD : Hid ((n1 = 0 ∧ K = false) ∨ (0 < n1 ∧ n2 = 0 ∧ n3 = 0 ∧ K = false) ∨ (0 < n1 ∧ n2 = 0 ∧ 0 < n3 ∧ p = false ∧ K = false) ∨ (0 < n1 ∧ n2 = 0 ∧ 0 < n3 ∧ p = true ∧ q = true ∧ K = false) ∨ (0 < n1 ∧ n2 = 0 ∧ 0 < n3 ∧ p = true ∧ q = false ∧ K = true) ∨ (0 < n1 ∧ 0 < n2 ∧ n3 = 0 ∧ K = false) ∨ (0 < n1 ∧ 0 < n2 ∧ 0 < n3 ∧ x < y ∧ K = true) ∨ (0 < n1 ∧ 0 < n2 ∧ 0 < n3 ∧ ¬ x < y ∧ K = false)) := Lib.hid (clash_tree HCL.out)
                clear HCL
                rcases HD.out with ⟨rfl, hK⟩ | ⟨z1, rfl, rfl, hK⟩ | ⟨z1, rfl, z3, rfl, hK⟩ | ⟨z1, rfl, z3, rfl, rfl, hK⟩ | ⟨z1, rfl, z3, rfl, rfl, hK⟩ | ⟨z1, z2, rfl, hK⟩ | ⟨z1, z2, z3, hxy, hK⟩ | ⟨z1, z2, z3, hxy, hK⟩
                all_goals clear HD
                all_goals try have g1 : decide (0 < n1) = true := decide_eq_true z1
                all_goals try have g2 : decide (0 < n2) = true := decide_eq_true z2
                all_goals try have g3 : decide (0 < n3) = true := decide_eq_true z3
                all_goals try have e2 : (n2 == 0) = false := by rw [beq_eq_false_iff_ne]; omega
                all_goals try have e3 : ((n2 : Int) == 0) = false := by rw [beq_eq_false_iff_ne]; omega
                all_goals try have f1 : decide (x < y) = true := decide_eq_true (by omega)
                all_goals try have f1 : decide (x < y) = false := decide_eq_false (by omega)
                all_goals try clear z1
                all_goals try clear z2
                all_goals try clear z3
                all_goals try clear hxy
                all_goals first
                  | (have HF := Lib.hid (HR.out hK)
                     clear hK HT HR
                     go_wp2_with (go_at_call 55; refine (in_any _ _ _).mono ?_; rintro e w' ⟨rfl, rfl⟩)
                     go_roundg (n - (y + 1))
                     case measure => omega
                     case rel => exact ⟨y + 1, by omega, rfl, by go_num, HF, hbz⟩)
                  | (have HF := Lib.hid (HT.out hK)
                     clear hK HT HR
                     go_wp2_with (go_at_call 55; refine (in_any _ _ _).mono ?_; rintro e w' ⟨rfl, rfl⟩)
                     refine bodyPost_ret (v := .tuple #[.int .i64 x, .int .i64 y, .bool true, .int .i64 0]) (by simp [results, Tryz.results16, go_sem]) rfl ?_
                     exact ⟨_, _, _, _, rfl, HF, hBz⟩)
          · obtain rfl : y = n := by omega
            go_wp2_with fail
            go_roundw
            case rel =>
              refine ⟨x + 1, by omega, by go_num, Lib.hid fun a b ha hb => ?_, hby⟩
              rcases Nat.lt_or_ge a x with h | h
              · exact hno.out a b h hb
              · obtain rfl : a = x := by omega
                exact hno2.out b (by omega)
            case measure => simp [intOf]; omega
      · obtain rfl : x = n := by omega
        have HC : Hid (ClashIs x E head 0 0 false 0) := Lib.hid (.inr (.inl ⟨HV.out, rfl, rfl, rfl, rfl, fun a b ha hb => hno.out a b (by omega) hb⟩))
        go_wp2_with fail
        refine bodyPost_ret (v := .tuple #[.int .i64 0, .int .i64 0, .bool false, .int .i64 0]) (by simp [results, Tryz.results16, go_sem]) rfl ?_
        exact ⟨_, _, _, _, rfl, HC, hB1.trans (hbx.mono hB1.size)⟩
end Go.Proofs.YtbgbjodehbcgiaaGreatDoor

/- The plain laws of ClassifyChain and ClassifyAlike. -/
namespace Go.Proofs.YtbgbjodehbcgiaaGreatDoor

theorem cov_out {V : Int} {E : List (BitVec 32)} (h : validB V E = true) : outB V (covB E) = false := by
  obtain ⟨h0, h1, _, _⟩ := validB_of h
  refine outB_false_of h0 h1 fun v hvv hk => ?_
  rw [inB_nat]
  cases d : (covB E).getLsbD v
  · rfl
  · obtain ⟨e, he, hh⟩ := (hv_cov E v).1 d
    have := outB_true_of h0 h1 (k := v) hvv (x := e) (by rw [inB_nat]; exact hh)
    rw [validB_out h e he] at this
    cases this
theorem ext_valid {V : Int} {E : List (BitVec 32)} {head : BitVec 32} (hg : goodB V E = true) : validB V (extE E head) = true := by
  obtain ⟨hv, h6⟩ := goodB_iff.1 hg
  obtain ⟨h0, h1, _, _⟩ := validB_of hv
  refine validB_mk h0 h1 (by rw [extE_length]; omega) fun e he => ?_
  rcases mem_ext.1 he with h | rfl
  · exact validB_out hv e h
  · exact outB_andl head (cov_out hv)
end Go.Proofs.YtbgbjodehbcgiaaGreatDoor

/- The contract of osierref17.Classify. -/
namespace Go.Proofs.YtbgbjodehbcgiaaGreatDoor
open Go.RowKit

theorem exists_acy {V : Nat} {E : List (BitVec 32)} (hv : validB V E = true) : existsB V E = acyB V E := by
  rw [Bool.eq_iff_iff, acyB_iff hv]
  exact existsB_iff (fun i v hi hh => ed_lt hv i v hi hh)

set_option maxHeartbeats 40000000 in
set_option maxRecDepth 100000 in
theorem r17classify_any (V : Int) (A : Option Addr) (E : List (BitVec 32)) (c : Nat) (head : BitVec 32) (w : World) (hl : E.length ≤ 35184372087808) (hE : Rd w w.heap.size A (us E)) :
    Calls Tryz.prog 37 #[.agg #[.int .i64 V, .slice A E.length c], .int .u32 (uz head)] w fun e w' => ∃ (a x h : Bool) (code : Int), e = .returned (.tuple #[.bool a, .bool x, .bool h, .int .i64 code]) ∧ Hid (ClassIs V E head a x h code) ∧ Below w.heap.size w w' := by
  go_enter Tryz.func37, Tryz.ntmps37
  go_wp2_with fail
  have hb0 := below_alloc w (.cells #[.int .i64 V, .slice A E.length c] 46)
  have hG0 : Row (w.alloc (.cells #[.int .i64 V, .slice A E.length c] 46)) w.heap.size 46 [.int .i64 V, .slice A E.length c] := Row.new _ _ _
  generalize w.alloc _ = w0 at hb0 hG0 ⊢
  refine (r17extended_any V A E c head w0 hl (hE.later hb0)).mono ?_
  rintro e w1 ⟨V', v, F, code, rfl, hown, hX, hb1⟩
  obtain ⟨A1, c1, rfl, _, _, hF1, _⟩ := Rd.of_own hown
  have hB1 := bthen hb0 hb1
  have hG1 := hG0.later hb1
  have hE1 := hE.later hB1
  clear hown hb0 hG0 hb1 hE
  rcases hX.out with ⟨hg, rfl, rfl, rfl⟩ | ⟨hg, rfl, rfl, rfl⟩
  · have HC : Hid (ClassIs V E head false false false 140) := Lib.hid (.inl ⟨hg, rfl, rfl, rfl, rfl⟩)
    clear hX hg
    go_wp2_with fail
    refine bodyPost_ret (v := .tuple #[.bool false, .bool false, .bool false, .int .i64 140]) (by simp [results, Tryz.results37, go_sem]) rfl ?_
    exact ⟨_, _, _, _, rfl, HC, hB1.trans (below_alloc _ _ |>.mono hB1.size)⟩
  · have HG := Lib.hid hg
    have h6 : E.length ≤ 6 := (goodB_iff.1 hg).2
    obtain ⟨hV0, hV30, _, _⟩ := validB_of (goodB_iff.1 hg).1
    obtain ⟨n, rfl⟩ : ∃ n : Nat, V' = n := ⟨V'.toNat, by omega⟩
    have hl7 : (extE E head).length ≤ 7 := by rw [extE_length]; omega
    have HX1 : Hid (∀ w, Rd w w.heap.size A (us E) → Calls Tryz.prog 22 #[.agg #[.int .i64 n, .slice A E.length c]] w fun e w' => e = .returned (.bool (acyB n E)) ∧ Below w.heap.size w w') := Lib.hid fun w hw => by
      rw [← exists_acy (goodB_iff.1 hg).1]
      exact exists_any n A E c w (by omega) (by omega) hw
    have HX2 : Hid (∀ w, Rd w w.heap.size A1 (us (extE E head)) → Calls Tryz.prog 22 #[.agg #[.int .i64 n, .slice A1 (extE E head).length c1]] w fun e w' => e = .returned (.bool (acyB n (extE E head))) ∧ Below w.heap.size w w') := Lib.hid fun w hw => by
      rw [← exists_acy (ext_valid hg)]
      exact exists_any n A1 _ c1 w (by omega) hl7 hw
    clear hX hg hV0 hV30
    go_upto_region 2 with fail
    generalize hFL : extE E head = F at hF1 HX2 hl7 ⊢
    have HFL := Lib.hid hFL
    clear hFL
    have hb2 := below_alloc w1 (.cells #[.int .i64 n, .slice A1 F.length c1] 46)
    have hI2 : Row (w1.alloc (.cells #[.int .i64 n, .slice A1 F.length c1] 46)) w1.heap.size 46 [.int .i64 n, .slice A1 F.length c1] := Row.new _ _ _
    have hB2 := bthen hB1 hb2
    have hG2 := hG1.later hb2
    have hE2 := hE1.later hb2
    have hF2 := hF1.later hb2
    generalize w1.heap.size = q at hI2 ⊢
    generalize w1.alloc _ = w2 at hB2 hG2 hE2 hF2 hI2 ⊢
    have d0 : w2.cell? ⟨w.heap.size, 0, none⟩ = some (.int .i64 n) := hG2.cell 0
    have d1 : w2.cell? ⟨w.heap.size, 1, none⟩ = some (.slice A E.length c) := hG2.cell 1
    clear hb2 hB1 hG1 hE1 hF1
    go_wp2_with fail
    refine (HX1.out w2 hE2).mono ?_
    rintro e w3 ⟨rfl, hb3⟩
    have hB3 := bthen hB2 hb3
    have hG3 := hG2.later hb3
    have hE3 := hE2.later hb3
    have hI3 := hI2.later hb3
    have hF3 := hF2.later hb3
    clear d0 d1 hB2 hG2 hE2 hI2 hF2 hb3 HX1
    have d0 : w3.cell? ⟨w.heap.size, 0, none⟩ = some (.int .i64 n) := hG3.cell 0
    have d1 : w3.cell? ⟨w.heap.size, 1, none⟩ = some (.slice A E.length c) := hG3.cell 1
    go_wp2_with fail
    refine (r17clash_any n A E c head w3 hl hE3).mono ?_
    rintro e w4 ⟨x, y, ok, code, rfl, hCL, hb4⟩
    have hB4 := bthen hB3 hb4
    have hI4 := hI3.later hb4
    have hF4 := hF3.later hb4
    have hc0 : code = 0 := by
      rcases hCL.out with ⟨a, _⟩ | ⟨_, _, _, _, a, _⟩ | ⟨_, _, a, _⟩
      · rw [HG.out] at a; cases a
      · exact a
      · exact a
    subst hc0
    have HC : Hid (ClassIs n E head (acyB n E) (acyB n E && acyB n F) (!ok) 0) := Lib.hid (.inr ⟨HG.out, rfl, by rw [HFL.out], rfl, x, y, by rw [Bool.not_not]; exact hCL.out⟩)
    clear hCL d0 d1 hB3 hG3 hE3 hI3 hF3 hb4
    generalize acyB n E = a1 at HC ⊢
    have d0 : w4.cell? ⟨q, 0, none⟩ = some (.int .i64 n) := hI4.cell 0
    have d1 : w4.cell? ⟨q, 1, none⟩ = some (.slice A1 F.length c1) := hI4.cell 1
    cases a1
    · go_wp2_with fail
      refine bodyPost_ret (v := .tuple #[.bool false, .bool false, .bool !ok, .int .i64 0]) (by simp [results, Tryz.results37, go_sem]) rfl ?_
      exact ⟨_, _, _, _, rfl, HC, hB4⟩
    · go_wp2_with fail
      refine (HX2.out w4 hF4).mono ?_
      rintro e w5 ⟨rfl, hb5⟩
      have hB5 := bthen hB4 hb5
      generalize acyB n F = a2 at HC ⊢
      go_wp2_with fail
      refine bodyPost_ret (v := .tuple #[.bool true, .bool a2, .bool !ok, .int .i64 0]) (by simp [results, Tryz.results37, go_sem]) rfl ?_
      exact ⟨_, _, _, _, rfl, HC, hB5⟩
end Go.Proofs.YtbgbjodehbcgiaaGreatDoor
