/- Several texts in one: C17a C17b C17c C17d C17e C17f ClassLaw2 C17g. -/
import Derived.Test.YtdemmjofggemhaaGreatDoorBF
import Derived.Test.YtdemmjofggemhaaGreatDoorBD
import Derived.Deep.RegionHeld3
import Derived.Test.YtdemmjofggemhaaGreatDoorBE
/- The contracts of classify.good, covered, Extended and of osierref17.Good, Covered, Extended; of slices.Clone over words. -/
namespace Go.Proofs.YtdemmjofggemhaaGreatDoor
open Go.RowKit

attribute [local go_sem ↓] uz_and uz_or uz_andNot uz_and_one uz_shr uz_shl_one uz_shl uz_sub uz_sub_one uz_add uz_beq_zero uz_bne_zero uz_beq uz_bne uz_beq_one

def goodB (V : Int) (E : List (BitVec 32)) : Bool := validB V E && decide (E.length ≤ 6)
theorem goodB_iff {V : Int} {E : List (BitVec 32)} : goodB V E = true ↔ validB V E = true ∧ E.length ≤ 6 := by simp [goodB]
theorem goodB_valid {V : Int} {E : List (BitVec 32)} (h : validB V E = true) : goodB V E = decide (E.length ≤ 6) := by simp [goodB, h]
theorem goodB_not {V : Int} {E : List (BitVec 32)} (h : validB V E = false) : goodB V E = false := by simp [goodB, h]
theorem r17good_any (V : Int) (A : Option Addr) (E : List (BitVec 32)) (c : Nat) (w : World) (hl : E.length ≤ 35184372087808) (hE : Rd w w.heap.size A (us E)) :
    Calls Tryz.prog 37 #[.agg #[.int .i64 V, .slice A E.length c]] w fun e w' => e = .returned (.bool (goodB V E)) ∧ Below w.heap.size w w' := by
  go_enter Tryz.func37, Tryz.ntmps37
  go_wp2_with fail
  have hb0 := below_alloc w (.cells #[.int .i64 V, .slice A E.length c] 36)
  have hG0 : Row (w.alloc (.cells #[.int .i64 V, .slice A E.length c] 36)) w.heap.size 36 [.int .i64 V, .slice A E.length c] := Row.new _ _ _
  generalize w.alloc _ = w0 at hb0 hG0 ⊢
  refine (r14valid_any V A E c _ hl (hE.later hb0)).mono ?_
  rintro e w1 ⟨rfl, hb1⟩
  have hG1 := hG0.later hb1
  have d1 : w1.cell? ⟨w.heap.size, 1, none⟩ = some (.slice A E.length c) := hG1.cell 1
  have hB1 := bthen hb0 hb1
  cases hv : validB V E
  · have hg := goodB_not hv
    go_wp2_with fail
    go_ret
    exact ⟨by rw [hg]; rfl, hB1⟩
  · have hg := goodB_valid hv
    by_cases h6 : E.length ≤ 6
    · have e1 : decide ((E.length : Int) ≤ 6) = true := decide_eq_true (by omega)
      have hg2 : goodB V E = true := by rw [hg]; exact decide_eq_true h6
      clear h6 hg hv
      go_wp2_with fail
      go_ret
      exact ⟨by rw [hg2]; rfl, hB1⟩
    · have e1 : decide ((E.length : Int) ≤ 6) = false := decide_eq_false (by omega)
      have hg2 : goodB V E = false := by rw [hg]; exact decide_eq_false h6
      clear h6 hg hv
      go_wp2_with fail
      go_ret
      exact ⟨by rw [hg2]; rfl, hB1⟩
set_option maxRecDepth 100000 in
theorem clone_u32_any (ad : Addr) (E : List (BitVec 32)) (c : Nat) (w : World) (hl : E.length ≤ 100) (hE : Rd w w.heap.size (some ad) (us E)) :
    Calls Tryz.prog 25 #[.slice (some ad) E.length c] w fun e w' => ∃ v, e = .returned v ∧ w'.ownsRow w.heap.size 37 1 v E.length (us E) ∧ Below w.heap.size w w' := by
  obtain ⟨i, hi, hz, hs1, hb1⟩ := info_parts Tryz.info_u32
  have hnil : (binOp .eql 34 (.slice (some ad) E.length c) (.slice none 0 0)).run Tryz.prog w = .ok (.bool false) w := by
    simp [binOp, run_equal_slice_nil w 34 37 (some ad) E.length c Tryz.underlying34]
  go_enter Tryz.func25, Tryz.ntmps25
  go_wp2_with ((with_reducible show wpList _ _ _ _ _ _); refine wpList_append_own_at _ rfl (.tmp 5) (.tmp 6) 34 rfl w.heap.size 37 i (.int .u32 0) 1 4 Tryz.underlying34 hi hz hs1 hb1 rfl (by decide) _ 0 [] rfl (empty_own w 37) ad E.length c (us E) rfl (by simp) ((hE.below (below_alloc w _)).news) (us_one E) (by unfold maxLen; omega) (by omega) (by simp) ?_)
  intro v' w' hown hg _ _
  go_wp2_with fail
  go_ret
  exact ⟨_, rfl, hown, ((Below.refl _ _).alloc (Nat.le_refl _) _).grown hg (by simp) fun k hk => by
    simp only [Value.ownBlock, Option.some.injEq] at hk
    omega⟩

end Go.Proofs.YtdemmjofggemhaaGreatDoor

/- The contract of classify.where: the edges that have a vertex, as bits. -/
namespace Go.Proofs.YtdemmjofggemhaaGreatDoor
open Go.RowKit
attribute [local go_sem ↓] uz_and uz_or uz_andNot uz_and_one uz_shr uz_shl

theorem mem_ed17 {E : List (BitVec 32)} {e : BitVec 32} (h : e ∈ E) : ∃ i, i < E.length ∧ ed E i = e := by
  obtain ⟨i, hi, rfl⟩ := List.getElem_of_mem h
  exact ⟨i, hi, (ed_eq E i hi).symm⟩
theorem ed_mem_ (E : List (BitVec 32)) (i : Nat) (h : i < E.length) : ed E i ∈ E := by rw [← ed_eq E i h]; exact List.getElem_mem _
/-- What Clash answers. -/
def ClashIs (V : Int) (E : List (BitVec 32)) (head : BitVec 32) (x y : Int) (ok : Bool) (code : Int) : Prop :=
  (goodB V E = false ∧ x = 0 ∧ y = 0 ∧ ok = false ∧ code = 140) ∨
  (goodB V E = true ∧ x = 0 ∧ y = 0 ∧ ok = false ∧ code = 0 ∧ ∀ a b : Nat, (a : Int) < V → (b : Int) < V → clashB E head a b = false) ∨
  (goodB V E = true ∧ ok = true ∧ code = 0 ∧ ∃ a b : Nat, x = a ∧ y = b ∧ (a : Int) < V ∧ (b : Int) < V ∧ clashB E head a b = true ∧ (∀ c d : Nat, c < a → (d : Int) < V → clashB E head c d = false) ∧ ∀ d, d < b → clashB E head a d = false)
end Go.Proofs.YtdemmjofggemhaaGreatDoor

/- The contract of classify.Clash. -/
namespace Go.Proofs.YtdemmjofggemhaaGreatDoor
open Go.RowKit
attribute [local go_sem ↓] uz_and uz_or uz_andNot uz_and_one uz_shr uz_shl_one uz_shl uz_sub uz_sub_one uz_add uz_beq_zero uz_bne_zero uz_beq uz_bne uz_beq_one
attribute [local go_sem ↓] Go.wp_at_zero Go.wp_at_succ

end Go.Proofs.YtdemmjofggemhaaGreatDoor

/- The contract of classify.Classify. -/
namespace Go.Proofs.YtdemmjofggemhaaGreatDoor
open Go.RowKit

end Go.Proofs.YtdemmjofggemhaaGreatDoor

/- The contract of osierlaw17.awake. -/
namespace Go.Proofs.YtdemmjofggemhaaGreatDoor
open Go.RowKit
end Go.Proofs.YtdemmjofggemhaaGreatDoor

/- The contract of osierref17.Clash. -/
namespace Go.Proofs.YtdemmjofggemhaaGreatDoor
open Go.RowKit
attribute [local go_sem ↓] uz_and uz_or uz_andNot uz_and_one uz_shr uz_shl_one uz_shl uz_sub uz_sub_one uz_add uz_beq_zero uz_bne_zero uz_beq uz_bne uz_beq_one
attribute [local go_sem ↓] Go.wp_at_zero Go.wp_at_succ

def cntE (E : List (BitVec 32)) (q : BitVec 32 → Bool) (k : Nat) : Nat := cntB (fun i => q (ed E i)) k
theorem cntE_le (E : List (BitVec 32)) (q : BitVec 32 → Bool) (k : Nat) : cntE E q k ≤ k := cntB_le _ _
theorem cntE_pos (E : List (BitVec 32)) (q : BitVec 32 → Bool) : E.any q = decide (0 < cntE E q E.length) := by
  rw [Bool.eq_iff_iff, decide_eq_true_eq, List.any_eq_true]
  constructor
  · rintro ⟨e, he, h⟩
    obtain ⟨i, hi, rfl⟩ := mem_ed17 he
    exact cntB_pos (p := fun i => q (ed E i)) hi h
  · intro h
    apply Classical.byContradiction
    intro c
    have h2 : cntE E q E.length = cntB (fun _ => false) E.length := cntB_congr fun i hi => by
      cases d : q (ed E i)
      · rfl
      · exact absurd ⟨_, ed_mem_ E i hi, d⟩ c
    rw [cntB_none (fun _ => rfl)] at h2
    omega
def qB (x y : Nat) (e : BitVec 32) : Bool := e.getLsbD x && e.getLsbD y
def qX (x y : Nat) (e : BitVec 32) : Bool := e.getLsbD x && !e.getLsbD y
theorem bothX_cnt (E : List (BitVec 32)) (x y : Nat) : bothX E x y = decide (0 < cntE E (qB x y) E.length) := cntE_pos E (qB x y)
theorem onlyX_cnt (E : List (BitVec 32)) (x y : Nat) : onlyX E x y = decide (0 < cntE E (qX x y) E.length) := cntE_pos E (qX x y)

theorem clash_tree {n1 n2 n3 x y : Nat} {p q K : Bool} (h : K = ((decide (0 < n1) && decide (0 < n2) && decide (0 < n3) && decide (x < y)) || (decide (0 < n1) && !decide (0 < n2) && decide (0 < n3) && p && !q))) :
    (n1 = 0 ∧ K = false) ∨ (0 < n1 ∧ n2 = 0 ∧ n3 = 0 ∧ K = false) ∨ (0 < n1 ∧ n2 = 0 ∧ 0 < n3 ∧ p = false ∧ K = false) ∨ (0 < n1 ∧ n2 = 0 ∧ 0 < n3 ∧ p = true ∧ q = true ∧ K = false) ∨ (0 < n1 ∧ n2 = 0 ∧ 0 < n3 ∧ p = true ∧ q = false ∧ K = true) ∨ (0 < n1 ∧ 0 < n2 ∧ n3 = 0 ∧ K = false) ∨ (0 < n1 ∧ 0 < n2 ∧ 0 < n3 ∧ x < y ∧ K = true) ∨ (0 < n1 ∧ 0 < n2 ∧ 0 < n3 ∧ ¬ x < y ∧ K = false) := by
  rcases Nat.eq_zero_or_pos n1 with z1 | z1
  · exact .inl ⟨z1, by rw [h, z1]; simp⟩
  · rcases Nat.eq_zero_or_pos n2 with z2 | z2
    · rcases Nat.eq_zero_or_pos n3 with z3 | z3
      · exact .inr (.inl ⟨z1, z2, z3, by rw [h, z3]; simp⟩)
      · cases p
        · exact .inr (.inr (.inl ⟨z1, z2, z3, rfl, by rw [h, z2]; simp⟩))
        · cases q
          · exact .inr (.inr (.inr (.inr (.inl ⟨z1, z2, z3, rfl, rfl, by rw [h, z2]; simp [z1, z3]⟩))))
          · exact .inr (.inr (.inr (.inl ⟨z1, z2, z3, rfl, rfl, by rw [h, z2]; simp⟩)))
    · rcases Nat.eq_zero_or_pos n3 with z3 | z3
      · exact .inr (.inr (.inr (.inr (.inr (.inl ⟨z1, z2, z3, by rw [h, z3]; simp⟩)))))
      · by_cases c : x < y
        · exact .inr (.inr (.inr (.inr (.inr (.inr (.inl ⟨z1, z2, z3, c, by rw [h]; simp [z1, z2, z3, c]⟩))))))
        · exact .inr (.inr (.inr (.inr (.inr (.inr (.inr ⟨z1, z2, z3, c, by rw [h]; simp [z2, c]⟩))))))

set_option maxHeartbeats 400000000 in
set_option maxRecDepth 100000 in
theorem r17clash_any (V : Int) (A : Option Addr) (E : List (BitVec 32)) (c : Nat) (head : BitVec 32) (w : World) (hl : E.length ≤ 35184372087808) (hE : Rd w w.heap.size A (us E)) :
    Calls Tryz.prog 10 #[.agg #[.int .i64 V, .slice A E.length c], .int .u32 (uz head)] w fun e w' => ∃ (x y : Int) (ok : Bool) (code : Int), e = .returned (.tuple #[.int .i64 x, .int .i64 y, .bool ok, .int .i64 code]) ∧ Hid (ClashIs V E head x y ok code) ∧ Below w.heap.size w w' := by
  go_enter Tryz.func10, Tryz.ntmps10
  go_wp2_with fail
  have hb0 := below_alloc w (.cells #[.int .i64 V, .slice A E.length c] 36)
  have hG0 : Row (w.alloc (.cells #[.int .i64 V, .slice A E.length c] 36)) w.heap.size 36 [.int .i64 V, .slice A E.length c] := Row.new _ _ _
  generalize w.alloc _ = w0 at hb0 hG0 ⊢
  refine (r17good_any V A E c _ hl (hE.later hb0)).mono ?_
  rintro e w1 ⟨rfl, hb1⟩
  have hB1 := bthen hb0 hb1
  have hG1 := hG0.later hb1
  have hE1 := hE.later hB1
  have d0 : w1.cell? ⟨w.heap.size, 0, none⟩ = some (.int .i64 V) := hG1.cell 0
  have d1 : w1.cell? ⟨w.heap.size, 1, none⟩ = some (.slice A E.length c) := hG1.cell 1
  clear hb0 hG0 hb1 hE
  cases hv : goodB V E
  · have HC : Hid (ClashIs V E head 0 0 false 140) := Lib.hid (.inl ⟨hv, rfl, rfl, rfl, rfl⟩)
    clear hv
    go_wp2_with fail
    refine bodyPost_ret (v := .tuple #[.int .i64 0, .int .i64 0, .bool false, .int .i64 140]) (by simp [results, Tryz.results10, go_sem]) rfl ?_
    exact ⟨_, _, _, _, rfl, HC, hB1⟩
  · have h6 : E.length ≤ 6 := (goodB_iff.1 hv).2
    obtain ⟨hV0, hV30, _, _⟩ := validB_of (goodB_iff.1 hv).1
    obtain ⟨n, rfl⟩ : ∃ n : Nat, V = n := ⟨V.toNat, by omega⟩
    have HV := Lib.hid hv
    have HK : Hid (∀ x, Below w1.heap.size w1 x → Below w1.heap.size w1 x ∧ x.cell? ⟨w.heap.size, 0, none⟩ = some (.int .i64 n) ∧ x.cell? ⟨w.heap.size, 1, none⟩ = some (.slice A E.length c)) :=
      Lib.hid (fun x hx => ⟨hx, (hG1.later hx).cell 0, (hG1.later hx).cell 1⟩)
    have HE : Hid (∀ x, Below w1.heap.size w1 x → Rd x w1.heap.size A (us E)) := Lib.hid fun x hx => hE1.below hx
    clear hv hV0 hG1 hE1
    go_wp2_with fail
    clear d0 d1
    go_loopw [8] (fun i wr => ∃ x : Nat, x ≤ n ∧ i = .int .i64 x ∧ Hid (∀ a b : Nat, a < x → (b : Int) < n → clashB E head a b = false) ∧ Below w1.heap.size w1 wr) (fun i _ => n - (intOf i).toNat)
    case atStart => exact ⟨0, Nat.zero_le _, rfl, Lib.hid fun a b ha => absurd ha (Nat.not_lt_zero _), Below.refl _ _⟩
    case round =>
      obtain ⟨x, hx, rfl, hno, hbx⟩ := hrel
      obtain ⟨_, d0, d1⟩ := HK.out _ hbx
      by_cases hlt : x < n
      · have b1 : (0 : Int) ≤ x := by omega
        have b2 : (x : Int) < n := by omega
        go_wp2_with fail
        clear d0 d1
        go_loopg [9] n (fun gk j wr => ∃ y : Nat, y ≤ n ∧ gk = n - y ∧ j = .int .i64 y ∧ Hid (∀ b : Nat, b < y → clashB E head x b = false) ∧ Below w1.heap.size w1 wr)
        case atStart => exact ⟨0, Nat.zero_le _, rfl, rfl, Lib.hid fun b hb => absurd hb (Nat.not_lt_zero _), hbx⟩
        clear hbx
        case round =>
          obtain ⟨y, hy, rfl, rfl, hno2, hby⟩ := hrel
          obtain ⟨_, d0, d1⟩ := HK.out _ hby
          by_cases hlty : y < n
          · have b3 : (0 : Int) ≤ y := by omega
            have b4 : (y : Int) < n := by omega
            go_wp2_with fail
            clear d0 d1
            go_loopw [10, 11, 12, 13] (fun p q r i wr => ∃ k : Nat, k ≤ E.length ∧ i = .int .i64 k ∧ p = .int .i64 (cntE E (qB x y) k : Nat) ∧ q = .int .i64 (cntE E (qX x y) k : Nat) ∧ r = .int .i64 (cntE E (qX y x) k : Nat) ∧ Below w1.heap.size w1 wr) (fun _ _ _ i _ => E.length - (intOf i).toNat)
            case atStart => exact ⟨0, Nat.zero_le _, rfl, rfl, rfl, rfl, hby⟩
            clear hby
            case round =>
              obtain ⟨k, hk, rfl, rfl, rfl, rfl, hbz⟩ := hrel
              obtain ⟨_, d0, d1⟩ := HK.out _ hbz
              have c1 := cntE_le E (qB x y) k
              have c2 := cntE_le E (qX x y) k
              have c3 := cntE_le E (qX y x) k
              by_cases hlk : k < E.length
              · obtain ⟨ad, hA, _, hc⟩ := (HE.out _ hbz).e_at hlk
                subst hA
                have H1 : Hid (cntE E (qB x y) (k + 1) = cntE E (qB x y) k + if ((ed E k).getLsbD x && (ed E k).getLsbD y) then 1 else 0) := Lib.hid rfl
                have H2 : Hid (cntE E (qX x y) (k + 1) = cntE E (qX x y) k + if ((ed E k).getLsbD x && !(ed E k).getLsbD y) then 1 else 0) := Lib.hid rfl
                have H3 : Hid (cntE E (qX y x) (k + 1) = cntE E (qX y x) k + if ((ed E k).getLsbD y && !(ed E k).getLsbD x) then 1 else 0) := Lib.hid rfl
                have i1 := inB_nat (ed E k) x
                have i2 := inB_nat (ed E k) y
                have b5 : (0 : Int) ≤ k := by omega
                have b6 : (k : Int) < E.length := by omega
                generalize (ed E k).getLsbD x = px at H1 H2 H3 i1
                generalize (ed E k).getLsbD y = py at H1 H2 H3 i2
                generalize ed E k = z at hc i1 i2
                generalize cntE E (qB x y) k = n1 at c1 H1 ⊢
                generalize cntE E (qX x y) k = n2 at c2 H2 ⊢
                generalize cntE E (qX y x) k = n3 at c3 H3 ⊢
                clear hno hno2
                cases px <;> cases py
                · have K1 : Hid (cntE E (qB x y) (k + 1) = n1) := Lib.hid H1.out
                  have K2 : Hid (cntE E (qX x y) (k + 1) = n2) := Lib.hid H2.out
                  have K3 : Hid (cntE E (qX y x) (k + 1) = n3) := Lib.hid H3.out
                  clear H1 H2 H3
                  go_wp2_with fail
                  go_quiet (first | (go_at_call 38; exact pure_quiet (in_any z _)))
                  go_wp2_with fail
                  go_roundw
                  case measure => simp [intOf]; omega
                  case rel => exact ⟨k + 1, by omega, by go_num, by rw [K1.out], by rw [K2.out], by rw [K3.out], below_drewN hbz _⟩
                · have K1 : Hid (cntE E (qB x y) (k + 1) = n1) := Lib.hid H1.out
                  have K2 : Hid (cntE E (qX x y) (k + 1) = n2) := Lib.hid H2.out
                  have K3 : Hid (cntE E (qX y x) (k + 1) = n3 + 1) := Lib.hid H3.out
                  clear H1 H2 H3
                  go_wp2_with fail
                  go_quiet (first | (go_at_call 38; exact pure_quiet (in_any z _)))
                  go_wp2_with fail
                  go_roundw
                  case measure => simp [intOf]; omega
                  case rel => exact ⟨k + 1, by omega, by go_num, by rw [K1.out], by rw [K2.out], by rw [K3.out]; go_num, below_drewN hbz _⟩
                · have K1 : Hid (cntE E (qB x y) (k + 1) = n1) := Lib.hid H1.out
                  have K2 : Hid (cntE E (qX x y) (k + 1) = n2 + 1) := Lib.hid H2.out
                  have K3 : Hid (cntE E (qX y x) (k + 1) = n3) := Lib.hid H3.out
                  clear H1 H2 H3
                  go_wp2_with fail
                  go_quiet (first | (go_at_call 38; exact pure_quiet (in_any z _)))
                  go_wp2_with fail
                  go_roundw
                  case measure => simp [intOf]; omega
                  case rel => exact ⟨k + 1, by omega, by go_num, by rw [K1.out], by rw [K2.out]; go_num, by rw [K3.out], below_drewN hbz _⟩
                · have K1 : Hid (cntE E (qB x y) (k + 1) = n1 + 1) := Lib.hid H1.out
                  have K2 : Hid (cntE E (qX x y) (k + 1) = n2) := Lib.hid H2.out
                  have K3 : Hid (cntE E (qX y x) (k + 1) = n3) := Lib.hid H3.out
                  clear H1 H2 H3
                  go_wp2_with fail
                  go_quiet (first | (go_at_call 38; exact pure_quiet (in_any z _)))
                  go_wp2_with fail
                  go_roundw
                  case measure => simp [intOf]; omega
                  case rel => exact ⟨k + 1, by omega, by go_num, by rw [K1.out]; go_num, by rw [K2.out], by rw [K3.out], below_drewN hbz _⟩
              · obtain rfl : k = E.length := by omega
                have HCL : Hid (clashB E head x y = ((bothX E x y && onlyX E x y && onlyX E y x && decide (x < y)) || (bothX E x y && !onlyX E x y && onlyX E y x && head.getLsbD x && !head.getLsbD y))) := Lib.hid rfl
                rw [bothX_cnt, onlyX_cnt E x y, onlyX_cnt E y x] at HCL
                have HR : Hid (clashB E head x y = false → ∀ b : Nat, b < y + 1 → clashB E head x b = false) := Lib.hid fun e b hb => by
                  rcases Nat.lt_or_ge b y with h | h
                  · exact hno2.out b h
                  · obtain rfl : b = y := by omega
                    exact e
                have HT : Hid (clashB E head x y = true → ClashIs n E head x y true 0) := Lib.hid fun e => .inr (.inr ⟨HV.out, rfl, rfl, x, y, rfl, rfl, b2, b4, e, hno.out, fun d hd => hno2.out d hd⟩)
                have i1 := inB_nat head x
                have i2 := inB_nat head y
                have hBz : Below w.heap.size w wr := hB1.trans (hbz.mono hB1.size)
                clear hno hno2
                generalize clashB E head x y = K at HCL HR HT
                generalize cntE E (qB x y) E.length = n1 at c1 HCL ⊢
                generalize cntE E (qX x y) E.length = n2 at c2 HCL ⊢
                generalize cntE E (qX y x) E.length = n3 at c3 HCL ⊢
                generalize head.getLsbD x = p at HCL i1
                generalize head.getLsbD y = q at HCL i2
                have HD : Hid ((n1 = 0 ∧ K = false) ∨ (0 < n1 ∧ n2 = 0 ∧ n3 = 0 ∧ K = false) ∨ (0 < n1 ∧ n2 = 0 ∧ 0 < n3 ∧ p = false ∧ K = false) ∨ (0 < n1 ∧ n2 = 0 ∧ 0 < n3 ∧ p = true ∧ q = true ∧ K = false) ∨ (0 < n1 ∧ n2 = 0 ∧ 0 < n3 ∧ p = true ∧ q = false ∧ K = true) ∨ (0 < n1 ∧ 0 < n2 ∧ n3 = 0 ∧ K = false) ∨ (0 < n1 ∧ 0 < n2 ∧ 0 < n3 ∧ x < y ∧ K = true) ∨ (0 < n1 ∧ 0 < n2 ∧ 0 < n3 ∧ ¬ x < y ∧ K = false)) := Lib.hid (clash_tree HCL.out)
                clear HCL
                rcases HD.out with ⟨rfl, hK⟩ | ⟨z1, rfl, rfl, hK⟩ | ⟨z1, rfl, z3, rfl, hK⟩ | ⟨z1, rfl, z3, rfl, rfl, hK⟩ | ⟨z1, rfl, z3, rfl, rfl, hK⟩ | ⟨z1, z2, rfl, hK⟩ | ⟨z1, z2, z3, hxy, hK⟩ | ⟨z1, z2, z3, hxy, hK⟩
                all_goals clear HD
                all_goals try have g1 : decide (0 < n1) = true := decide_eq_true z1
                all_goals try have g2 : decide (0 < n2) = true := decide_eq_true z2
                all_goals try have g3 : decide (0 < n3) = true := decide_eq_true z3
                all_goals try have e2 : (n2 == 0) = false := by rw [beq_eq_false_iff_ne]; omega
                all_goals try have e3 : ((n2 : Int) == 0) = false := by rw [beq_eq_false_iff_ne]; omega
                all_goals try have f1 : decide (x < y) = true := decide_eq_true (by omega)
                all_goals try have f1 : decide (x < y) = false := decide_eq_false (by omega)
                all_goals try clear z1
                all_goals try clear z2
                all_goals try clear z3
                all_goals try clear hxy
                all_goals first
                  | (have HF := Lib.hid (HR.out hK)
                     clear hK HT HR
                     go_wp2_with (go_at_call 38; refine (in_any _ _ _).mono ?_; rintro e w' ⟨rfl, rfl⟩)
                     go_roundg (n - (y + 1))
                     case measure => omega
                     case rel => exact ⟨y + 1, by omega, rfl, by go_num, HF, hbz⟩)
                  | (have HF := Lib.hid (HT.out hK)
                     clear hK HT HR
                     go_wp2_with (go_at_call 38; refine (in_any _ _ _).mono ?_; rintro e w' ⟨rfl, rfl⟩)
                     refine bodyPost_ret (v := .tuple #[.int .i64 x, .int .i64 y, .bool true, .int .i64 0]) (by simp [results, Tryz.results10, go_sem]) rfl ?_
                     exact ⟨_, _, _, _, rfl, HF, hBz⟩)
          · obtain rfl : y = n := by omega
            go_wp2_with fail
            go_roundw
            case rel =>
              refine ⟨x + 1, by omega, by go_num, Lib.hid fun a b ha hb => ?_, hby⟩
              rcases Nat.lt_or_ge a x with h | h
              · exact hno.out a b h hb
              · obtain rfl : a = x := by omega
                exact hno2.out b (by omega)
            case measure => simp [intOf]; omega
      · obtain rfl : x = n := by omega
        have HC : Hid (ClashIs x E head 0 0 false 0) := Lib.hid (.inr (.inl ⟨HV.out, rfl, rfl, rfl, rfl, fun a b ha hb => hno.out a b (by omega) hb⟩))
        go_wp2_with fail
        refine bodyPost_ret (v := .tuple #[.int .i64 0, .int .i64 0, .bool false, .int .i64 0]) (by simp [results, Tryz.results10, go_sem]) rfl ?_
        exact ⟨_, _, _, _, rfl, HC, hB1.trans (hbx.mono hB1.size)⟩
end Go.Proofs.YtdemmjofggemhaaGreatDoor

/- The plain laws of ClassifyChain and ClassifyAlike. -/
namespace Go.Proofs.YtdemmjofggemhaaGreatDoor

theorem clash_hier {V : Int} {E : List (BitVec 32)} {head : BitVec 32} {p q : Int} {ok : Bool} (hg : goodB V E = true) (h : ClashIs V E head p q ok 0) : ok = !hierB V.toNat E head := by
  obtain ⟨h0, h1, _, _⟩ := validB_of (goodB_iff.1 hg).1
  rcases h with ⟨g, _⟩ | ⟨_, _, _, rfl, _, hn⟩ | ⟨_, rfl, _, a, b, _, _, ha, hb, hc, _⟩
  · rw [hg] at g; cases g
  · have : hierB V.toNat E head = true := hierB_iff.2 fun a b ha hb => hn a b (by omega) (by omega)
    rw [this]; rfl
  · have : hierB V.toNat E head = false := by
      rw [← Bool.not_eq_true]
      intro hh
      have := hierB_iff.1 hh a b (by omega) (by omega)
      rw [hc] at this; cases this
    rw [this]; rfl
theorem good_lt {V : Int} {E : List (BitVec 32)} (hg : goodB V E = true) : ∀ e ∈ E, ∀ v, hv e v → v < V.toNat := fun e he v hh => by
  obtain ⟨hv, _⟩ := goodB_iff.1 hg
  obtain ⟨h0, h1, _, _⟩ := validB_of hv
  apply Classical.byContradiction
  intro c
  have := outB_true_of h0 h1 (k := v) (by omega) (x := e) (by rw [inB_nat]; exact hh)
  rw [validB_out hv e he] at this
  cases this
end Go.Proofs.YtdemmjofggemhaaGreatDoor

/- The contract of osierref17.Classify. -/
namespace Go.Proofs.YtdemmjofggemhaaGreatDoor
open Go.RowKit

end Go.Proofs.YtdemmjofggemhaaGreatDoor
