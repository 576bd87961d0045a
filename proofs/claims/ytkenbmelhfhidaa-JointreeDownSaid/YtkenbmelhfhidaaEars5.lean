/- The contracts of ears.begin and ears.left. -/
import Derived.Test.YtkenbmelhfhidaaStMem
namespace Go.Proofs.Ytkenbmelhfhidaa
open Go.RowKit

attribute [local go_sem ↓] uz_and uz_or uz_andNot uz_and_one uz_shr uz_shl_one uz_shl uz_sub uz_sub_one uz_add uz_beq_zero uz_bne_zero uz_beq uz_bne uz_beq_one
attribute [local go_sem ↓] Go.wp_at_zero Go.wp_at_succ

def begS (E : List (BitVec 32)) (k : Nat) : Nat → BitVec 32 := fun i => if i < k then ed E i else 0#32
def begT (k : Nat) : Nat → Bool := fun i => decide (i < k)
theorem begS_next (E : List (BitVec 32)) (k : Nat) : updS (begS E k) k (ed E k) = begS E (k + 1) := by
  funext i
  unfold updS begS
  by_cases e : i = k
  · subst e; simp
  · rw [if_neg e]
    by_cases c : i < k
    · rw [if_pos c, if_pos (by omega)]
    · rw [if_neg c, if_neg (by omega)]
theorem begT_next (k : Nat) : updT (begT k) k true = begT (k + 1) := by
  funext i
  unfold updT begT
  by_cases e : i = k
  · subst e; simp
  · rw [if_neg e]; exact decide_eq_decide.2 (by omega)
theorem begS_all (E : List (BitVec 32)) : begS E E.length = ed E := by
  funext i
  unfold begS
  split
  · rfl
  · unfold ed; rw [List.getD_eq_getElem?_getD, List.getElem?_eq_none (by omega)]; rfl
theorem rem_start (w : World) (n : Nat) (keep : BitVec 32) (E : List (BitVec 32)) : Rem (w.alloc (.cells #[.int .u32 0, .int .u32 0, .int .u32 0, .int .u32 0, .int .u32 0, .int .u32 0, .int .u32 0, .bool false, .bool false, .bool false, .bool false, .bool false, .bool false, .bool false, .int .i64 n, .int .u32 (uz keep)] 135)) w.heap.size (begS E 0) (begT 0) n keep :=
  Row.new w 135 (remL (begS E 0) (begT 0) n keep)

set_option maxHeartbeats 2000000 in
set_option maxRecDepth 100000 in
theorem begin_any (V : Int) (A : Option Addr) (E : List (BitVec 32)) (c : Nat) (keep : BitVec 32) (w : World) (h7 : E.length ≤ 7) (hE : Rd w w.heap.size A (us E)) :
    Calls Try.prog 90 #[.agg #[.int .i64 V, .slice A E.length c], .int .u32 (uz keep)] w fun e w' => ∃ g, e = .returned (.pointer (some ⟨g, 0, none⟩)) ∧ w.heap.size ≤ g ∧ Rem w' g (ed E) (begT E.length) E.length keep ∧ Below w.heap.size w w' := by
  go_enter Try.func90, Try.ntmps90
  go_upto_region 1 with fail
  have hb0 := below_alloc w (.cells #[.int .i64 V, .slice A E.length c] 24)
  have hG0 : Row (w.alloc (.cells #[.int .i64 V, .slice A E.length c] 24)) w.heap.size 24 [.int .i64 V, .slice A E.length c] := Row.new _ _ _
  have d1 : (w.alloc (.cells #[.int .i64 V, .slice A E.length c] 24)).cell? ⟨w.heap.size, 1, none⟩ = some (.slice A E.length c) := hG0.cell 1
  generalize w.alloc _ = W0 at hb0 hG0 d1 ⊢
  have hE0 := hE.later hb0
  have hlt : w.heap.size < W0.heap.size := hG0.lt
  go_upto_region 3 with fail
  have hR := rem_start W0 E.length keep E
  have hbx := below_alloc W0 (.cells #[.int .u32 0, .int .u32 0, .int .u32 0, .int .u32 0, .int .u32 0, .int .u32 0, .int .u32 0, .bool false, .bool false, .bool false, .bool false, .bool false, .bool false, .bool false, .int .i64 E.length, .int .u32 (uz keep)] 135)
  generalize hg : W0.heap.size = g at hR hbx ⊢
  have hB1 := hb0.trans (hbx.mono (by omega) : Below w.heap.size W0 _)
  have hE1 := (hE0.below (hg ▸ hbx)).mono (hbx.size)
  generalize W0.alloc _ = W1 at hR hbx hB1 hE1 ⊢
  go_loopw [6, 7, 17] (fun _ _ j wr => ∃ k : Nat, k ≤ E.length ∧ j = .int .i64 k ∧ Rem wr g (begS E k) (begT k) E.length keep ∧ Below g W1 wr) (fun _ _ j _ => E.length - (intOf j).toNat)
  case atStart => exact ⟨0, Nat.zero_le _, rfl, hR, Below.refl _ _⟩
  case round =>
    obtain ⟨k, hk, rfl, hRk, hbk⟩ := hrel
    by_cases hlt2 : k < E.length
    · have hEk : Rd wr W0.heap.size A (us E) := (hE0.below (by rw [hg]; exact hbx)).below (by rw [hg]; exact hbk)
      obtain ⟨ad, hA, had, hc⟩ := hEk.e_at hlt2
      subst hA
      have a1 : (0 : Int) ≤ k := by omega
      have a2 : (k : Int) < 7 := by omega
      have c1 := hRk.set_cell (show k < 7 by omega)
      have c2 := hRk.there_cell (show k < 7 by omega)
      have f1 := Row.frozen hRk k
      have f2 := Row.frozen hRk (7 + k)
      have HS := Lib.hid (begS_next E k)
      have HT := Lib.hid (begT_next k)
      generalize ed E k = x at hc HS
      generalize begS E k k = s0 at c1
      go_upto_region 5 with fail
      go_region_with (fail)
      all_goals
        go_wp2_with fail
        go_roundw
        case rel =>
          refine ⟨k + 1, by omega, by go_num, ?_, ((hbk.setCell (Nat.le_refl _) _).setCell (Nat.le_refl _) _).drew⟩
          have h2 := (hRk.setS (x := x) (show k < 7 by omega)).setT (b := true) (show k < 7 by omega)
          rw [HS.out, HT.out] at h2
          exact h2
        case measure => simp [intOf]; omega
    · obtain rfl : k = E.length := by omega
      rw [begS_all] at hRk
      go_wp2_with fail
      go_ret
      exact ⟨g, rfl, by omega, hRk, hB1.trans (hbk.mono (by omega))⟩

set_option maxHeartbeats 2000000 in
set_option maxRecDepth 100000 in
theorem left_any (w : World) (g n : Nat) (S : Nat → BitVec 32) (T : Nat → Bool) (keep : BitVec 32) (h : Rem w g S T n keep) (hn : n ≤ 7) :
    Calls Try.prog 93 #[.pointer (some ⟨g, 0, none⟩)] w fun e w' => ∃ v, e = .returned v ∧ w'.ownsRow w.heap.size 118 2 v (lefts S T n).length (lfs (lefts S T n)) ∧ Below w.heap.size w w' := by
  have hg := Row.lt h
  have c3 := h.n_cell
  go_enter Try.func93, Try.ntmps93
  go_wp2_with fail
  go_loopw [3, 4, 9] (fun v _ j wr => ∃ k : Nat, k ≤ n ∧ j = .int .i64 k ∧ wr.ownsRow w.heap.size 118 2 v (lefts S T k).length (lfs (lefts S T k)) ∧ Below w.heap.size w wr) (fun _ _ j _ => n - (intOf j).toNat)
  case atStart => exact ⟨0, Nat.zero_le _, rfl, ⟨rfl, .inl ⟨rfl, rfl⟩⟩, Below.refl _ _⟩
  case round =>
    obtain ⟨k, hk, rfl, hown, hb⟩ := hrel
    have hRk := h.later hb
    have hlen : (lefts S T k).length ≤ k := by
      clear hown
      induction k with
      | zero => exact Nat.le_refl _
      | succ k ih =>
        rw [lefts_succ, List.length_append]
        have := ih (by omega)
        have : (leftOf S T k).length ≤ 1 := by unfold leftOf; split <;> simp
        omega
    by_cases hlt : k < n
    · have a1 : (0 : Int) ≤ k := by omega
      have a2 : (k : Int) < 7 := by omega
      have c1 := hRk.set_cell (show k < 7 by omega)
      have c2 := hRk.there_cell (show k < 7 by omega)
      have HL := Lib.hid (lefts_succ S T k)
      cases hT : T k
      · have HN : Hid (lefts S T (k + 1) = lefts S T k) := Lib.hid (by rw [HL.out]; unfold leftOf; rw [hT]; simp)
        rw [hT] at c2
        clear hT
        go_wp2_with fail
        go_roundw
        case rel => exact ⟨k + 1, by omega, by go_num, by rw [HN.out]; exact hown, hb⟩
        case measure => simp [intOf]; omega
      · have HN : Hid (lefts S T (k + 1) = lefts S T k ++ [(k, S k)]) := Lib.hid (by rw [HL.out]; unfold leftOf; rw [hT]; simp)
        rw [hT] at c2
        clear hT
        generalize S k = x at c1 HN
        generalize hL : lefts S T k = L at hown hlen HN
        go_wp2_with ((with_reducible show wpList _ _ _ _ _ _); refine app_left rfl (.tmp 18) (.tmp 27) rfl w.heap.size _ L (k, x) rfl rfl hown (by omega) hb.size ?_)
        intro v' w' hown' _ hb'
        go_wp2_with fail
        go_roundw
        case rel => exact ⟨k + 1, by omega, by go_num, by rw [HN.out]; rw [List.length_append]; exact hown', hb.trans hb'⟩
        case measure => simp [intOf]; omega
    · obtain rfl : k = n := by omega
      go_wp2_with fail
      go_ret
      exact ⟨_, rfl, hown, hb⟩
end Go.Proofs.Ytkenbmelhfhidaa
