/- Several texts in one: Ears1 Ears2 Ears3 Ears4 StMem Ears5 Ears6 StMem2 R15a StepApp2 R15b. -/
import Derived.Test.YtdemmjofggemhaaDoorBA
import Derived.Test.YtdemmjofggemhaaDoorBB
import Derived.Deep.RegionWith
import Derived.Deep.DrawnRows
import Derived.StillTailTactics
import Derived.Deep.AppendLies
import Derived.Deep.RegionLaw
/- A removal in memory; the contracts of ears.kind and ears.lonely. -/
namespace Go.Proofs.YtdemmjofggemhaaDoor
open Go.RowKit

attribute [local go_sem ↓] uz_and uz_or uz_andNot uz_and_one uz_shr uz_shl_one uz_shl uz_sub uz_sub_one uz_add uz_beq_zero uz_bne_zero uz_beq uz_bne uz_beq_one

/-- The cells of a removal: seven sets, which are there, how many, what is kept. -/
def remL (S : Nat → BitVec 32) (T : Nat → Bool) (n : Nat) (keep : BitVec 32) : List Value :=
  (List.range 16).map fun i => if i < 7 then .int .u32 (uz (S i)) else if i < 14 then .bool (T (i - 7)) else if i = 14 then .int .i64 n else .int .u32 (uz keep)
theorem remL_at (S : Nat → BitVec 32) (T : Nat → Bool) (n : Nat) (keep : BitVec 32) (i : Nat) (h : i < 16) : (remL S T n keep)[i]? = some (if i < 7 then .int .u32 (uz (S i)) else if i < 14 then .bool (T (i - 7)) else if i = 14 then .int .i64 n else .int .u32 (uz keep)) := by
  simp [remL, h]
theorem remL_set (S S' : Nat → BitVec 32) (T T' : Nat → Bool) (n : Nat) (keep : BitVec 32) (k : Nat) (v : Value) (hk : k < 16) (h : ∀ i, i < 16 → (remL S' T' n keep)[i]? = if i = k then some v else (remL S T n keep)[i]?) : (remL S T n keep).set k v = remL S' T' n keep := by
  apply List.ext_getElem?
  intro i
  rw [List.getElem?_set]
  have hl : ∀ S T, (remL S T n keep).length = 16 := fun S T => by simp [remL]
  by_cases hi : i < 16
  · rw [h i hi]
    by_cases e : k = i
    · subst e; rw [if_pos rfl, if_pos rfl, if_pos (by rw [hl]; exact hk)]
    · rw [if_neg e, if_neg (Ne.symm e)]
  · rw [if_neg (by omega), List.getElem?_eq_none (by rw [hl]; omega), List.getElem?_eq_none (by rw [hl]; omega)]
theorem remL_setS (S : Nat → BitVec 32) (T : Nat → Bool) (n : Nat) (keep : BitVec 32) (k : Nat) (x : BitVec 32) (hk : k < 7) : (remL S T n keep).set k (.int .u32 (uz x)) = remL (updS S k x) T n keep :=
  remL_set S _ T T n keep k _ (by omega) fun i hi => by
    rw [remL_at _ _ _ _ i hi, remL_at _ _ _ _ i hi]
    by_cases e : i = k
    · subst e; rw [if_pos rfl, if_pos hk]; simp [updS]
    · rw [if_neg e]; simp [updS, e]
theorem remL_setT (S : Nat → BitVec 32) (T : Nat → Bool) (n : Nat) (keep : BitVec 32) (k : Nat) (b : Bool) (hk : k < 7) : (remL S T n keep).set (7 + k) (.bool b) = remL S (updT T k b) n keep :=
  remL_set S S T _ n keep (7 + k) _ (by omega) fun i hi => by
    rw [remL_at _ _ _ _ i hi, remL_at _ _ _ _ i hi]
    by_cases e : i = 7 + k
    · subst e; rw [if_pos rfl, if_neg (by omega), if_pos (by omega)]; simp [updT]
    · rw [if_neg e]
      by_cases e1 : i < 7
      · rw [if_pos e1, if_pos e1]
      · rw [if_neg e1, if_neg e1]
        by_cases e2 : i < 14
        · rw [if_pos e2, if_pos e2]; simp [updT, show ¬ i - 7 = k by omega]
        · rw [if_neg e2, if_neg e2]
/-- Block g is a removal. -/
def Rem (w : World) (g : Nat) (S : Nat → BitVec 32) (T : Nat → Bool) (n : Nat) (keep : BitVec 32) : Prop := Row w g 132 (remL S T n keep)
section
variable {w w' : World} {g n : Nat} {S : Nat → BitVec 32} {T : Nat → Bool} {keep : BitVec 32} {B : Nat}
theorem Rem.set_cell (h : Rem w g S T n keep) {k : Nat} (hk : k < 7) : w.cell? ⟨g, k, none⟩ = some (.int .u32 (uz (S k))) := by
  rw [Row.cell h, remL_at _ _ _ _ k (by omega), if_pos hk]
theorem Rem.there_cell (h : Rem w g S T n keep) {k : Nat} (hk : k < 7) : w.cell? ⟨g, 7 + k, none⟩ = some (.bool (T k)) := by
  rw [Row.cell h, remL_at _ _ _ _ (7 + k) (by omega), if_neg (by omega), if_pos (by omega)]; simp
theorem Rem.n_cell (h : Rem w g S T n keep) : w.cell? ⟨g, 14, none⟩ = some (.int .i64 n) := by
  rw [Row.cell h, remL_at _ _ _ _ 14 (by omega)]; simp
theorem Rem.keep_cell (h : Rem w g S T n keep) : w.cell? ⟨g, 15, none⟩ = some (.int .u32 (uz keep)) := by
  rw [Row.cell h, remL_at _ _ _ _ 15 (by omega)]; simp
theorem Rem.below (h : Rem w g S T n keep) (hb : Below B w w') (hg : g < B) : Rem w' g S T n keep := Row.below h hb hg
theorem Rem.later (h : Rem w g S T n keep) (hb : Below w.heap.size w w') : Rem w' g S T n keep := Row.later h hb
theorem Rem.drewN (h : Rem w g S T n keep) (m : Nat) : Rem (w.drewN m) g S T n keep := h
end

theorem kind_any (w : World) (g n : Nat) (S : Nat → BitVec 32) (T : Nat → Bool) (keep : BitVec 32) (h : Rem w g S T n keep) (i j : Nat) (hi : i < 7) (hj : j < 7) :
    Calls Tryd.prog 67 #[.pointer (some ⟨g, 0, none⟩), .int .i64 i, .int .i64 j] w fun e w' => e = .returned (.int .i64 (kindZ S T i j)) ∧ ∃ m, w' = w.drewN m := by
  have a1 : (0 : Int) ≤ i := by omega
  have a2 : (i : Int) < 7 := by omega
  have a3 : (0 : Int) ≤ j := by omega
  have a4 : (j : Int) < 7 := by omega
  have c1 := h.set_cell hi
  have c2 := h.set_cell hj
  have c3 := h.there_cell hi
  have c4 := h.there_cell hj
  by_cases hij : i = j
  · have e : ((i : Int) == (j : Int)) = true := by simp [hij]
    have hk : kindZ S T i j = 0 := by unfold kindZ; rw [if_pos (.inl hij)]
    rw [hk]
    clear hij hk
    go_enter Tryd.func67, Tryd.ntmps67
    go_wp2_with fail
    all_goals go_ret
    all_goals exact ⟨rfl, 0, rfl⟩
  · have e : ((i : Int) == (j : Int)) = false := by simp; omega
    have hk : kindZ S T i j = if T i = false ∨ T j = false then 0 else if S i = S j then 2 else if subB (S i) (S j) = true then 3 else 0 := by
      unfold kindZ; simp [hij]
    rw [hk]
    clear hk hij
    unfold subB
    generalize T i = ti at c3
    generalize T j = tj at c4
    generalize S i = si at c1
    generalize S j = sj at c2
    cases ti
    · simp only [true_or, if_true]
      go_enter Tryd.func67, Tryd.ntmps67
      go_wp2_with fail
      all_goals go_ret
      all_goals exact ⟨rfl, 0, rfl⟩
    · cases tj
      · simp only [or_true, if_true]
        go_enter Tryd.func67, Tryd.ntmps67
        go_wp2_with fail
        all_goals go_ret
        all_goals exact ⟨rfl, 0, rfl⟩
      · simp only [Bool.true_eq_false, or_self, if_false]
        by_cases hs : si = sj
        · have hb : (si == sj) = true := by simp [hs]
          rw [if_pos hs]
          clear hs
          go_enter Tryd.func67, Tryd.ntmps67
          go_wp2_with fail
          go_quiet (fail)
          go_wp2_with fail
          go_ret
          exact ⟨rfl, _, rfl⟩
        · have hb : (si == sj) = false := by simp [hs]
          rw [if_neg hs]
          clear hs
          cases hz : (si &&& ~~~sj == 0#32)
          all_goals
            go_enter Tryd.func67, Tryd.ntmps67
            go_wp2_with fail
            go_quiet (fail)
            go_wp2_with fail
            go_quiet (fail)
            go_wp2_with fail
            go_ret
            exact ⟨rfl, _, rfl⟩
theorem lonely_any (w : World) (g n : Nat) (S : Nat → BitVec 32) (T : Nat → Bool) (keep : BitVec 32) (h : Rem w g S T n keep) (hn : n ≤ 7) (i : Nat) (hi : i < 7) :
    Calls Tryd.prog 66 #[.pointer (some ⟨g, 0, none⟩), .int .i64 i] w fun e w' => e = .returned (.int .u32 (uz (loneTo S T keep i n))) ∧ ∃ m, w' = w.drewN m := by
  have a1 : (0 : Int) ≤ i := by omega
  have a2 : (i : Int) < 7 := by omega
  have c1 := h.set_cell hi
  have c2 := h.keep_cell
  have c3 := h.n_cell
  obtain ⟨l0, hl0⟩ : ∃ l, loneTo S T keep i 0 = l := ⟨_, rfl⟩
  have hd : S i &&& ~~~keep = l0 := hl0
  go_enter Tryd.func66, Tryd.ntmps66
  go_wp2_with fail
  go_quiet (fail)
  go_wp2_with fail
  go_loopw [5, 6, 22] (fun s _ j wr => ∃ k : Nat, k ≤ n ∧ j = .int .i64 k ∧ s = .int .u32 (uz (loneTo S T keep i k)) ∧ ∃ m, wr = w.drewN m) (fun _ _ j _ => n - (intOf j).toNat)
  case atStart => exact ⟨0, Nat.zero_le _, rfl, by rw [hl0], _, rfl⟩
  case round =>
    obtain ⟨k, hk, rfl, rfl, m, rfl⟩ := hrel
    have h' := h.drewN m
    by_cases hlt : k < n
    · have b1 : (0 : Int) ≤ k := by omega
      have b2 : (k : Int) < 7 := by omega
      have d1 := h'.set_cell (show k < 7 by omega)
      have d2 := h'.there_cell (show k < 7 by omega)
      by_cases hki : k = i
      · have hb : ((k : Int) != (i : Int)) = false := by simp [hki]
        have HS := Lib.hid (loneTo_f (S := S) (T := T) (keep := keep) (i := i) (k := k) (fun c => c.1 hki))
        clear hki hd hl0
        generalize S k = sk at d1
        generalize T k = tk at d2
        go_wp2_with fail
        go_roundw
        case rel => exact ⟨k + 1, by omega, by go_num, by rw [HS.out], _, rfl⟩
        case measure => simp [intOf]; omega
      · have hb : ((k : Int) != (i : Int)) = true := by simp; omega
        cases ht : T k
        · have HS := Lib.hid (loneTo_f (S := S) (T := T) (keep := keep) (i := i) (k := k) (fun c => by rw [ht] at c; cases c.2))
          rw [ht] at d2
          clear hki hd hl0 ht
          generalize S k = sk at d1
          go_wp2_with fail
          go_roundw
          case rel => exact ⟨k + 1, by omega, by go_num, by rw [HS.out], _, rfl⟩
          case measure => simp [intOf]; omega
        · have HS := Lib.hid (loneTo_t (S := S) (T := T) (keep := keep) (i := i) (k := k) hki ht)
          rw [ht] at d2
          clear hki hd hl0 ht
          generalize S k = sk at d1 HS
          go_wp2_with fail
          go_roundw
          case rel => exact ⟨k + 1, by omega, by go_num, by rw [HS.out], _, rfl⟩
          case measure => simp [intOf]; omega
    · obtain rfl : k = n := by omega
      go_wp2_with fail
      go_ret
      exact ⟨rfl, _, rfl⟩
end Go.Proofs.YtdemmjofggemhaaDoor

/- The contract of ears.next. -/
namespace Go.Proofs.YtdemmjofggemhaaDoor
open Go.RowKit

attribute [local go_sem ↓] uz_and uz_or uz_andNot uz_and_one uz_shr uz_shl_one uz_shl uz_sub uz_sub_one uz_add uz_beq_zero uz_bne_zero uz_beq uz_bne uz_beq_one

/-- What next answers. -/
def NextPost (S : Nat → BitVec 32) (T : Nat → Bool) (n : Nat) (keep : BitVec 32) (w : World) (e : Ending) (w' : World) : Prop :=
  ∃ (s : Stp) (b : Bool), e = .returned (.tuple #[.agg #[.int .i64 s.kind, .int .i64 s.edge, .int .i64 s.into, .int .u32 (uz s.cut)], .bool b]) ∧ Hid (nextS S T n keep = if b = true then some s else none) ∧ Below w.heap.size w w'

theorem noTrim_next {S : Nat → BitVec 32} {T : Nat → Bool} {n k : Nat} {keep : BitVec 32} (h : noTrim S T n keep k) (hk : T k = true → loneTo S T keep k n = 0#32) : noTrim S T n keep (k + 1) := fun i hi hT => by
  rcases Nat.lt_or_ge i k with c | c
  · exact h i c hT
  · obtain rfl : i = k := by omega
    exact hk hT
theorem upto_next {P : Nat → Prop} {k : Nat} (h : ∀ b, b < k → P b) (hk : P k) : ∀ b, b < k + 1 → P b := fun b hb => by
  rcases Nat.lt_or_ge b k with c | c
  · exact h b c
  · obtain rfl : b = k := by omega
    exact hk

set_option maxHeartbeats 2000000 in
set_option maxRecDepth 100000 in
theorem next_any (w : World) (g n : Nat) (S : Nat → BitVec 32) (T : Nat → Bool) (keep : BitVec 32) (h : Rem w g S T n keep) (hn : n ≤ 7) :
    Calls Tryd.prog 46 #[.pointer (some ⟨g, 0, none⟩)] w (NextPost S T n keep w) := by
  go_enter Tryd.func46, Tryd.ntmps46
  have hg := Row.lt h
  go_upto_region 1 with fail
  have hb0 := below_alloc w (.cells #[.int .i64 0, .int .i64 0, .int .i64 0, .int .u32 0] 84)
  have hR0 : Row (w.alloc (.cells #[.int .i64 0, .int .i64 0, .int .i64 0, .int .u32 0] 84)) w.heap.size 84 [.int .i64 0, .int .i64 0, .int .i64 0, .int .u32 0] := Row.new _ _ _
  have h0 := h.later hb0
  generalize w.alloc _ = W0 at hb0 hR0 h0 ⊢
  have hz : w.heap.size < W0.heap.size := hR0.lt
  have c3 := h0.n_cell
  have z0 : W0.cell? ⟨w.heap.size, 0, none⟩ = some (.int .i64 0) := hR0.cell 0
  have z1 : W0.cell? ⟨w.heap.size, 1, none⟩ = some (.int .i64 0) := hR0.cell 1
  have z2 : W0.cell? ⟨w.heap.size, 2, none⟩ = some (.int .i64 0) := hR0.cell 2
  have z3 : W0.cell? ⟨w.heap.size, 3, none⟩ = some (.int .u32 0) := hR0.cell 3
  have f0 := hR0.frozen 0
  have f1 := hR0.frozen 1
  have f2 := hR0.frozen 2
  have f3 := hR0.frozen 3
  clear h
  go_wp2_with fail
  go_loopw [4, 5, 14] (fun _ _ j wr => ∃ k : Nat, k ≤ n ∧ j = .int .i64 k ∧ Hid (noTrim S T n keep k) ∧ ∃ m, wr = W0.drewN m) (fun _ _ j _ => n - (intOf j).toNat)
  case atStart => exact ⟨0, Nat.zero_le _, rfl, Lib.hid (fun i hi => absurd hi (Nat.not_lt_zero i)), 0, rfl⟩
  case round =>
    obtain ⟨k, hk, rfl, hno, m, rfl⟩ := hrel
    have h1 := h0.drewN m
    by_cases hlt : k < n
    · have a1 : (0 : Int) ≤ k := by omega
      have a2 : (k : Int) < 7 := by omega
      have hT := fun m => (h0.drewN m).there_cell (show k < 7 by omega)
      have hL := lonely_any (W0.drewN m) g n S T keep h1 hn k (by omega)
      have HNx := Lib.hid (noTrim_next (k := k) hno.out)
      have HTr := Lib.hid (next_trim (S := S) (T := T) (n := n) (keep := keep) hno.out hlt)
      generalize loneTo S T keep k n = l at hL HNx HTr
      generalize T k = tk at hT HNx HTr
      have HT := Lib.hid hT
      clear hT
      go_wp2_with fail
      refine hL.mono ?_
      rintro e w1 ⟨rfl, m1, rfl⟩
      have d1 := HT.out m1
      have d2 : (W0.drewN (m + m1)).cell? ⟨g, 7 + k, none⟩ = some (.bool tk) := HT.out _
      cases tk
      · go_wp2_with fail
        go_roundw
        case rel => exact ⟨k + 1, by omega, by go_num, Lib.hid (HNx.out (fun c => by cases c)), _, rfl⟩
        case measure => simp [intOf]; omega
      · by_cases hl : l = 0#32
        · have hb : (l != 0#32) = false := by simp [hl]
          have HN2 := Lib.hid (HNx.out (fun _ => hl))
          clear hl
          go_wp2_with fail
          go_roundw
          case rel => exact ⟨k + 1, by omega, by go_num, HN2, _, rfl⟩
          case measure => simp [intOf]; omega
        · have hb : (l != 0#32) = true := by simp [hl]
          have HS := Lib.hid (HTr.out rfl hl)
          clear hl
          go_wp2_with fail
          refine bodyPost_ret (v := .tuple #[.agg #[.int .i64 1, .int .i64 k, .int .i64 0, .int .u32 (uz l)], .bool true]) (by simp [results, Tryd.results46, go_sem, z0, z1, z2, z3]) rfl ⟨⟨1, k, 0, l⟩, true, rfl, Lib.hid (by rw [HS.out]; rfl), ?_⟩
          exact ((((below_drewN hb0 _).setCell (Nat.le_refl _) _).setCell (Nat.le_refl _) _).setCell (Nat.le_refl _) _).setCell (Nat.le_refl _) _
    · obtain rfl : k = n := by omega
      go_wp2_with fail
      go_loopw [6, 7, 38] (fun _ _ j wr => ∃ a : Nat, a ≤ k ∧ j = .int .i64 a ∧ Hid (∀ b, b < a → noSame S T k b) ∧ ∃ m, wr = W0.drewN m) (fun _ _ j _ => k - (intOf j).toNat)
      case atStart => exact ⟨0, Nat.zero_le _, rfl, Lib.hid (fun i hi => absurd hi (Nat.not_lt_zero i)), _, rfl⟩
      case round =>
        obtain ⟨a, ha, rfl, hsm, m2, rfl⟩ := hrel
        by_cases hla : a < k
        · have a1 : (0 : Int) ≤ a := by omega
          have a2 : (a : Int) < 7 := by omega
          go_wp2_with fail
          go_loopw [7] (fun j wr => ∃ b : Nat, a < b ∧ b ≤ k ∧ j = .int .i64 b ∧ Hid (∀ i, a < i → i < b → kindZ S T i a ≠ 2) ∧ ∃ m, wr = W0.drewN m) (fun j _ => k - (intOf j).toNat)
          case atStart => exact ⟨a + 1, by omega, by omega, by go_num, Lib.hid (fun i hi hi2 => by omega), _, rfl⟩
          case round =>
            obtain ⟨b, hab, hb, rfl, hnb, m3, rfl⟩ := hrel
            by_cases hlb : b < k
            · have b1 : (0 : Int) ≤ b := by omega
              have b2 : (b : Int) < 7 := by omega
              have hK := kind_any (W0.drewN m3) g k S T keep (h0.drewN m3) b a (by omega) (by omega)
              have HH := Lib.hid (next_same (keep := keep) hno.out hsm.out hnb.out hab hlb)
              have HB : Hid (kindZ S T b a ≠ 2 → ∀ i, a < i → i < b + 1 → kindZ S T i a ≠ 2) := Lib.hid (fun hz i h1 h2 => by
                rcases Nat.lt_or_ge i b with c | c
                · exact hnb.out i h1 c
                · obtain rfl : i = b := by omega
                  exact hz)
              generalize kindZ S T b a = z at hK HH HB
              by_cases hz2 : z = 2
              · subst hz2
                have HS := Lib.hid (HH.out rfl)
                go_wp2_with fail
                refine hK.mono ?_
                rintro e w1 ⟨rfl, m1, rfl⟩
                go_wp2_with fail
                refine bodyPost_ret (v := .tuple #[.agg #[.int .i64 2, .int .i64 b, .int .i64 a, .int .u32 0], .bool true]) (by simp [results, Tryd.results46, go_sem, z0, z1, z2, z3]) rfl ⟨⟨2, b, a, 0#32⟩, true, rfl, Lib.hid (by rw [HS.out]; rfl), ?_⟩
                exact ((((below_drewN hb0 _).setCell (Nat.le_refl _) _).setCell (Nat.le_refl _) _).setCell (Nat.le_refl _) _).setCell (Nat.le_refl _) _
              · have hzb : (z == 2) = false := by simp [hz2]
                have HB2 := Lib.hid (HB.out hz2)
                clear hz2
                go_wp2_with fail
                refine hK.mono ?_
                rintro e w1 ⟨rfl, m1, rfl⟩
                go_wp2_with fail
                go_roundw
                case rel => exact ⟨b + 1, by omega, by omega, by go_num, HB2, _, rfl⟩
                case measure => simp [intOf]; omega
            · obtain rfl : b = k := by omega
              have HA := Lib.hid (upto_next hsm.out hnb.out)
              go_wp2_with fail
              go_roundw
              case rel => exact ⟨a + 1, by omega, by go_num, HA, _, rfl⟩
              case measure => simp [intOf]; omega
        · obtain rfl : a = k := by omega
          go_wp2_with fail
          go_loopw [8, 64] (fun _ j wr => ∃ i : Nat, i ≤ a ∧ j = .int .i64 i ∧ Hid (∀ b, b < i → noUnder S T a b) ∧ ∃ m, wr = W0.drewN m) (fun _ j _ => a - (intOf j).toNat)
          case atStart => exact ⟨0, Nat.zero_le _, rfl, Lib.hid (fun i hi => absurd hi (Nat.not_lt_zero i)), _, rfl⟩
          case round =>
            obtain ⟨i, hi, rfl, hun, m4, rfl⟩ := hrel
            by_cases hli : i < a
            · have a1 : (0 : Int) ≤ i := by omega
              have a2 : (i : Int) < 7 := by omega
              go_wp2_with fail
              go_loopw [9, 71] (fun _ j wr => ∃ b : Nat, b ≤ a ∧ j = .int .i64 b ∧ Hid (∀ m, m < b → kindZ S T i m ≠ 3) ∧ ∃ m, wr = W0.drewN m) (fun _ j _ => a - (intOf j).toNat)
              case atStart => exact ⟨0, Nat.zero_le _, rfl, Lib.hid (fun i hi => absurd hi (Nat.not_lt_zero i)), _, rfl⟩
              case round =>
                obtain ⟨b, hb, rfl, hnb, m3, rfl⟩ := hrel
                by_cases hlb : b < a
                · have b1 : (0 : Int) ≤ b := by omega
                  have b2 : (b : Int) < 7 := by omega
                  have hK := kind_any (W0.drewN m3) g a S T keep (h0.drewN m3) i b (by omega) (by omega)
                  have HH := Lib.hid (next_under (keep := keep) hno.out hsm.out hun.out hnb.out hli hlb)
                  have HB : Hid (kindZ S T i b ≠ 3 → ∀ m, m < b + 1 → kindZ S T i m ≠ 3) := Lib.hid (fun hz => upto_next hnb.out hz)
                  generalize kindZ S T i b = z at hK HH HB
                  by_cases hz2 : z = 3
                  · subst hz2
                    have HS := Lib.hid (HH.out rfl)
                    go_wp2_with fail
                    refine hK.mono ?_
                    rintro e w1 ⟨rfl, m1, rfl⟩
                    go_wp2_with fail
                    refine bodyPost_ret (v := .tuple #[.agg #[.int .i64 3, .int .i64 i, .int .i64 b, .int .u32 0], .bool true]) (by simp [results, Tryd.results46, go_sem, z0, z1, z2, z3]) rfl ⟨⟨3, i, b, 0#32⟩, true, rfl, Lib.hid (by rw [HS.out]; rfl), ?_⟩
                    exact ((((below_drewN hb0 _).setCell (Nat.le_refl _) _).setCell (Nat.le_refl _) _).setCell (Nat.le_refl _) _).setCell (Nat.le_refl _) _
                  · have hzb : (z == 3) = false := by simp [hz2]
                    have HB2 := Lib.hid (HB.out hz2)
                    clear hz2
                    go_wp2_with fail
                    refine hK.mono ?_
                    rintro e w1 ⟨rfl, m1, rfl⟩
                    go_wp2_with fail
                    go_roundw
                    case rel => exact ⟨b + 1, by omega, by go_num, HB2, _, rfl⟩
                    case measure => simp [intOf]; omega
                · obtain rfl : b = a := by omega
                  have HA := Lib.hid (upto_next hun.out hnb.out)
                  go_wp2_with fail
                  go_roundw
                  case rel => exact ⟨i + 1, by omega, by go_num, HA, _, rfl⟩
                  case measure => simp [intOf]; omega
            · obtain rfl : i = a := by omega
              have HS := Lib.hid (next_none hno.out hsm.out hun.out)
              go_wp2_with fail
              refine bodyPost_ret (v := .tuple #[.agg #[.int .i64 0, .int .i64 0, .int .i64 0, .int .u32 0], .bool false]) (by simp [results, Tryd.results46, go_sem, z0, z1, z2, z3]) rfl ⟨⟨0, 0, 0, 0#32⟩, false, rfl, Lib.hid (by rw [HS.out]; rfl), ?_⟩
              exact ((((below_drewN hb0 _).setCell (Nat.le_refl _) _).setCell (Nat.le_refl _) _).setCell (Nat.le_refl _) _).setCell (Nat.le_refl _) _
end Go.Proofs.YtdemmjofggemhaaDoor

/- The contract of ears.make. -/
namespace Go.Proofs.YtdemmjofggemhaaDoor
open Go.RowKit

attribute [local go_sem ↓] uz_and uz_or uz_andNot uz_and_one uz_shr uz_shl_one uz_shl uz_sub uz_sub_one uz_add uz_beq_zero uz_bne_zero uz_beq uz_bne uz_beq_one

/-- What make answers and leaves. -/
def MakePost (S : Nat → BitVec 32) (T : Nat → Bool) (n : Nat) (keep : BitVec 32) (s : Stp) (g : Nat) (w : World) (e : Ending) (w' : World) : Prop :=
  ∃ S' T', e = .returned (.bool (isB S T n keep s)) ∧ Rem w' g S' T' n keep ∧ w.grownBy w' (some g) ∧ Hid (lefts S' T' n = if isB S T n keep s = true then makeE (lefts S T n) s else lefts S T n)
theorem grown_below {w w' : World} (h : Below w.heap.size w w') (r : Option Nat) : w.grownBy w' r := ⟨h.os, h.tape, h.output, h.size, fun k hk _ => h.block k hk⟩
theorem grown_drewN {w w' : World} {r : Option Nat} (h : w.grownBy w' r) (m : Nat) : w.grownBy (w'.drewN m) r := ⟨h.os, h.tape, h.output, h.size, h.block⟩
theorem grown_set {w w' : World} {g : Nat} (h : w.grownBy w' (some g)) (i : Nat) (v : Value) : w.grownBy (w'.setCell ⟨g, i, none⟩ v) (some g) :=
  ⟨h.os, h.tape, h.output, by simpa using h.size, fun k hk hne => (Below.heap_setCell w' ⟨g, i, none⟩ v k (fun e => hne (by rw [e]))).trans (h.block k hk hne)⟩
/-- A call that only draws, in a region that draws. -/
theorem drew_quiet {f : FuncId} {args : Array Value} {v : Value} {W : World} (h : ∀ m, Calls Tryd.prog f args (W.drewN m) fun e w' => e = .returned v ∧ ∃ k, w' = (W.drewN m).drewN k) {n : Nat} :
    Calls Tryd.prog f args (W.drewN n) fun e w'' => e = .returned v ∧ ∃ k, w'' = W.drewN k :=
  (h n).mono fun _ _ ⟨he, k, hk⟩ => ⟨he, n + k, by rw [hk, World.drewN_drewN]⟩
theorem make_no {S : Nat → BitVec 32} {T : Nat → Bool} {n : Nat} {keep : BitVec 32} {s : Stp} {g : Nat} {w w' : World} (hf : isB S T n keep s = false) (h : Rem w' g S T n keep) (hb : w.grownBy w' (some g)) : MakePost S T n keep s g w (.returned (.bool false)) w' :=
  ⟨S, T, by rw [hf], h, hb, by show _ = _; rw [hf]; rfl⟩

set_option maxHeartbeats 2000000 in
set_option maxRecDepth 100000 in
/-- Where the first test refuses. -/
theorem make_out (w : World) (g n : Nat) (S : Nat → BitVec 32) (T : Nat → Bool) (keep : BitVec 32) (h : Rem w g S T n keep) (k x y : Int) (cut : BitVec 32) (ho : x < 0 ∨ y < 0 ∨ (n : Int) ≤ x ∨ (n : Int) ≤ y) :
    Calls Tryd.prog 47 #[.pointer (some ⟨g, 0, none⟩), .agg #[.int .i64 k, .int .i64 x, .int .i64 y, .int .u32 (uz cut)]] w (MakePost S T n keep ⟨k, x, y, cut⟩ g w) := by
  have hF := Lib.hid (isB_out (S := S) (T := T) (n := n) (keep := keep) (s := ⟨k, x, y, cut⟩) ho)
  rcases Int.lt_trichotomy y x with hc | hc | hc
  · by_cases hneg : y < 0
    · have d1 : decide (y < 0) = true := by simpa using hneg
      clear ho hneg
      go_enter Tryd.func47, Tryd.ntmps47
      have hg := Row.lt h
      go_upto_region 1 with fail
      have hb0 := below_alloc w (.cells #[.int .i64 k, .int .i64 x, .int .i64 y, .int .u32 (uz cut)] 84)
      have hR0 : Row (w.alloc (.cells #[.int .i64 k, .int .i64 x, .int .i64 y, .int .u32 (uz cut)] 84)) w.heap.size 84 [.int .i64 k, .int .i64 x, .int .i64 y, .int .u32 (uz cut)] := Row.new _ _ _
      have h0 := h.later hb0
      generalize w.alloc _ = W0 at hb0 hR0 h0 ⊢
      have c3 := h0.n_cell
      have z1 : W0.cell? ⟨w.heap.size, 1, none⟩ = some (.int .i64 x) := hR0.cell 1
      have z2 : W0.cell? ⟨w.heap.size, 2, none⟩ = some (.int .i64 y) := hR0.cell 2
      clear h hR0
      go_quiet (fail)
      go_wp2_with fail
      go_ret
      exact make_no hF.out (h0.drewN _) (grown_drewN (grown_below hb0 _) _)
    · have d1 : decide (y < 0) = false := by simpa using hneg
      have d2 : decide ((n : Int) ≤ x) = true := by simp; omega
      clear ho hneg
      go_enter Tryd.func47, Tryd.ntmps47
      have hg := Row.lt h
      go_upto_region 1 with fail
      have hb0 := below_alloc w (.cells #[.int .i64 k, .int .i64 x, .int .i64 y, .int .u32 (uz cut)] 84)
      have hR0 : Row (w.alloc (.cells #[.int .i64 k, .int .i64 x, .int .i64 y, .int .u32 (uz cut)] 84)) w.heap.size 84 [.int .i64 k, .int .i64 x, .int .i64 y, .int .u32 (uz cut)] := Row.new _ _ _
      have h0 := h.later hb0
      generalize w.alloc _ = W0 at hb0 hR0 h0 ⊢
      have c3 := h0.n_cell
      have z1 : W0.cell? ⟨w.heap.size, 1, none⟩ = some (.int .i64 x) := hR0.cell 1
      have z2 : W0.cell? ⟨w.heap.size, 2, none⟩ = some (.int .i64 y) := hR0.cell 2
      clear h hR0
      go_quiet (fail)
      go_wp2_with fail
      go_ret
      exact make_no hF.out (h0.drewN _) (grown_drewN (grown_below hb0 _) _)
  · subst hc
    by_cases hneg : y < 0
    · have d1 : decide (y < 0) = true := by simpa using hneg
      clear ho hneg
      go_enter Tryd.func47, Tryd.ntmps47
      have hg := Row.lt h
      go_upto_region 1 with fail
      have hb0 := below_alloc w (.cells #[.int .i64 k, .int .i64 y, .int .i64 y, .int .u32 (uz cut)] 84)
      have hR0 : Row (w.alloc (.cells #[.int .i64 k, .int .i64 y, .int .i64 y, .int .u32 (uz cut)] 84)) w.heap.size 84 [.int .i64 k, .int .i64 y, .int .i64 y, .int .u32 (uz cut)] := Row.new _ _ _
      have h0 := h.later hb0
      generalize w.alloc _ = W0 at hb0 hR0 h0 ⊢
      have c3 := h0.n_cell
      have z1 : W0.cell? ⟨w.heap.size, 1, none⟩ = some (.int .i64 y) := hR0.cell 1
      have z2 : W0.cell? ⟨w.heap.size, 2, none⟩ = some (.int .i64 y) := hR0.cell 2
      clear h hR0
      go_quiet (fail)
      go_wp2_with fail
      go_ret
      exact make_no hF.out (h0.drewN _) (grown_drewN (grown_below hb0 _) _)
    · have d1 : decide (y < 0) = false := by simpa using hneg
      have d2 : decide ((n : Int) ≤ y) = true := by simp; omega
      clear ho hneg
      go_enter Tryd.func47, Tryd.ntmps47
      have hg := Row.lt h
      go_upto_region 1 with fail
      have hb0 := below_alloc w (.cells #[.int .i64 k, .int .i64 y, .int .i64 y, .int .u32 (uz cut)] 84)
      have hR0 : Row (w.alloc (.cells #[.int .i64 k, .int .i64 y, .int .i64 y, .int .u32 (uz cut)] 84)) w.heap.size 84 [.int .i64 k, .int .i64 y, .int .i64 y, .int .u32 (uz cut)] := Row.new _ _ _
      have h0 := h.later hb0
      generalize w.alloc _ = W0 at hb0 hR0 h0 ⊢
      have c3 := h0.n_cell
      have z1 : W0.cell? ⟨w.heap.size, 1, none⟩ = some (.int .i64 y) := hR0.cell 1
      have z2 : W0.cell? ⟨w.heap.size, 2, none⟩ = some (.int .i64 y) := hR0.cell 2
      clear h hR0
      go_quiet (fail)
      go_wp2_with fail
      go_ret
      exact make_no hF.out (h0.drewN _) (grown_drewN (grown_below hb0 _) _)
  · by_cases hneg : x < 0
    · have d1 : decide (x < 0) = true := by simpa using hneg
      clear ho hneg
      go_enter Tryd.func47, Tryd.ntmps47
      have hg := Row.lt h
      go_upto_region 1 with fail
      have hb0 := below_alloc w (.cells #[.int .i64 k, .int .i64 x, .int .i64 y, .int .u32 (uz cut)] 84)
      have hR0 : Row (w.alloc (.cells #[.int .i64 k, .int .i64 x, .int .i64 y, .int .u32 (uz cut)] 84)) w.heap.size 84 [.int .i64 k, .int .i64 x, .int .i64 y, .int .u32 (uz cut)] := Row.new _ _ _
      have h0 := h.later hb0
      generalize w.alloc _ = W0 at hb0 hR0 h0 ⊢
      have c3 := h0.n_cell
      have z1 : W0.cell? ⟨w.heap.size, 1, none⟩ = some (.int .i64 x) := hR0.cell 1
      have z2 : W0.cell? ⟨w.heap.size, 2, none⟩ = some (.int .i64 y) := hR0.cell 2
      clear h hR0
      go_quiet (fail)
      go_wp2_with fail
      go_ret
      exact make_no hF.out (h0.drewN _) (grown_drewN (grown_below hb0 _) _)
    · have d1 : decide (x < 0) = false := by simpa using hneg
      have d2 : decide ((n : Int) ≤ y) = true := by simp; omega
      clear ho hneg
      go_enter Tryd.func47, Tryd.ntmps47
      have hg := Row.lt h
      go_upto_region 1 with fail
      have hb0 := below_alloc w (.cells #[.int .i64 k, .int .i64 x, .int .i64 y, .int .u32 (uz cut)] 84)
      have hR0 : Row (w.alloc (.cells #[.int .i64 k, .int .i64 x, .int .i64 y, .int .u32 (uz cut)] 84)) w.heap.size 84 [.int .i64 k, .int .i64 x, .int .i64 y, .int .u32 (uz cut)] := Row.new _ _ _
      have h0 := h.later hb0
      generalize w.alloc _ = W0 at hb0 hR0 h0 ⊢
      have c3 := h0.n_cell
      have z1 : W0.cell? ⟨w.heap.size, 1, none⟩ = some (.int .i64 x) := hR0.cell 1
      have z2 : W0.cell? ⟨w.heap.size, 2, none⟩ = some (.int .i64 y) := hR0.cell 2
      clear h hR0
      go_quiet (fail)
      go_wp2_with fail
      go_ret
      exact make_no hF.out (h0.drewN _) (grown_drewN (grown_below hb0 _) _)
end Go.Proofs.YtdemmjofggemhaaDoor

/- The contract of ears.make, second part. -/
namespace Go.Proofs.YtdemmjofggemhaaDoor
open Go.RowKit

attribute [local go_sem ↓] uz_and uz_or uz_andNot uz_and_one uz_shr uz_shl_one uz_shl uz_sub uz_sub_one uz_add uz_beq_zero uz_bne_zero uz_beq uz_bne uz_beq_one

theorem Rem.setS {w : World} {g n k : Nat} {S : Nat → BitVec 32} {T : Nat → Bool} {keep x : BitVec 32} (h : Rem w g S T n keep) (hk : k < 7) : Rem (w.setCell ⟨g, k, none⟩ (.int .u32 (uz x))) g (updS S k x) T n keep := by
  have := Row.set_ h k (.int .u32 (uz x))
  rw [remL_setS _ _ _ _ _ _ hk] at this
  exact this
theorem Rem.setT {w : World} {g n k : Nat} {S : Nat → BitVec 32} {T : Nat → Bool} {keep : BitVec 32} {b : Bool} (h : Rem w g S T n keep) (hk : k < 7) : Rem (w.setCell ⟨g, 7 + k, none⟩ (.bool b)) g S (updT T k b) n keep := by
  have := Row.set_ h (7 + k) (.bool b)
  rw [remL_setT _ _ _ _ _ _ hk] at this
  exact this

set_option maxHeartbeats 4000000 in
set_option maxRecDepth 100000 in
/-- Where it does not. -/
theorem make_in (w : World) (g n : Nat) (S : Nat → BitVec 32) (T : Nat → Bool) (keep : BitVec 32) (h : Rem w g S T n keep) (hn : n ≤ 7) (k : Int) (i j : Nat) (cut : BitVec 32) (hi : i < n) (hj : j < n) :
    Calls Tryd.prog 47 #[.pointer (some ⟨g, 0, none⟩), .agg #[.int .i64 k, .int .i64 i, .int .i64 j, .int .u32 (uz cut)]] w (MakePost S T n keep ⟨k, i, j, cut⟩ g w) := by
  have a1 : (0 : Int) ≤ i := by omega
  have a2 : (i : Int) < 7 := by omega
  have a3 : (0 : Int) ≤ j := by omega
  have a4 : (j : Int) < 7 := by omega
  go_enter Tryd.func47, Tryd.ntmps47
  have hg := Row.lt h
  go_upto_region 1 with fail
  have hb0 := below_alloc w (.cells #[.int .i64 k, .int .i64 i, .int .i64 j, .int .u32 (uz cut)] 84)
  have hR0 : Row (w.alloc (.cells #[.int .i64 k, .int .i64 i, .int .i64 j, .int .u32 (uz cut)] 84)) w.heap.size 84 [.int .i64 k, .int .i64 i, .int .i64 j, .int .u32 (uz cut)] := Row.new _ _ _
  have h0 := h.later hb0
  generalize w.alloc _ = W0 at hb0 hR0 h0 ⊢
  have c3 := h0.n_cell
  have z0 : W0.cell? ⟨w.heap.size, 0, none⟩ = some (.int .i64 k) := hR0.cell 0
  have z1 : W0.cell? ⟨w.heap.size, 1, none⟩ = some (.int .i64 i) := hR0.cell 1
  have z2 : W0.cell? ⟨w.heap.size, 2, none⟩ = some (.int .i64 j) := hR0.cell 2
  have z3 : W0.cell? ⟨w.heap.size, 3, none⟩ = some (.int .u32 (uz cut)) := hR0.cell 3
  clear h hR0
  have cT := h0.there_cell (show i < 7 by omega)
  have cS := h0.set_cell (show i < 7 by omega)
  obtain ⟨ti, hti⟩ : ∃ ti, T i = ti := ⟨_, rfl⟩
  rw [hti] at cT
  have HTI := Lib.hid hti
  clear hti
  go_cut [33] (fun b wx => b = .bool (!ti) ∧ ∃ m, wx = W0.drewN m)
  case first =>
    have d1 : decide ((i : Int) < 0) = false := decide_eq_false (by omega)
    have d2 : decide ((j : Int) < 0) = false := decide_eq_false (by omega)
    have d3 : decide (n ≤ i) = false := decide_eq_false (by omega)
    have d4 : decide (n ≤ j) = false := decide_eq_false (by omega)
    clear cS z0 z3
    rcases Int.lt_trichotomy (j : Int) (i : Int) with hc | hc | hc
    · go_quiet (fail)
      go_wp2_with fail
      go_meet
      exact ⟨rfl, _, rfl⟩
    · obtain rfl := ni.1 hc
      clear hc
      go_quiet (fail)
      go_wp2_with fail
      go_meet
      exact ⟨rfl, _, rfl⟩
    · go_quiet (fail)
      go_wp2_with fail
      go_meet
      exact ⟨rfl, _, rfl⟩
  case rest =>
    obtain ⟨rfl, m, rfl⟩ := hcut
    have h1 := h0.drewN m
    have hgr := grown_drewN (grown_below hb0 (some g)) m
    replace c3 : (W0.drewN m).cell? ⟨g, 14, none⟩ = some (.int .i64 n) := c3
    replace z0 : (W0.drewN m).cell? ⟨w.heap.size, 0, none⟩ = some (.int .i64 k) := z0
    replace z1 : (W0.drewN m).cell? ⟨w.heap.size, 1, none⟩ = some (.int .i64 i) := z1
    replace z2 : (W0.drewN m).cell? ⟨w.heap.size, 2, none⟩ = some (.int .i64 j) := z2
    replace z3 : (W0.drewN m).cell? ⟨w.heap.size, 3, none⟩ = some (.int .u32 (uz cut)) := z3
    replace cT : (W0.drewN m).cell? ⟨g, 7 + i, none⟩ = some (.bool ti) := cT
    replace cS : (W0.drewN m).cell? ⟨g, i, none⟩ = some (.int .u32 (uz (S i))) := cS
    have fS := Row.frozen h1 i
    have fT := Row.frozen h1 (7 + i)
    clear h0 hb0
    generalize W0.drewN m = W1 at h1 hgr c3 z0 z1 z2 z3 cT cS fS fT ⊢
    clear W0
    cases ti
    · have hF := Lib.hid (isB_gone (n := n) (keep := keep) (S := S) (T := T) (s := ⟨k, i, j, cut⟩) (i := i) rfl HTI.out)
      go_wp2_with fail
      go_ret
      exact make_no hF.out h1 hgr
    · by_cases hk : k = 1
      · subst hk
        have hF := Lib.hid (isB_trim (n := n) (keep := keep) (S := S) (T := T) (s := ⟨1, i, j, cut⟩) (i := i) rfl hi HTI.out rfl)
        by_cases hc0 : cut = 0#32
        · subst hc0
          have hF2 : Hid (isB S T n keep ⟨1, i, j, 0#32⟩ = false) := Lib.hid (hF.out.trans (by simp))
          clear hF
          go_wp2_with fail
          go_quiet (fail)
          go_wp2_with fail
          go_ret
          exact make_no hF2.out (h1.drewN _) (grown_drewN hgr _)
        · have hcb : (cut == 0#32) = false := by simp [hc0]
          have hL := fun m => lonely_any (W1.drewN m) g n S T keep (h1.drewN m) hn i (by omega)
          generalize loneTo S T keep i n = l at hL hF
          have HL := Lib.hid hL
          clear hL
          by_cases hok : j = 0 ∧ cut = l
          · obtain ⟨rfl, rfl⟩ := hok
            have hF2 : Hid (isB S T n keep ⟨1, i, (0 : Nat), cut⟩ = true) := Lib.hid (hF.out.trans (by simp [hc0]))
            have HM := Lib.hid (make_trim (S := S) (T := T) (n := n) (i := i) (c := cut) (q := (0 : Nat)) HTI.out)
            clear hc0 hF
            go_upto_region 4 with fail
            go_quiet ((go_at_call 66; exact drew_quiet HL.out))
            go_upto_region 6 with fail
            have h2 := h1.drewN nq
            have hgr2 := grown_drewN hgr nq
            replace z1 : (W1.drewN nq).cell? ⟨w.heap.size, 1, none⟩ = some (.int .i64 i) := z1
            replace z3 : (W1.drewN nq).cell? ⟨w.heap.size, 3, none⟩ = some (.int .u32 (uz cut)) := z3
            replace cS : (W1.drewN nq).cell? ⟨g, i, none⟩ = some (.int .u32 (uz (S i))) := cS
            replace fS : (W1.drewN nq).frozen? ⟨g, i, none⟩ = false := fS
            replace cT : (W1.drewN nq).cell? ⟨g, 7 + i, none⟩ = some (.bool true) := cT
            replace fT : (W1.drewN nq).frozen? ⟨g, 7 + i, none⟩ = false := fT
            clear HL h1 hgr c3 z0 z2
            generalize W1.drewN nq = W2 at h2 hgr2 z1 z3 cS cT fS fT ⊢
            generalize hs : S i = si at cS HM
            go_still_tail 13, (by kernel_rfl)
            change wpList _ _ _ _ _ W2.drew
            have h3 : Rem W2.drew g S T n keep := h2
            have hgr3 := grown_drewN hgr2 1
            replace cS : W2.drew.cell? ⟨g, i, none⟩ = some (.int .u32 (uz si)) := cS
            replace fS : W2.drew.frozen? ⟨g, i, none⟩ = false := fS
            replace hgr3 : w.grownBy W2.drew (some g) := hgr3
            clear h2 hgr2 z1 z3 cT fT
            generalize W2.drew = W3 at h3 hgr3 cS fS ⊢
            go_wp2_with fail
            go_ret
            exact ⟨_, T, by rw [hF2.out]; rfl, h3.setS (by omega), grown_set hgr3 _ _, by show _ = _; rw [hF2.out, if_pos rfl]; exact HM.out.symm⟩
          · have hF2 : Hid (isB S T n keep ⟨1, i, j, cut⟩ = false) := Lib.hid (hF.out.trans (by
              rw [Bool.and_eq_false_iff]; right
              rw [decide_eq_false_iff_not]
              intro e
              injection e with _ _ e1 e2
              exact hok ⟨by omega, e2⟩))
            clear hF hc0
            by_cases hj0 : j = 0
            · subst hj0
              have hcl : (cut == l) = false := by simp; exact fun e => hok ⟨rfl, e⟩
              clear hok
              go_upto_region 4 with fail
              go_quiet ((go_at_call 66; exact drew_quiet HL.out))
              go_wp2_with fail
              go_ret
              exact make_no hF2.out (h1.drewN _) (grown_drewN hgr _)
            · have hcl : ((j : Int) == 0) = false := by simp; omega
              clear hok hj0
              go_upto_region 4 with fail
              go_quiet ((go_at_call 66; exact drew_quiet HL.out))
              go_wp2_with fail
              go_ret
              exact make_no hF2.out (h1.drewN _) (grown_drewN hgr _)
      · have hkb : (k == 1) = false := by simp [hk]
        have hF := Lib.hid (isB_other (n := n) (keep := keep) (S := S) (T := T) (s := ⟨k, i, j, cut⟩) (i := i) (j := j) rfl hi hj rfl hk)
        have HM := Lib.hid (make_gone (S := S) (T := T) (n := n) (i := i) (c := cut) (q := (j : Int)) hk)
        have hK := kind_any W1 g n S T keep h1 i j (by omega) (by omega)
        generalize kindZ S T i j = z at hK hF
        clear hk
        by_cases hz : z = 0
        · subst hz
          have hF2 : Hid (isB S T n keep ⟨k, i, j, cut⟩ = false) := Lib.hid (hF.out.trans (by simp))
          clear hF
          go_wp2_with fail
          refine hK.mono ?_
          rintro e w1 ⟨rfl, m1, rfl⟩
          go_wp2_with fail
          go_ret
          exact make_no hF2.out (h1.drewN _) (grown_drewN hgr _)
        · have hzb : (z == 0) = false := by simp [hz]
          by_cases hkz : k = z
          · subst hkz
            by_cases hc0 : cut = 0#32
            · subst hc0
              have hF2 : Hid (isB S T n keep ⟨k, i, j, 0#32⟩ = true) := Lib.hid (hF.out.trans (by simp [hz]))
              clear hF hz
              go_wp2_with fail
              refine hK.mono ?_
              rintro e w1 ⟨rfl, nq, rfl⟩
              go_upto_region 11 with fail
              have h2 := h1.drewN nq
              have hgr2 := grown_drewN hgr nq
              replace z1 : (W1.drewN nq).cell? ⟨w.heap.size, 1, none⟩ = some (.int .i64 i) := z1
              replace cT : (W1.drewN nq).cell? ⟨g, 7 + i, none⟩ = some (.bool true) := cT
              replace fT : (W1.drewN nq).frozen? ⟨g, 7 + i, none⟩ = false := fT
              clear hK h1 hgr c3 z0 z2 z3 cS fS
              generalize W1.drewN nq = W2 at h2 hgr2 z1 cT fT ⊢
              go_still_tail 6, (by kernel_rfl)
              change wpList _ _ _ _ _ W2.drew
              have h3 : Rem W2.drew g S T n keep := h2
              have hgr3 : w.grownBy W2.drew (some g) := grown_drewN hgr2 1
              replace cT : W2.drew.cell? ⟨g, 7 + i, none⟩ = some (.bool true) := cT
              replace fT : W2.drew.frozen? ⟨g, 7 + i, none⟩ = false := fT
              clear h2 hgr2 z1
              generalize W2.drew = W3 at h3 hgr3 cT fT ⊢
              go_wp2_with fail
              go_ret
              exact ⟨S, _, by rw [hF2.out]; rfl, h3.setT (by omega), grown_set hgr3 _ _, by show _ = _; rw [hF2.out, if_pos rfl]; exact HM.out.symm⟩
            · have hF2 : Hid (isB S T n keep ⟨k, i, j, cut⟩ = false) := Lib.hid (hF.out.trans (by simp [hc0]))
              have hcb : (cut == 0#32) = false := by simp [hc0]
              clear hF hz hc0
              go_wp2_with fail
              refine hK.mono ?_
              rintro e w1 ⟨rfl, nq, rfl⟩
              go_wp2_with fail
              go_ret
              exact make_no hF2.out (h1.drewN _) (grown_drewN hgr _)
          · have hF2 : Hid (isB S T n keep ⟨k, i, j, cut⟩ = false) := Lib.hid (hF.out.trans (by simp [hkz]))
            have hcb : (k == z) = false := by simp [hkz]
            clear hF hz hkz
            go_wp2_with fail
            refine hK.mono ?_
            rintro e w1 ⟨rfl, nq, rfl⟩
            go_wp2_with fail
            go_ret
            exact make_no hF2.out (h1.drewN _) (grown_drewN hgr _)
theorem make_any (w : World) (g n : Nat) (S : Nat → BitVec 32) (T : Nat → Bool) (keep : BitVec 32) (h : Rem w g S T n keep) (hn : n ≤ 7) (s : Stp) :
    Calls Tryd.prog 47 #[.pointer (some ⟨g, 0, none⟩), .agg #[.int .i64 s.kind, .int .i64 s.edge, .int .i64 s.into, .int .u32 (uz s.cut)]] w (MakePost S T n keep s g w) := by
  obtain ⟨k, x, y, cut⟩ := s
  by_cases ho : x < 0 ∨ y < 0 ∨ (n : Int) ≤ x ∨ (n : Int) ≤ y
  · exact make_out w g n S T keep h k x y cut ho
  · obtain ⟨i, rfl⟩ := Int.eq_ofNat_of_zero_le (show 0 ≤ x by omega)
    obtain ⟨j, rfl⟩ := Int.eq_ofNat_of_zero_le (show 0 ≤ y by omega)
    exact make_in w g n S T keep h hn k i j cut (by omega) (by omega)
end Go.Proofs.YtdemmjofggemhaaDoor

/- Slices of structs: steps and edges that are left, as lists; appending one. -/
namespace Go.Proofs.YtdemmjofggemhaaDoor
open Go.RowKit

/-! ### Steps, edges left -/
def stC (s : Stp) : List Value := [.int .i64 s.kind, .int .i64 s.edge, .int .i64 s.into, .int .u32 (uz s.cut)]
def sts (ss : List Stp) : List Value := ss.flatMap stC
def lfC (x : Nat × BitVec 32) : List Value := [.int .i64 (x.1 : Nat), .int .u32 (uz x.2)]
def lfs (L : Lt) : List Value := L.flatMap lfC
theorem sts_snoc (ss : List Stp) (s : Stp) : sts (ss ++ [s]) = sts ss ++ stC s := by simp [sts]
theorem lfs_snoc (L : Lt) (x : Nat × BitVec 32) : lfs (L ++ [x]) = lfs L ++ lfC x := by simp [lfs]
/-- The k-th step, the k-th edge left. -/
def stp (ss : List Stp) (k : Nat) : Stp := ss.getD k ⟨0, 0, 0, 0#32⟩
def lft (L : Lt) (k : Nat) : Nat × BitVec 32 := L.getD k (0, 0#32)
theorem stp_eq (ss : List Stp) (k : Nat) (h : k < ss.length) : ss[k] = stp ss k := by simp [stp, h]
theorem lft_eq (L : Lt) (k : Nat) (h : k < L.length) : L[k] = lft L k := by simp [lft, h]
theorem Rd.st_at {w : World} {B : Nat} {A : Option Addr} {ss : List Stp} (h : Rd w B A (sts ss)) {k : Nat} (hk : k < ss.length) :
    ∃ ad, A = some ad ∧ ad.block < B ∧ w.cell? (ad.add (k * 4)) = some (.int .i64 (stp ss k).kind) ∧ w.cell? (ad.add (k * 4 + 1)) = some (.int .i64 (stp ss k).edge) ∧
      w.cell? (ad.add (k * 4 + 2)) = some (.int .i64 (stp ss k).into) ∧ w.cell? (ad.add (k * 4 + 3)) = some (.int .u32 (uz (stp ss k).cut)) := by
  obtain ⟨ad, e, hl, hc⟩ := Rd.flat (f := stC) (m := 4) (fun _ => rfl) h hk (by omega)
  rw [stp_eq ss k hk] at hc
  exact ⟨ad, e, hl, hc 0 (by omega), hc 1 (by omega), hc 2 (by omega), hc 3 (by omega)⟩
theorem Rd.lf_at {w : World} {B : Nat} {A : Option Addr} {L : Lt} (h : Rd w B A (lfs L)) {k : Nat} (hk : k < L.length) :
    ∃ ad, A = some ad ∧ ad.block < B ∧ w.cell? (ad.add (k * 2)) = some (.int .i64 ((lft L k).1 : Nat)) ∧ w.cell? (ad.add (k * 2 + 1)) = some (.int .u32 (uz (lft L k).2)) := by
  obtain ⟨ad, e, hl, hc⟩ := Rd.flat (f := lfC) (m := 2) (fun _ => rfl) h hk (by omega)
  rw [lft_eq L k hk] at hc
  exact ⟨ad, e, hl, hc 0 (by omega), hc 1 (by omega)⟩

/-! ### Appending a struct -/
section
variable {wr : World} {ops : Array Oper} {rest : List Oper} {o : Oper} {a : Act} {Q : Exit → Act → World → Prop}
theorem Tryd.info_Left : (Tryd.prog.info? 77).map (fun i => (i.zero, i.size, i.bytes)) = some (some (.agg #[.int .i64 0, .int .u32 0]), 2, 16) := by kernel_rfl
theorem Tryd.info_Step : (Tryd.prog.info? 84).map (fun i => (i.zero, i.size, i.bytes)) = some (some (.agg #[.int .i64 0, .int .i64 0, .int .i64 0, .int .u32 0]), 4, 32) := by kernel_rfl
theorem app_left (hgd : o.guard = none) (s x : Operand) (ho : o.op = .call { callee := .builtin .append, args := #[s, x], argTypes := #[72, 72] })
    (base : Nat) (v : Value) (L : Lt) (y : Nat × BitVec 32) (hs : a.eval s = v) (hx : a.eval x = .slice (some ⟨wr.heap.size, 0, none⟩) 1 1) (hown : wr.ownsRow base 77 2 v L.length (lfs L))
    (hn : L.length + 1 ≤ 2199023255552) (hbase : base ≤ wr.heap.size)
    (h : ∀ v' w', w'.ownsRow base 77 2 v' (L ++ [y]).length (lfs (L ++ [y])) → wr.grownBy w' v.ownBlock → Below base wr w' → wpList Tryd.prog ops Q rest (a.put o.dst v') w') : wpList Tryd.prog ops Q (o :: rest) a (wr.alloc (.cells #[.int .i64 (y.1 : Nat), .int .u32 (uz y.2)] 77)) :=
  app_row Tryd.underlying72 Tryd.info_Left rfl (by decide) (by decide) hgd s x ho base v L.length (lfs L) _ hs hx hown rfl (by simp [Value.oneCell']) hn hbase fun v' w' h1 h2 h3 _ => h v' w' (by rw [lfs_snoc, List.length_append]; exact h1) h2 h3
theorem app_step (hgd : o.guard = none) (s x : Operand) (ho : o.op = .call { callee := .builtin .append, args := #[s, x], argTypes := #[78, 78] })
    (base : Nat) (v : Value) (ss : List Stp) (y : Stp) (hs : a.eval s = v) (hx : a.eval x = .slice (some ⟨wr.heap.size, 0, none⟩) 1 1) (hown : wr.ownsRow base 84 4 v ss.length (sts ss))
    (hn : ss.length + 1 ≤ 2199023255552) (hbase : base ≤ wr.heap.size)
    (h : ∀ v' w', w'.ownsRow base 84 4 v' (ss ++ [y]).length (sts (ss ++ [y])) → wr.grownBy w' v.ownBlock → Below base wr w' → wpList Tryd.prog ops Q rest (a.put o.dst v') w') : wpList Tryd.prog ops Q (o :: rest) a (wr.alloc (.cells #[.int .i64 y.kind, .int .i64 y.edge, .int .i64 y.into, .int .u32 (uz y.cut)] 84)) :=
  app_row Tryd.underlying78 Tryd.info_Step rfl (by decide) (by decide) hgd s x ho base v ss.length (sts ss) _ hs hx hown rfl (by simp [Value.oneCell']) hn hbase fun v' w' h1 h2 h3 _ => h v' w' (by rw [sts_snoc, List.length_append]; exact h1) h2 h3
end

theorem Rem.grown {w w' : World} {g n : Nat} {S : Nat → BitVec 32} {T : Nat → Bool} {keep : BitVec 32} {r : Option Nat} (h : Rem w g S T n keep) (hb : w.grownBy w' r) (hne : r ≠ some g) : Rem w' g S T n keep := Row.grown h hb hne
end Go.Proofs.YtdemmjofggemhaaDoor

/- The contracts of ears.begin and ears.left. -/
namespace Go.Proofs.YtdemmjofggemhaaDoor
open Go.RowKit

attribute [local go_sem ↓] uz_and uz_or uz_andNot uz_and_one uz_shr uz_shl_one uz_shl uz_sub uz_sub_one uz_add uz_beq_zero uz_bne_zero uz_beq uz_bne uz_beq_one
attribute [local go_sem ↓] Go.wp_at_zero Go.wp_at_succ

def begS (E : List (BitVec 32)) (k : Nat) : Nat → BitVec 32 := fun i => if i < k then ed E i else 0#32
def begT (k : Nat) : Nat → Bool := fun i => decide (i < k)
theorem begS_next (E : List (BitVec 32)) (k : Nat) : updS (begS E k) k (ed E k) = begS E (k + 1) := by
  funext i
  unfold updS begS
  by_cases e : i = k
  · subst e; simp
  · rw [if_neg e]
    by_cases c : i < k
    · rw [if_pos c, if_pos (by omega)]
    · rw [if_neg c, if_neg (by omega)]
theorem begT_next (k : Nat) : updT (begT k) k true = begT (k + 1) := by
  funext i
  unfold updT begT
  by_cases e : i = k
  · subst e; simp
  · rw [if_neg e]; exact decide_eq_decide.2 (by omega)
theorem begS_all (E : List (BitVec 32)) : begS E E.length = ed E := by
  funext i
  unfold begS
  split
  · rfl
  · unfold ed; rw [List.getD_eq_getElem?_getD, List.getElem?_eq_none (by omega)]; rfl
theorem rem_start (w : World) (n : Nat) (keep : BitVec 32) (E : List (BitVec 32)) : Rem (w.alloc (.cells #[.int .u32 0, .int .u32 0, .int .u32 0, .int .u32 0, .int .u32 0, .int .u32 0, .int .u32 0, .bool false, .bool false, .bool false, .bool false, .bool false, .bool false, .bool false, .int .i64 n, .int .u32 (uz keep)] 132)) w.heap.size (begS E 0) (begT 0) n keep :=
  Row.new w 132 (remL (begS E 0) (begT 0) n keep)

set_option maxHeartbeats 2000000 in
set_option maxRecDepth 100000 in
theorem begin_any (V : Int) (A : Option Addr) (E : List (BitVec 32)) (c : Nat) (keep : BitVec 32) (w : World) (h7 : E.length ≤ 7) (hE : Rd w w.heap.size A (us E)) :
    Calls Tryd.prog 45 #[.agg #[.int .i64 V, .slice A E.length c], .int .u32 (uz keep)] w fun e w' => ∃ g, e = .returned (.pointer (some ⟨g, 0, none⟩)) ∧ w.heap.size ≤ g ∧ Rem w' g (ed E) (begT E.length) E.length keep ∧ Below w.heap.size w w' := by
  go_enter Tryd.func45, Tryd.ntmps45
  go_upto_region 1 with fail
  have hb0 := below_alloc w (.cells #[.int .i64 V, .slice A E.length c] 61)
  have hG0 : Row (w.alloc (.cells #[.int .i64 V, .slice A E.length c] 61)) w.heap.size 61 [.int .i64 V, .slice A E.length c] := Row.new _ _ _
  have d1 : (w.alloc (.cells #[.int .i64 V, .slice A E.length c] 61)).cell? ⟨w.heap.size, 1, none⟩ = some (.slice A E.length c) := hG0.cell 1
  generalize w.alloc _ = W0 at hb0 hG0 d1 ⊢
  have hE0 := hE.later hb0
  have hlt : w.heap.size < W0.heap.size := hG0.lt
  go_upto_region 3 with fail
  have hR := rem_start W0 E.length keep E
  have hbx := below_alloc W0 (.cells #[.int .u32 0, .int .u32 0, .int .u32 0, .int .u32 0, .int .u32 0, .int .u32 0, .int .u32 0, .bool false, .bool false, .bool false, .bool false, .bool false, .bool false, .bool false, .int .i64 E.length, .int .u32 (uz keep)] 132)
  generalize hg : W0.heap.size = g at hR hbx ⊢
  have hB1 := hb0.trans (hbx.mono (by omega) : Below w.heap.size W0 _)
  have hE1 := (hE0.below (hg ▸ hbx)).mono (hbx.size)
  generalize W0.alloc _ = W1 at hR hbx hB1 hE1 ⊢
  go_loopw [6, 7, 17] (fun _ _ j wr => ∃ k : Nat, k ≤ E.length ∧ j = .int .i64 k ∧ Rem wr g (begS E k) (begT k) E.length keep ∧ Below g W1 wr) (fun _ _ j _ => E.length - (intOf j).toNat)
  case atStart => exact ⟨0, Nat.zero_le _, rfl, hR, Below.refl _ _⟩
  case round =>
    obtain ⟨k, hk, rfl, hRk, hbk⟩ := hrel
    by_cases hlt2 : k < E.length
    · have hEk : Rd wr W0.heap.size A (us E) := (hE0.below (by rw [hg]; exact hbx)).below (by rw [hg]; exact hbk)
      obtain ⟨ad, hA, had, hc⟩ := hEk.e_at hlt2
      subst hA
      have a1 : (0 : Int) ≤ k := by omega
      have a2 : (k : Int) < 7 := by omega
      have c1 := hRk.set_cell (show k < 7 by omega)
      have c2 := hRk.there_cell (show k < 7 by omega)
      have f1 := Row.frozen hRk k
      have f2 := Row.frozen hRk (7 + k)
      have HS := Lib.hid (begS_next E k)
      have HT := Lib.hid (begT_next k)
      generalize ed E k = x at hc HS
      generalize begS E k k = s0 at c1
      go_upto_region 5 with fail
      go_region_with (fail)
      all_goals
        go_wp2_with fail
        go_roundw
        case rel =>
          refine ⟨k + 1, by omega, by go_num, ?_, ((hbk.setCell (Nat.le_refl _) _).setCell (Nat.le_refl _) _).drew⟩
          have h2 := (hRk.setS (x := x) (show k < 7 by omega)).setT (b := true) (show k < 7 by omega)
          rw [HS.out, HT.out] at h2
          exact h2
        case measure => simp [intOf]; omega
    · obtain rfl : k = E.length := by omega
      rw [begS_all] at hRk
      go_wp2_with fail
      go_ret
      exact ⟨g, rfl, by omega, hRk, hB1.trans (hbk.mono (by omega))⟩

set_option maxHeartbeats 2000000 in
set_option maxRecDepth 100000 in
theorem left_any (w : World) (g n : Nat) (S : Nat → BitVec 32) (T : Nat → Bool) (keep : BitVec 32) (h : Rem w g S T n keep) (hn : n ≤ 7) :
    Calls Tryd.prog 48 #[.pointer (some ⟨g, 0, none⟩)] w fun e w' => ∃ v, e = .returned v ∧ w'.ownsRow w.heap.size 77 2 v (lefts S T n).length (lfs (lefts S T n)) ∧ Below w.heap.size w w' := by
  have hg := Row.lt h
  have c3 := h.n_cell
  go_enter Tryd.func48, Tryd.ntmps48
  go_wp2_with fail
  go_loopw [3, 4, 9] (fun v _ j wr => ∃ k : Nat, k ≤ n ∧ j = .int .i64 k ∧ wr.ownsRow w.heap.size 77 2 v (lefts S T k).length (lfs (lefts S T k)) ∧ Below w.heap.size w wr) (fun _ _ j _ => n - (intOf j).toNat)
  case atStart => exact ⟨0, Nat.zero_le _, rfl, ⟨rfl, .inl ⟨rfl, rfl⟩⟩, Below.refl _ _⟩
  case round =>
    obtain ⟨k, hk, rfl, hown, hb⟩ := hrel
    have hRk := h.later hb
    have hlen : (lefts S T k).length ≤ k := by
      clear hown
      induction k with
      | zero => exact Nat.le_refl _
      | succ k ih =>
        rw [lefts_succ, List.length_append]
        have := ih (by omega)
        have : (leftOf S T k).length ≤ 1 := by unfold leftOf; split <;> simp
        omega
    by_cases hlt : k < n
    · have a1 : (0 : Int) ≤ k := by omega
      have a2 : (k : Int) < 7 := by omega
      have c1 := hRk.set_cell (show k < 7 by omega)
      have c2 := hRk.there_cell (show k < 7 by omega)
      have HL := Lib.hid (lefts_succ S T k)
      cases hT : T k
      · have HN : Hid (lefts S T (k + 1) = lefts S T k) := Lib.hid (by rw [HL.out]; unfold leftOf; rw [hT]; simp)
        rw [hT] at c2
        clear hT
        go_wp2_with fail
        go_roundw
        case rel => exact ⟨k + 1, by omega, by go_num, by rw [HN.out]; exact hown, hb⟩
        case measure => simp [intOf]; omega
      · have HN : Hid (lefts S T (k + 1) = lefts S T k ++ [(k, S k)]) := Lib.hid (by rw [HL.out]; unfold leftOf; rw [hT]; simp)
        rw [hT] at c2
        clear hT
        generalize S k = x at c1 HN
        generalize hL : lefts S T k = L at hown hlen HN
        go_wp2_with ((with_reducible show wpList _ _ _ _ _ _); refine app_left rfl (.tmp 18) (.tmp 27) rfl w.heap.size _ L (k, x) rfl rfl hown (by omega) hb.size ?_)
        intro v' w' hown' _ hb'
        go_wp2_with fail
        go_roundw
        case rel => exact ⟨k + 1, by omega, by go_num, by rw [HN.out]; rw [List.length_append]; exact hown', hb.trans hb'⟩
        case measure => simp [intOf]; omega
    · obtain rfl : k = n := by omega
      go_wp2_with fail
      go_ret
      exact ⟨_, rfl, hown, hb⟩
end Go.Proofs.YtdemmjofggemhaaDoor

/- The contract of ears.Run. -/
namespace Go.Proofs.YtdemmjofggemhaaDoor
open Go.RowKit

attribute [local go_sem ↓] uz_and uz_or uz_andNot uz_and_one uz_shr uz_shl_one uz_shl uz_sub uz_sub_one uz_add uz_beq_zero uz_bne_zero uz_beq uz_bne uz_beq_one

/-- What Run answers: steps, what is left, a number. -/
def RunIs (V : Int) (E : List (BitVec 32)) (keep : BitVec 32) (ss : List Stp) (L : Lt) (code : Int) : Prop :=
  (validB V E = false ∧ ss = [] ∧ L = [] ∧ code = 140) ∨ (validB V E = true ∧ ss = (runE E keep).1 ∧ L = (runE E keep).2 ∧ code = 0)
def RunPost (V : Int) (E : List (BitVec 32)) (keep : BitVec 32) (w : World) (e : Ending) (w' : World) : Prop :=
  ∃ v1 v2 ss L code, e = .returned (.tuple #[v1, v2, .int .i64 code]) ∧ w'.ownsRow w.heap.size 84 4 v1 ss.length (sts ss) ∧ w'.ownsRow w.heap.size 77 2 v2 L.length (lfs L) ∧ Hid (RunIs V E keep ss L code) ∧ Below w.heap.size w w'
/-- The state of a removal behind k steps. -/
def At (E : List (BitVec 32)) (keep : BitVec 32) (k : Nat) (S : Nat → BitVec 32) (T : Nat → Bool) : Prop := (runN keep (beginE E) k).2 = lefts S T E.length
theorem At.start (E : List (BitVec 32)) (keep : BitVec 32) : At E keep 0 (ed E) (begT E.length) := begin_lefts E

theorem row_ne {w : World} {g h : Nat} {e t : TypeId} {xs ys : List Value} (a : Row w g e xs) (b : Row w h t ys) (hne : e ≠ t) : g ≠ h := by
  rintro rfl
  unfold Row at a b
  rw [a] at b
  injection b with b
  injection b with _ ht
  exact hne ht
theorem grown_to_below {w w' : World} {g B : Nat} (h : w.grownBy w' (some g)) (hB : B ≤ g) (hs : B ≤ w.heap.size) : Below B w w' :=
  ⟨h.os, h.tape, h.output, h.size, fun k hk => h.block k (by omega) (by intro e; injection e with e; omega)⟩
theorem runN_count {keep : BitVec 32} {E : List (BitVec 32)} {k : Nat} {s : Stp} (h7 : E.length ≤ 7) (h : (stepsE (runN keep (beginE E) k).2 keep).head? = some s) : k ≤ 231 := by
  rcases runN_mu (keep := keep) (srt_begin E) k with c | c
  · rw [h] at c; cases c
  · have := mu_begin E h7; omega

set_option maxHeartbeats 4000000 in
set_option maxRecDepth 100000 in
theorem run_any (V : Int) (A : Option Addr) (E : List (BitVec 32)) (c : Nat) (keep : BitVec 32) (w : World) (hl : E.length ≤ 35184372087808) (hE : Rd w w.heap.size A (us E)) :
    Calls Tryd.prog 22 #[.agg #[.int .i64 V, .slice A E.length c], .int .u32 (uz keep)] w (RunPost V E keep w) := by
  go_enter Tryd.func22, Tryd.ntmps22
  go_wp2_with fail
  have hb0 := below_alloc w (.cells #[.int .i64 V, .slice A E.length c] 61)
  have hG0 : Row (w.alloc (.cells #[.int .i64 V, .slice A E.length c] 61)) w.heap.size 61 [.int .i64 V, .slice A E.length c] := Row.new _ _ _
  generalize w.alloc _ = W0 at hb0 hG0 ⊢
  refine (valid_any V A E c _ hl (hE.later hb0)).mono ?_
  rintro e w1 ⟨rfl, hb1⟩
  have hB1 := bthen hb0 hb1
  cases hv : validB V E
  · have HP : Hid (RunIs V E keep [] [] 140) := Lib.hid (.inl ⟨hv, rfl, rfl, rfl⟩)
    go_wp2_with fail
    refine bodyPost_ret (v := .tuple #[.slice none 0 0, .slice none 0 0, .int .i64 140]) (by simp [results, Tryd.results22, go_sem]) rfl ?_
    exact ⟨_, _, [], [], _, rfl, ⟨rfl, .inl ⟨rfl, rfl⟩⟩, ⟨rfl, .inl ⟨rfl, rfl⟩⟩, HP, hB1⟩
  · have h7 := (validB_of hv).2.2.1
    have HV := Lib.hid hv
    have hG1 := hG0.later hb1
    have d0 : w1.cell? ⟨w.heap.size, 0, none⟩ = some (.int .i64 V) := hG1.cell 0
    have d1 : w1.cell? ⟨w.heap.size, 1, none⟩ = some (.slice A E.length c) := hG1.cell 1
    clear hv
    go_wp2_with fail
    refine (begin_any V A E c keep w1 h7 (hE.later hB1)).mono ?_
    rintro e w2 ⟨g, rfl, hg, hR, hb2⟩
    have hB2 := bthen hB1 hb2
    go_wp2_with fail
    refine (next_any w2 g E.length _ _ keep hR h7).mono ?_
    rintro e w3 ⟨s, b, rfl, HS, hb3⟩
    have hR3 := hR.later hb3
    have hB3 := bthen hB2 hb3
    have hgw : w.heap.size ≤ g := by have := hb0.size; have := hb1.size; omega
    go_upto_region 5 with fail
    have hb4 := below_alloc w3 (.cells #[.int .i64 s.kind, .int .i64 s.edge, .int .i64 s.into, .int .u32 (uz s.cut)] 84)
    have hH4 : Row (w3.alloc (.cells #[.int .i64 s.kind, .int .i64 s.edge, .int .i64 s.into, .int .u32 (uz s.cut)] 84)) w3.heap.size 84 (stC s) := Row.new _ _ _
    have hR4 := hR3.later hb4
    have hB4 := bthen hB3 hb4
    have hwh := hB3.size
    generalize w3.alloc _ = w4 at hb4 hH4 hR4 hB4 ⊢
    generalize w3.heap.size = h at hH4 hwh ⊢
    go_loopg [4, 8, 9] 400 (fun gk v p ok wr => ∃ (k : Nat) (h : Nat) (s : Stp) (b : Bool) (S : Nat → BitVec 32) (T : Nat → Bool), gk = 400 - k ∧ p = .pointer (some ⟨h, 0, none⟩) ∧ ok = .bool b ∧ w.heap.size ≤ h ∧ v.ownBlock ≠ some h ∧ k < 400 ∧
      Row wr h 84 (stC s) ∧ Rem wr g S T E.length keep ∧ Hid (At E keep k S T) ∧ Hid (nextS S T E.length keep = if b = true then some s else none) ∧
      wr.ownsRow w.heap.size 84 4 v (runN keep (beginE E) k).1.length (sts (runN keep (beginE E) k).1) ∧ Below w.heap.size w wr)
    case atStart => exact ⟨0, h, s, b, _, _, rfl, rfl, rfl, hwh, by simp [Value.ownBlock], by omega, hH4, hR4, Lib.hid (At.start E keep), HS, ⟨rfl, .inl ⟨rfl, rfl⟩⟩, hB4⟩
    case round =>
      obtain ⟨k, h', s', b', S, T, rfl, rfl, rfl, hwh', hvh, hk4, hH, hRk, HA, HS', hown, hBk⟩ := hrel
      clear HS hb4 hH4 hR4 hB4 hwh hR3 hB3 hb3 hR hb2 hB2 d0 d1 hG1 hb1 hB1 hb0 hG0
      cases b'
      · have HP : Hid (RunIs V E keep (runN keep (beginE E) k).1 (lefts S T E.length) 0) := Lib.hid (by
          have hst : (stepsE (runN keep (beginE E) k).2 keep).head? = none := by rw [HA.out]; exact HS'.out
          have e := runE_eq h7 hst
          exact .inr ⟨HV.out, by rw [e], by rw [← HA.out, e], rfl⟩)
        generalize (runN keep (beginE E) k).1 = ss at hown HP
        obtain ⟨v, ev, hown⟩ : ∃ v, v = _ ∧ wr.ownsRow w.heap.size 84 4 v ss.length (sts ss) := ⟨_, rfl, hown⟩
        subst ev
        go_wp2_with fail
        refine (left_any wr g E.length S T keep hRk h7).mono ?_
        rintro e w5 ⟨v2, rfl, hown2, hb5⟩
        have hown5 := own_below hown hb5
        have hB5 := bthen hBk hb5
        go_wp2_with fail
        refine bodyPost_ret (v := .tuple #[v, v2, .int .i64 0]) (by simp [results, Tryd.results22, go_sem]) rfl ?_
        exact ⟨_, _, ss, _, _, rfl, hown5, own_less hown2 hBk.size, HP, hB5⟩
      · have hst : (stepsE (runN keep (beginE E) k).2 keep).head? = some s' := by rw [HA.out]; exact HS'.out
        have hcount := runN_count h7 hst
        have HN := Lib.hid (runN_some hst)
        have HI : Hid (isB S T E.length keep s' = true) := Lib.hid (by unfold isB; rw [decide_eq_true_eq]; exact head_mem HS'.out)
        have hsl := runN_len keep (beginE E) k
        generalize hss : (runN keep (beginE E) k).1 = ss at hown HN hsl
        have HSS := Lib.hid hss
        clear hst hss
        have z0 : wr.cell? ⟨h', 0, none⟩ = some (.int .i64 s'.kind) := hH.cell 0
        have z1 : wr.cell? ⟨h', 1, none⟩ = some (.int .i64 s'.edge) := hH.cell 1
        have z2 : wr.cell? ⟨h', 2, none⟩ = some (.int .i64 s'.into) := hH.cell 2
        have z3 : wr.cell? ⟨h', 3, none⟩ = some (.int .u32 (uz s'.cut)) := hH.cell 3
        go_wp2_with fail
        refine (make_any wr g E.length S T keep hRk h7 s').mono ?_
        rintro e w5 ⟨S2, T2, rfl, hR5, hg5, HL⟩
        have hgh : g ≠ h' := row_ne hRk hH (by decide)
        have hH5 := Row.grown hH hg5 (by intro e; injection e with e; exact hgh e)
        have hown5 := own_grown hown hg5 fun x e => by injection e with e; subst e; exact own_row_ne hown hRk (by decide)
        have hB5 := hBk.trans (grown_to_below hg5 (by omega) hBk.size)
        have HA5 : Hid (At E keep (k + 1) S2 T2) := Lib.hid (by
          show (runN keep (beginE E) (k + 1)).2 = _
          rw [HN.out, HL.out, if_pos HI.out, HA.out])
        have HN5 : Hid ((runN keep (beginE E) (k + 1)).1 = ss ++ [s']) := Lib.hid (by rw [HN.out])
        clear HS' HL HN HA hH hown hRk z0 z1 z2 z3 hg5 hBk HSS
        have z0 : w5.cell? ⟨h', 0, none⟩ = some (.int .i64 s'.kind) := hH5.cell 0
        have z1 : w5.cell? ⟨h', 1, none⟩ = some (.int .i64 s'.edge) := hH5.cell 1
        have z2 : w5.cell? ⟨h', 2, none⟩ = some (.int .i64 s'.into) := hH5.cell 2
        have z3 : w5.cell? ⟨h', 3, none⟩ = some (.int .u32 (uz s'.cut)) := hH5.cell 3
        go_wp2_with ((with_reducible show wpList _ _ _ _ _ _); refine app_step rfl (.tmp 30) (.tmp 32) rfl w.heap.size _ ss s' rfl rfl hown5 (by omega) hB5.size ?_)
        intro v' w6 hown6 hg6 hb6
        have hH6 := Row.grown hH5 hg6 hvh
        have hR6 := hR5.grown hg6 (own_row_ne hown5 hR5 (by decide))
        have hB6 := hB5.trans hb6
        clear hH5 hR5 hown5 hg6 hb6 hvh z0 z1 z2 z3
        have z0 : w6.cell? ⟨h', 0, none⟩ = some (.int .i64 s'.kind) := hH6.cell 0
        have z1 : w6.cell? ⟨h', 1, none⟩ = some (.int .i64 s'.edge) := hH6.cell 1
        have z2 : w6.cell? ⟨h', 2, none⟩ = some (.int .i64 s'.into) := hH6.cell 2
        have z3 : w6.cell? ⟨h', 3, none⟩ = some (.int .u32 (uz s'.cut)) := hH6.cell 3
        have hs6 := Row.lt hR6
        have hb7 := below_alloc w6 (.cells #[.int .i64 s'.kind, .int .i64 s'.edge, .int .i64 s'.into, .int .u32 (uz s'.cut)] 84)
        have hH7 : Row (w6.alloc (.cells #[.int .i64 s'.kind, .int .i64 s'.edge, .int .i64 s'.into, .int .u32 (uz s'.cut)] 84)) w6.heap.size 84 (stC s') := Row.new _ _ _
        have hR7 := hR6.later hb7
        have hown7 := own_below hown6 hb7
        have hB7 := bthen hB6 hb7
        have hv7 : v'.ownBlock ≠ some w6.heap.size := fun e => by have := (hown6.lt _ e).2; omega
        have hwh7 := hB6.size
        go_upto_region 6 with fail
        generalize w6.alloc _ = w7 at hb7 hH7 hR7 hown7 hB7 ⊢
        generalize w6.heap.size = h2 at hH7 hv7 hwh7 ⊢
        clear hb7 hH6 hR6 hown6 hB6 z0 z1 z2 z3 hs6
        go_wp2_with fail
        refine (next_any w7 g E.length S2 T2 keep hR7 h7).mono ?_
        rintro e w8 ⟨s2, b2, rfl, HS2, hb8⟩
        have hH8 := hH7.later hb8
        have hR8 := hR7.later hb8
        have hown8 := own_below hown7 hb8
        have hB8 := bthen hB7 hb8
        have hgh8 : g ≠ h2 := row_ne hR8 hH8 (by decide)
        clear hH7 hR7 hown7 hB7 hb8
        have z0 : w8.cell? ⟨h2, 0, none⟩ = some (.int .i64 s'.kind) := hH8.cell 0
        have z1 : w8.cell? ⟨h2, 1, none⟩ = some (.int .i64 s'.edge) := hH8.cell 1
        have z2 : w8.cell? ⟨h2, 2, none⟩ = some (.int .i64 s'.into) := hH8.cell 2
        have z3 : w8.cell? ⟨h2, 3, none⟩ = some (.int .u32 (uz s'.cut)) := hH8.cell 3
        have f0 := hH8.frozen 0
        have f1 := hH8.frozen 1
        have f2 := hH8.frozen 2
        have f3 := hH8.frozen 3
        have hfin : ∀ a b c d, Row ((((w8.setCell ⟨h2, 0, none⟩ a).setCell ⟨h2, 1, none⟩ b).setCell ⟨h2, 2, none⟩ c).setCell ⟨h2, 3, none⟩ d) h2 84 [a, b, c, d] := fun a b c d =>
          (((hH8.set_ 0 a).set_ 1 b).set_ 2 c).set_ 3 d
        have hgfin : ∀ a b c d, w8.grownBy ((((w8.setCell ⟨h2, 0, none⟩ a).setCell ⟨h2, 1, none⟩ b).setCell ⟨h2, 2, none⟩ c).setCell ⟨h2, 3, none⟩ d) (some h2) := fun a b c d =>
          grown_set (grown_set (grown_set (grown_set (grown_below (Below.refl _ _) _) 0 a) 1 b) 2 c) 3 d
        have HF := Lib.hid hfin
        have HG := Lib.hid hgfin
        clear hfin hgfin
        go_wp2_with fail
        go_roundg (400 - (k + 1))
        case measure => omega
        case rel =>
          have hg9 := HG.out (.int .i64 s2.kind) (.int .i64 s2.edge) (.int .i64 s2.into) (.int .u32 (uz s2.cut))
          refine ⟨k + 1, h2, s2, b2, S2, T2, rfl, rfl, rfl, hwh7, hv7, by omega, HF.out _ _ _ _, hR8.grown hg9 (by intro e; injection e with e; exact hgh8 e.symm), HA5, HS2, ?_, hB8.trans (grown_to_below hg9 hwh7 hB8.size)⟩
          rw [HN5.out]
          have := own_grown hown8 hg9 fun x e => by injection e with e; subst e; exact hv7
          rw [List.length_append]
          exact this
end Go.Proofs.YtdemmjofggemhaaDoor

/- The cells of a struct in a slice, in the form in which a walk asks for them. -/
namespace Go.Proofs.YtdemmjofggemhaaDoor
open Go.RowKit

theorem Rd.st_cells {w : World} {B : Nat} {A : Option Addr} {ss : List Stp} (h : Rd w B A (sts ss)) {k : Nat} (hk : k < ss.length) :
    ∃ ad, A = some ad ∧ ad.block < B ∧ w.cell? (ad.add (k * 4)) = some (.int .i64 (stp ss k).kind) ∧ w.cell? ⟨(ad.add (k * 4)).block, (ad.add (k * 4)).off + 1, none⟩ = some (.int .i64 (stp ss k).edge) ∧
      w.cell? ⟨(ad.add (k * 4)).block, (ad.add (k * 4)).off + 2, none⟩ = some (.int .i64 (stp ss k).into) ∧ w.cell? ⟨(ad.add (k * 4)).block, (ad.add (k * 4)).off + 3, none⟩ = some (.int .u32 (uz (stp ss k).cut)) := by
  obtain ⟨ad, e, hl, h0, h1, h2, h3⟩ := h.st_at hk
  exact ⟨ad, e, hl, h0, (add_off ad (k * 4) 0) ▸ h1, (add_off ad (k * 4) 1) ▸ h2, (add_off ad (k * 4) 2) ▸ h3⟩
theorem Rd.lf_cells {w : World} {B : Nat} {A : Option Addr} {L : Lt} (h : Rd w B A (lfs L)) {k : Nat} (hk : k < L.length) :
    ∃ ad, A = some ad ∧ ad.block < B ∧ w.cell? (ad.add (k * 2)) = some (.int .i64 ((lft L k).1 : Nat)) ∧ w.cell? ⟨(ad.add (k * 2)).block, (ad.add (k * 2)).off + 1, none⟩ = some (.int .u32 (uz (lft L k).2)) := by
  obtain ⟨ad, e, hl, h0, h1⟩ := h.lf_at hk
  exact ⟨ad, e, hl, h0, (add_off ad (k * 2) 0) ▸ h1⟩
end Go.Proofs.YtdemmjofggemhaaDoor

/- The contracts of osierref14.Less and of osierref15.others, Begin, Make. -/
namespace Go.Proofs.YtdemmjofggemhaaDoor
open Go.RowKit

attribute [local go_sem ↓] uz_and uz_or uz_andNot uz_and_one uz_shr uz_shl_one uz_shl uz_sub uz_sub_one uz_add uz_beq_zero uz_bne_zero uz_beq uz_bne uz_beq_one

theorem lft_mem {L : Lt} {k : Nat} (h : k < L.length) : lft L k ∈ L := by rw [← lft_eq L k h]; exact List.getElem_mem _
/-! ### Appending -/
section
variable {wr : World} {ops : Array Oper} {rest : List Oper} {o : Oper} {a : Act} {Q : Exit → Act → World → Prop}
end

/-! ### Begin -/
/-! ### Make -/
end Go.Proofs.YtdemmjofggemhaaDoor

/- Steps of drawn regions: an append of one struct or word onto a row that the call owns. -/
namespace Go.Proofs.YtdemmjofggemhaaDoor
open Go.RowKit

theorem below_undrew {w w' : World} (h : Below w.drew.heap.size w.drew w') : Below w.heap.size w w' := ⟨h.os, h.tape, h.output, h.size, h.block⟩
section
variable {wr : World} {ops : Array Oper} {o : Oper} {a : Act} {K : Act → World → Prop} {Q : Exit → Act → World → Prop} {F : Prop}
end
end Go.Proofs.YtdemmjofggemhaaDoor

/- The contract of osierref15.Steps. -/
namespace Go.Proofs.YtdemmjofggemhaaDoor
open Go.RowKit

attribute [local go_sem ↓] uz_and uz_or uz_andNot uz_and_one uz_shr uz_shl_one uz_shl uz_sub uz_sub_one uz_add uz_beq_zero uz_bne_zero uz_beq uz_bne uz_beq_one

end Go.Proofs.YtdemmjofggemhaaDoor
