/- The contract of ears.next. -/
import Derived.Test.YtkenbmelhfhidaaEars1
namespace Go.Proofs.Ytkenbmelhfhidaa
open Go.RowKit

attribute [local go_sem ↓] uz_and uz_or uz_andNot uz_and_one uz_shr uz_shl_one uz_shl uz_sub uz_sub_one uz_add uz_beq_zero uz_bne_zero uz_beq uz_bne uz_beq_one

/-- What next answers. -/
def NextPost (S : Nat → BitVec 32) (T : Nat → Bool) (n : Nat) (keep : BitVec 32) (w : World) (e : Ending) (w' : World) : Prop :=
  ∃ (s : Stp) (b : Bool), e = .returned (.tuple #[.agg #[.int .i64 s.kind, .int .i64 s.edge, .int .i64 s.into, .int .u32 (uz s.cut)], .bool b]) ∧ Hid (nextS S T n keep = if b = true then some s else none) ∧ Below w.heap.size w w'

theorem noTrim_next {S : Nat → BitVec 32} {T : Nat → Bool} {n k : Nat} {keep : BitVec 32} (h : noTrim S T n keep k) (hk : T k = true → loneTo S T keep k n = 0#32) : noTrim S T n keep (k + 1) := fun i hi hT => by
  rcases Nat.lt_or_ge i k with c | c
  · exact h i c hT
  · obtain rfl : i = k := by omega
    exact hk hT
theorem upto_next {P : Nat → Prop} {k : Nat} (h : ∀ b, b < k → P b) (hk : P k) : ∀ b, b < k + 1 → P b := fun b hb => by
  rcases Nat.lt_or_ge b k with c | c
  · exact h b c
  · obtain rfl : b = k := by omega
    exact hk

set_option maxHeartbeats 2000000 in
set_option maxRecDepth 100000 in
theorem next_any (w : World) (g n : Nat) (S : Nat → BitVec 32) (T : Nat → Bool) (keep : BitVec 32) (h : Rem w g S T n keep) (hn : n ≤ 7) :
    Calls Try.prog 91 #[.pointer (some ⟨g, 0, none⟩)] w (NextPost S T n keep w) := by
  go_enter Try.func91, Try.ntmps91
  have hg := Row.lt h
  go_upto_region 1 with fail
  have hb0 := below_alloc w (.cells #[.int .i64 0, .int .i64 0, .int .i64 0, .int .u32 0] 66)
  have hR0 : Row (w.alloc (.cells #[.int .i64 0, .int .i64 0, .int .i64 0, .int .u32 0] 66)) w.heap.size 66 [.int .i64 0, .int .i64 0, .int .i64 0, .int .u32 0] := Row.new _ _ _
  have h0 := h.later hb0
  generalize w.alloc _ = W0 at hb0 hR0 h0 ⊢
  have hz : w.heap.size < W0.heap.size := hR0.lt
  have c3 := h0.n_cell
  have z0 : W0.cell? ⟨w.heap.size, 0, none⟩ = some (.int .i64 0) := hR0.cell 0
  have z1 : W0.cell? ⟨w.heap.size, 1, none⟩ = some (.int .i64 0) := hR0.cell 1
  have z2 : W0.cell? ⟨w.heap.size, 2, none⟩ = some (.int .i64 0) := hR0.cell 2
  have z3 : W0.cell? ⟨w.heap.size, 3, none⟩ = some (.int .u32 0) := hR0.cell 3
  have f0 := hR0.frozen 0
  have f1 := hR0.frozen 1
  have f2 := hR0.frozen 2
  have f3 := hR0.frozen 3
  clear h
  go_wp2_with fail
  go_loopw [4, 5, 14] (fun _ _ j wr => ∃ k : Nat, k ≤ n ∧ j = .int .i64 k ∧ Hid (noTrim S T n keep k) ∧ ∃ m, wr = W0.drewN m) (fun _ _ j _ => n - (intOf j).toNat)
  case atStart => exact ⟨0, Nat.zero_le _, rfl, Lib.hid (fun i hi => absurd hi (Nat.not_lt_zero i)), 0, rfl⟩
  case round =>
    obtain ⟨k, hk, rfl, hno, m, rfl⟩ := hrel
    have h1 := h0.drewN m
    by_cases hlt : k < n
    · have a1 : (0 : Int) ≤ k := by omega
      have a2 : (k : Int) < 7 := by omega
      have hT := fun m => (h0.drewN m).there_cell (show k < 7 by omega)
      have hL := lonely_any (W0.drewN m) g n S T keep h1 hn k (by omega)
      have HNx := Lib.hid (noTrim_next (k := k) hno.out)
      have HTr := Lib.hid (next_trim (S := S) (T := T) (n := n) (keep := keep) hno.out hlt)
      generalize loneTo S T keep k n = l at hL HNx HTr
      generalize T k = tk at hT HNx HTr
      have HT := Lib.hid hT
      clear hT
      go_wp2_with fail
      refine hL.mono ?_
      rintro e w1 ⟨rfl, m1, rfl⟩
      have d1 := HT.out m1
      have d2 : (W0.drewN (m + m1)).cell? ⟨g, 7 + k, none⟩ = some (.bool tk) := HT.out _
      cases tk
      · go_wp2_with fail
        go_roundw
        case rel => exact ⟨k + 1, by omega, by go_num, Lib.hid (HNx.out (fun c => by cases c)), _, rfl⟩
        case measure => simp [intOf]; omega
      · by_cases hl : l = 0#32
        · have hb : (l != 0#32) = false := by simp [hl]
          have HN2 := Lib.hid (HNx.out (fun _ => hl))
          clear hl
          go_wp2_with fail
          go_roundw
          case rel => exact ⟨k + 1, by omega, by go_num, HN2, _, rfl⟩
          case measure => simp [intOf]; omega
        · have hb : (l != 0#32) = true := by simp [hl]
          have HS := Lib.hid (HTr.out rfl hl)
          clear hl
          go_wp2_with fail
          refine bodyPost_ret (v := .tuple #[.agg #[.int .i64 1, .int .i64 k, .int .i64 0, .int .u32 (uz l)], .bool true]) (by simp [results, Try.results91, go_sem, z0, z1, z2, z3]) rfl ⟨⟨1, k, 0, l⟩, true, rfl, Lib.hid (by rw [HS.out]; rfl), ?_⟩
          exact ((((below_drewN hb0 _).setCell (Nat.le_refl _) _).setCell (Nat.le_refl _) _).setCell (Nat.le_refl _) _).setCell (Nat.le_refl _) _
    · obtain rfl : k = n := by omega
      go_wp2_with fail
      go_loopw [6, 7, 38] (fun _ _ j wr => ∃ a : Nat, a ≤ k ∧ j = .int .i64 a ∧ Hid (∀ b, b < a → noSame S T k b) ∧ ∃ m, wr = W0.drewN m) (fun _ _ j _ => k - (intOf j).toNat)
      case atStart => exact ⟨0, Nat.zero_le _, rfl, Lib.hid (fun i hi => absurd hi (Nat.not_lt_zero i)), _, rfl⟩
      case round =>
        obtain ⟨a, ha, rfl, hsm, m2, rfl⟩ := hrel
        by_cases hla : a < k
        · have a1 : (0 : Int) ≤ a := by omega
          have a2 : (a : Int) < 7 := by omega
          go_wp2_with fail
          go_loopw [7] (fun j wr => ∃ b : Nat, a < b ∧ b ≤ k ∧ j = .int .i64 b ∧ Hid (∀ i, a < i → i < b → kindZ S T i a ≠ 2) ∧ ∃ m, wr = W0.drewN m) (fun j _ => k - (intOf j).toNat)
          case atStart => exact ⟨a + 1, by omega, by omega, by go_num, Lib.hid (fun i hi hi2 => by omega), _, rfl⟩
          case round =>
            obtain ⟨b, hab, hb, rfl, hnb, m3, rfl⟩ := hrel
            by_cases hlb : b < k
            · have b1 : (0 : Int) ≤ b := by omega
              have b2 : (b : Int) < 7 := by omega
              have hK := kind_any (W0.drewN m3) g k S T keep (h0.drewN m3) b a (by omega) (by omega)
              have HH := Lib.hid (next_same (keep := keep) hno.out hsm.out hnb.out hab hlb)
              have HB : Hid (kindZ S T b a ≠ 2 → ∀ i, a < i → i < b + 1 → kindZ S T i a ≠ 2) := Lib.hid (fun hz i h1 h2 => by
                rcases Nat.lt_or_ge i b with c | c
                · exact hnb.out i h1 c
                · obtain rfl : i = b := by omega
                  exact hz)
              generalize kindZ S T b a = z at hK HH HB
              by_cases hz2 : z = 2
              · subst hz2
                have HS := Lib.hid (HH.out rfl)
                go_wp2_with fail
                refine hK.mono ?_
                rintro e w1 ⟨rfl, m1, rfl⟩
                go_wp2_with fail
                refine bodyPost_ret (v := .tuple #[.agg #[.int .i64 2, .int .i64 b, .int .i64 a, .int .u32 0], .bool true]) (by simp [results, Try.results91, go_sem, z0, z1, z2, z3]) rfl ⟨⟨2, b, a, 0#32⟩, true, rfl, Lib.hid (by rw [HS.out]; rfl), ?_⟩
                exact ((((below_drewN hb0 _).setCell (Nat.le_refl _) _).setCell (Nat.le_refl _) _).setCell (Nat.le_refl _) _).setCell (Nat.le_refl _) _
              · have hzb : (z == 2) = false := by simp [hz2]
                have HB2 := Lib.hid (HB.out hz2)
                clear hz2
                go_wp2_with fail
                refine hK.mono ?_
                rintro e w1 ⟨rfl, m1, rfl⟩
                go_wp2_with fail
                go_roundw
                case rel => exact ⟨b + 1, by omega, by omega, by go_num, HB2, _, rfl⟩
                case measure => simp [intOf]; omega
            · obtain rfl : b = k := by omega
              have HA := Lib.hid (upto_next hsm.out hnb.out)
              go_wp2_with fail
              go_roundw
              case rel => exact ⟨a + 1, by omega, by go_num, HA, _, rfl⟩
              case measure => simp [intOf]; omega
        · obtain rfl : a = k := by omega
          go_wp2_with fail
          go_loopw [8, 64] (fun _ j wr => ∃ i : Nat, i ≤ a ∧ j = .int .i64 i ∧ Hid (∀ b, b < i → noUnder S T a b) ∧ ∃ m, wr = W0.drewN m) (fun _ j _ => a - (intOf j).toNat)
          case atStart => exact ⟨0, Nat.zero_le _, rfl, Lib.hid (fun i hi => absurd hi (Nat.not_lt_zero i)), _, rfl⟩
          case round =>
            obtain ⟨i, hi, rfl, hun, m4, rfl⟩ := hrel
            by_cases hli : i < a
            · have a1 : (0 : Int) ≤ i := by omega
              have a2 : (i : Int) < 7 := by omega
              go_wp2_with fail
              go_loopw [9, 71] (fun _ j wr => ∃ b : Nat, b ≤ a ∧ j = .int .i64 b ∧ Hid (∀ m, m < b → kindZ S T i m ≠ 3) ∧ ∃ m, wr = W0.drewN m) (fun _ j _ => a - (intOf j).toNat)
              case atStart => exact ⟨0, Nat.zero_le _, rfl, Lib.hid (fun i hi => absurd hi (Nat.not_lt_zero i)), _, rfl⟩
              case round =>
                obtain ⟨b, hb, rfl, hnb, m3, rfl⟩ := hrel
                by_cases hlb : b < a
                · have b1 : (0 : Int) ≤ b := by omega
                  have b2 : (b : Int) < 7 := by omega
                  have hK := kind_any (W0.drewN m3) g a S T keep (h0.drewN m3) i b (by omega) (by omega)
                  have HH := Lib.hid (next_under (keep := keep) hno.out hsm.out hun.out hnb.out hli hlb)
                  have HB : Hid (kindZ S T i b ≠ 3 → ∀ m, m < b + 1 → kindZ S T i m ≠ 3) := Lib.hid (fun hz => upto_next hnb.out hz)
                  generalize kindZ S T i b = z at hK HH HB
                  by_cases hz2 : z = 3
                  · subst hz2
                    have HS := Lib.hid (HH.out rfl)
                    go_wp2_with fail
                    refine hK.mono ?_
                    rintro e w1 ⟨rfl, m1, rfl⟩
                    go_wp2_with fail
                    refine bodyPost_ret (v := .tuple #[.agg #[.int .i64 3, .int .i64 i, .int .i64 b, .int .u32 0], .bool true]) (by simp [results, Try.results91, go_sem, z0, z1, z2, z3]) rfl ⟨⟨3, i, b, 0#32⟩, true, rfl, Lib.hid (by rw [HS.out]; rfl), ?_⟩
                    exact ((((below_drewN hb0 _).setCell (Nat.le_refl _) _).setCell (Nat.le_refl _) _).setCell (Nat.le_refl _) _).setCell (Nat.le_refl _) _
                  · have hzb : (z == 3) = false := by simp [hz2]
                    have HB2 := Lib.hid (HB.out hz2)
                    clear hz2
                    go_wp2_with fail
                    refine hK.mono ?_
                    rintro e w1 ⟨rfl, m1, rfl⟩
                    go_wp2_with fail
                    go_roundw
                    case rel => exact ⟨b + 1, by omega, by go_num, HB2, _, rfl⟩
                    case measure => simp [intOf]; omega
                · obtain rfl : b = a := by omega
                  have HA := Lib.hid (upto_next hun.out hnb.out)
                  go_wp2_with fail
                  go_roundw
                  case rel => exact ⟨i + 1, by omega, by go_num, HA, _, rfl⟩
                  case measure => simp [intOf]; omega
            · obtain rfl : i = a := by omega
              have HS := Lib.hid (next_none hno.out hsm.out hun.out)
              go_wp2_with fail
              refine bodyPost_ret (v := .tuple #[.agg #[.int .i64 0, .int .i64 0, .int .i64 0, .int .u32 0], .bool false]) (by simp [results, Try.results91, go_sem, z0, z1, z2, z3]) rfl ⟨⟨0, 0, 0, 0#32⟩, false, rfl, Lib.hid (by rw [HS.out]; rfl), ?_⟩
              exact ((((below_drewN hb0 _).setCell (Nat.le_refl _) _).setCell (Nat.le_refl _) _).setCell (Nat.le_refl _) _).setCell (Nat.le_refl _) _
end Go.Proofs.Ytkenbmelhfhidaa
