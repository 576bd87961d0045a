/- The walk of osierlaw17.ClassifyExtends. -/
import Derived.Test.YtkenbmelhfhidaaBG
import Derived.Test.YtkenbmelhfhidaaCuts
namespace Go.Proofs.Ytkenbmelhfhidaa
open Go.RowKit

set_option maxHeartbeats 40000000 in
set_option maxRecDepth 100000 in
theorem law_kext (V : Int) (A : Option Addr) (E : List (BitVec 32)) (c : Nat) (head : BitVec 32) (w : World) (hl : E.length ≤ 35184372087808) (hE : Rd w w.heap.size A (us E)) :
    Calls Try.prog 20 #[.agg #[.int .i64 V, .slice A E.length c], .int .u32 (uz head)] w fun e w' => e = .returned (.bool true) ∧ Below w.heap.size w w' := by
  go_enter Try.func20, Try.ntmps20
  go_wp2_with fail
  have hb0 := below_alloc w (.cells #[.int .i64 V, .slice A E.length c] 24)
  have hG0 : Row (w.alloc (.cells #[.int .i64 V, .slice A E.length c] 24)) w.heap.size 24 [.int .i64 V, .slice A E.length c] := Row.new _ _ _
  generalize w.alloc _ = w0 at hb0 hG0 ⊢
  refine (copy_any V A E c _ hl (hE.later hb0)).mono ?_
  rintro e w1 ⟨g, rfl, hg, hRg, hb1⟩
  have hB1 := bthen hb0 hb1
  have hG1 := hG0.later hb1
  have hg0 : w.heap.size ≤ g := Nat.le_trans hb0.size hg
  go_upto_region 2 with fail
  have hb2 := below_alloc w1 (.cells #[.int .i64 V, .slice (some ⟨g, 0, none⟩) E.length E.length] 24)
  have hI2 : Row (w1.alloc (.cells #[.int .i64 V, .slice (some ⟨g, 0, none⟩) E.length E.length] 24)) w1.heap.size 24 [.int .i64 V, .slice (some ⟨g, 0, none⟩) E.length E.length] := Row.new _ _ _
  have hB2 := bthen hB1 hb2
  have hG2 := hG1.later hb2
  have hRg2 := hRg.later hb2
  have hE2 := hE.later hB2
  generalize w1.heap.size = q at hI2 ⊢
  generalize w1.alloc _ = w2 at hI2 hB2 hG2 hRg2 hE2 ⊢
  have d0 : w2.cell? ⟨q, 0, none⟩ = some (.int .i64 V) := hI2.cell 0
  have d1 : w2.cell? ⟨q, 1, none⟩ = some (.slice (some ⟨g, 0, none⟩) E.length E.length) := hI2.cell 1
  clear hb2 hG1 hB1 hb1 hRg hG0 hb0 hE
  go_wp2_with fail
  refine (extended_any V ⟨g, 0, none⟩ E E.length head w2 hl hRg2.rd).mono ?_
  rintro e w3 ⟨V', v, F, code, rfl, hown, hX, hb3⟩
  have hF7 := extIs_len hX.out
  have hB3 := bthen hB2 hb3
  have hG3 := hG2.later hb3
  have hI3 := hI2.later hb3
  have hRg3 := hRg2.later hb3
  have hE3 := hE2.later hb3
  obtain ⟨A3, c3, rfl, _, _, hF3, _⟩ := Rd.of_own hown
  have hB3' : Below w2.heap.size w2 w3 := hb3
  go_upto_region 3 with fail
  have hb4 := below_alloc w3 (.cells #[.int .i64 V', .slice A3 F.length c3] 24)
  have hJ4 : Row (w3.alloc (.cells #[.int .i64 V', .slice A3 F.length c3] 24)) w3.heap.size 24 [.int .i64 V', .slice A3 F.length c3] := Row.new _ _ _
  have hB4 := bthen hB3 hb4
  have hN4 := bthen hB3' hb4
  have hG4 := hG3.later hb4
  have hE4 := hE3.later hb4
  have hF4 := hF3.later hb4
  have hown4 := own_below hown hb4
  have hp4 : w2.heap.size ≤ w3.heap.size := hb3.size
  generalize w3.heap.size = p at hJ4 hp4 ⊢
  generalize w3.alloc _ = w4 at hJ4 hB4 hN4 hG4 hE4 hF4 hown4 ⊢
  have c0 : w4.cell? ⟨w.heap.size, 0, none⟩ = some (.int .i64 V) := hG4.cell 0
  have c1 : w4.cell? ⟨w.heap.size, 1, none⟩ = some (.slice A E.length c) := hG4.cell 1
  clear d0 d1 hB3 hG3 hE3 hF3 hb3 hb4 hown hB3'
  go_wp2_with fail
  refine (r17extended_any V A E c head w4 hl hE4).mono ?_
  rintro e w5 ⟨V2, v5, F', code', rfl, hown5, hX', hb5⟩
  obtain ⟨e1, e2, e3⟩ := extIs_uniq hX.out hX'.out
  subst e1 e2 e3
  obtain ⟨A5, c5, rfl, _, _, hY5, _⟩ := Rd.of_own hown5
  have hB5 := bthen hB4 hb5
  have hN5 := bthen hN4 hb5
  have hF5 := hF4.later hb5
  have hJ5 := hJ4.later hb5
  have hown5' := own_below hown4 hb5
  clear c0 c1 hown5 hown4 hX hX' hG4 hE4 hF4 hJ4 hb5 hB4 hN4
  go_upto_region 4 with fail
  have hb6 := below_alloc w5 (.cells #[.int .i64 V', .slice A5 F.length c5] 24)
  have hL6 : Row (w5.alloc (.cells #[.int .i64 V', .slice A5 F.length c5] 24)) w5.heap.size 24 [.int .i64 V', .slice A5 F.length c5] := Row.new _ _ _
  have hB6 := bthen hB5 hb6
  have hN6 := bthen hN5 hb6
  have hJ6 := hJ5.later hb6
  have hF6 := hF5.later hb6
  have hY6 := hY5.later hb6
  have hown6 := own_below hown5' hb6
  generalize w5.heap.size = r at hL6 ⊢
  generalize w5.alloc _ = w6 at hL6 hB6 hN6 hJ6 hF6 hY6 hown6 ⊢
  clear hb6 hB5 hN5 hJ5 hF5 hY5 hown5'
  have c0 : w6.cell? ⟨p, 0, none⟩ = some (.int .i64 V') := hJ6.cell 0
  have c1 : w6.cell? ⟨p, 1, none⟩ = some (.slice A3 F.length c3) := hJ6.cell 1
  have d0 : w6.cell? ⟨r, 0, none⟩ = some (.int .i64 V') := hL6.cell 0
  have d1 : w6.cell? ⟨r, 1, none⟩ = some (.slice A5 F.length c5) := hL6.cell 1
  have HSM : Hid (Calls Try.prog 34 #[.agg #[.int .i64 V', .slice A3 F.length c3], .agg #[.int .i64 V', .slice A5 F.length c5]] w6 fun e w' => e = .returned (.bool true) ∧ Below w6.heap.size w6 w') := Lib.hid (by
    have := same_any V' V' A3 A5 F F c3 c5 w6 (by omega) (by omega) hF6 hY6
    rw [show sameG V' V' F F = true by simp [sameG]] at this
    exact this)
  go_wp2_with fail
  refine HSM.out.mono ?_
  rintro e w7 ⟨rfl, hb7⟩
  have hB7 := bthen hB6 hb7
  have hN7 := bthen hN6 hb7
  have hJ7 := hJ6.later hb7
  have hown7 := own_below hown6 hb7
  clear HSM c0 c1 d0 d1 hb7 hB6 hN6 hJ6 hF6 hY6 hown6 hL6
  have HIN : Hid (∀ k, k < F.length → ∃ (b : Nat) (xs : List Value), A3 = some ⟨b, 0, none⟩ ∧ w2.heap.size ≤ b ∧ b ≠ p ∧ Row w7 b 39 xs ∧ F.length ≤ xs.length) := Lib.hid fun k hk => by
    rcases hown7.2 with ⟨_, hn⟩ | ⟨b, cap, cur, e, hb, hg', hn, _, hsz, _⟩
    · omega
    · injection e with e
      have hr : Row w7 b 39 cur.toList := by unfold Row; simpa using hg'
      refine ⟨b, cur.toList, e, hb, row_ne hr hJ7 (by decide), hr, ?_⟩
      have : cur.toList.length = cap * 1 := by rw [← hsz]; simp
      omega
  clear hown7
  have d1 : w7.cell? ⟨p, 1, none⟩ = some (.slice A3 F.length c3) := hJ7.cell 1
  go_wp2_with fail
  clear d1
  go_loopw [37] (fun i wr => ∃ k : Nat, k ≤ F.length ∧ i = .int .i64 k ∧ Row wr p 24 [.int .i64 V', .slice A3 F.length c3] ∧ Below w2.heap.size w2 wr ∧ Hid (∀ k, k < F.length → ∃ (b : Nat) (xs : List Value), A3 = some ⟨b, 0, none⟩ ∧ w2.heap.size ≤ b ∧ b ≠ p ∧ Row wr b 39 xs ∧ F.length ≤ xs.length)) (fun i _ => F.length - (intOf i).toNat)
  case atStart => exact ⟨0, Nat.zero_le _, rfl, hJ7, hN7, HIN⟩
  clear HIN hJ7 hN7 hB7
  case round =>
    obtain ⟨k, hk, rfl, hJr, hNr, HIr⟩ := hrel
    have d1 : World.cell? wr ⟨p, 1, none⟩ = some (.slice A3 F.length c3) := hJr.cell 1
    by_cases hlt : k < F.length
    · obtain ⟨b, xs, rfl, hb, hbp, hrow, hlen⟩ := HIr.out k hlt
      have q0 : World.cell? wr ⟨b, k, none⟩ = some (xs[k]'(by omega)) := by rw [hrow.cell]; exact List.getElem?_eq_getElem (by omega)
      have qf := hrow.frozen k
      have b1 : (0 : Int) ≤ k := by omega
      have b2 : (k : Int) < F.length := by omega
      generalize xs[k]'(by omega) = z at q0
      go_wp2_with fail
      go_roundw
      case rel => exact ⟨k + 1, by omega, by go_num, hJr.far (fun e => hbp e.symm) _, hNr.setCell (by simpa using hb) _, Lib.hid fun j hj => ⟨b, _, rfl, hb, hbp, hrow.set_ k _, by simpa using hlen⟩⟩
      case measure => simp [intOf]; omega
    · obtain rfl : k = F.length := by omega
      clear d1 HIr hJr
      have hIr := hI2.later hNr
      have hGr := hG2.later hNr
      have hRgr := hRg2.later hNr
      have hEr := hE2.later hNr
      have hBr := bthen hB2 hNr
      have e0 : World.cell? wr ⟨q, 0, none⟩ = some (.int .i64 V) := hIr.cell 0
      have e1 : World.cell? wr ⟨q, 1, none⟩ = some (.slice (some ⟨g, 0, none⟩) E.length E.length) := hIr.cell 1
      have f0 : World.cell? wr ⟨w.heap.size, 0, none⟩ = some (.int .i64 V) := hGr.cell 0
      have f1 : World.cell? wr ⟨w.heap.size, 1, none⟩ = some (.slice A E.length c) := hGr.cell 1
      have HSM : Hid (Calls Try.prog 34 #[.agg #[.int .i64 V, .slice (some ⟨g, 0, none⟩) E.length E.length], .agg #[.int .i64 V, .slice A E.length c]] wr fun e w' => e = .returned (.bool true) ∧ Below wr.heap.size wr w') := Lib.hid (by
        have := same_any V V (some ⟨g, 0, none⟩) A E E E.length c wr hl hl hRgr.rd hEr
        rw [show sameG V V E E = true by simp [sameG]] at this
        exact this)
      go_wp2_with fail
      refine HSM.out.mono ?_
      rintro e w8 ⟨rfl, hb8⟩
      have hB8 := bthen hBr hb8
      clear HSM e0 e1 f0 f1
      go_wp2_with fail
      refine (awake17_any w8).mono ?_
      rintro e w9 ⟨rfl, hb9⟩
      go_wp2_with fail
      go_ret
      exact ⟨rfl, bthen hB8 hb9⟩
end Go.Proofs.Ytkenbmelhfhidaa
