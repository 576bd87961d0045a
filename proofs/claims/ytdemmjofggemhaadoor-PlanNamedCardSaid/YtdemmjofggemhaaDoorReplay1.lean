/- The contract of ears.Replay. -/
import Derived.Test.YtdemmjofggemhaaDoorBK
import Derived.Test.YtdemmjofggemhaaDoorBD
namespace Go.Proofs.YtdemmjofggemhaaDoor
open Go.RowKit

set_option maxHeartbeats 4000000 in
set_option maxRecDepth 100000 in
theorem replay_any (V : Int) (A : Option Addr) (E : List (BitVec 32)) (c : Nat) (keep : BitVec 32) (A' : Option Addr) (ss : List Stp) (c' : Nat) (w : World) (hl : E.length ≤ 35184372087808) (hE : Rd w w.heap.size A (us E)) (hl' : ss.length ≤ 35184372087808) (hS : Rd w w.heap.size A' (sts ss)) :
    Calls Tryd.prog 42 #[.agg #[.int .i64 V, .slice A E.length c], .int .u32 (uz keep), .slice A' ss.length c'] w fun e w' => ∃ v L n code, e = .returned (.tuple #[v, .int .i64 n, .int .i64 code]) ∧ w'.ownsRow w.heap.size 77 2 v L.length (lfs L) ∧ Hid (ReplIs V E keep ss L n code) ∧ Below w.heap.size w w' := by
  go_enter Tryd.func42, Tryd.ntmps42
  go_wp2_with fail
  have hb0 := below_alloc w (.cells #[.int .i64 V, .slice A E.length c] 61)
  have hG0 : Row (w.alloc (.cells #[.int .i64 V, .slice A E.length c] 61)) w.heap.size 61 [.int .i64 V, .slice A E.length c] := Row.new _ _ _
  generalize w.alloc _ = w0 at hb0 hG0 ⊢
  refine (valid_any V A E c _ hl (hE.later hb0)).mono ?_
  rintro e w1 ⟨rfl, hb1⟩
  have hB1 := bthen hb0 hb1
  cases hv : validB V E
  · have HP : Hid (ReplIs V E keep ss [] 0 140) := Lib.hid (.inl ⟨hv, rfl, rfl, rfl⟩)
    clear hv
    go_wp2_with fail
    refine bodyPost_ret (v := .tuple #[.slice none 0 0, .int .i64 0, .int .i64 140]) (by simp [results, Tryd.results42, go_sem]) rfl ?_
    exact ⟨_, [], _, _, rfl, ⟨rfl, .inl ⟨rfl, rfl⟩⟩, HP, hB1⟩
  · have h7 := (validB_of hv).2.2.1
    have HV := Lib.hid hv
    have hG1 := hG0.later hb1
    have d0 : w1.cell? ⟨w.heap.size, 0, none⟩ = some (.int .i64 V) := hG1.cell 0
    have d1 : w1.cell? ⟨w.heap.size, 1, none⟩ = some (.slice A E.length c) := hG1.cell 1
    clear hv
    go_wp2_with fail
    refine (begin_any V A E c keep w1 h7 (hE.later hB1)).mono ?_
    rintro e w2 ⟨g, rfl, hg, hR, hb2⟩
    have hB2 := bthen hB1 hb2
    have hgw : w.heap.size ≤ g := by have := hb0.size; have := hb1.size; omega
    have HB : Hid (lefts (ed E) (begT E.length) E.length = mkTo (beginE E) ss 0) := Lib.hid (begin_lefts E).symm
    clear d0 d1 hG1 hb2 hB1 hb1 hG0 hb0
    go_wp2_with fail
    go_loopw [7, 20] (fun n i wr => ∃ (k : Nat) (S : Nat → BitVec 32) (T : Nat → Bool), k ≤ ss.length ∧ i = .int .i64 k ∧ n = .int .i64 k ∧ Rem wr g S T E.length keep ∧ Hid (lefts S T E.length = mkTo (beginE E) ss k) ∧ Hid (legalTo keep (beginE E) ss k) ∧ Below w.heap.size w wr) (fun _ i _ => ss.length - (intOf i).toNat)
    case atStart => exact ⟨0, _, _, Nat.zero_le _, rfl, rfl, hR, HB, Lib.hid fun i hi => absurd hi (Nat.not_lt_zero _), hB2⟩
    case round =>
      obtain ⟨k, S, T, hk, rfl, rfl, hRk, HL, HG, hB⟩ := hrel
      clear HB hR hB2
      by_cases hlt : k < ss.length
      · obtain ⟨ad, hA, _, c0, c1, c2, c3⟩ := (hS.below hB).st_cells hlt
        subst hA
        have b1 : (0 : Int) ≤ k := by omega
        have b2 : (k : Int) < ss.length := by omega
        have HST : Hid (isB S T E.length keep (stp ss k) = true → legalTo keep (beginE E) ss (k + 1)) := Lib.hid fun h i hi => by
          rcases Nat.lt_or_ge i k with d | d
          · exact HG.out i d
          · obtain rfl : i = k := by omega
            unfold isB at h
            rw [← HL.out]
            simpa using h
        have HNO : Hid (isB S T E.length keep (stp ss k) = false → ReplIs V E keep ss (lefts S T E.length) k 0) := Lib.hid fun h => .inr ⟨HV.out, rfl, k, rfl, hk, HL.out, HG.out, .inr (by
          unfold isB at h
          rw [← HL.out]
          simpa using h)⟩
        have HMK : Hid (makeE (mkTo (beginE E) ss k) (stp ss k) = mkTo (beginE E) ss (k + 1)) := Lib.hid rfl
        generalize stp ss k = s at c0 c1 c2 c3 HST HNO HMK
        go_upto_region 7 with fail
        have hb3 := below_alloc wr (.cells #[.int .i64 s.kind, .int .i64 s.edge, .int .i64 s.into, .int .u32 (uz s.cut)] 84)
        have hH3 : Row (wr.alloc (.cells #[.int .i64 s.kind, .int .i64 s.edge, .int .i64 s.into, .int .u32 (uz s.cut)] 84)) wr.heap.size 84 [.int .i64 s.kind, .int .i64 s.edge, .int .i64 s.into, .int .u32 (uz s.cut)] := Row.new _ _ _
        have hR3 := hRk.later hb3
        have hB3 := bthen hB hb3
        generalize wr.alloc _ = w3 at hb3 hH3 hR3 hB3 ⊢
        generalize wr.heap.size = q at hH3 ⊢
        have z0 : w3.cell? ⟨q, 0, none⟩ = some (.int .i64 s.kind) := hH3.cell 0
        have z1 : w3.cell? ⟨q, 1, none⟩ = some (.int .i64 s.edge) := hH3.cell 1
        have z2 : w3.cell? ⟨q, 2, none⟩ = some (.int .i64 s.into) := hH3.cell 2
        have z3 : w3.cell? ⟨q, 3, none⟩ = some (.int .u32 (uz s.cut)) := hH3.cell 3
        clear c0 c1 c2 c3 hb3 hH3 hRk hB
        go_wp2_with fail
        refine (make_any w3 g E.length S T keep hR3 h7 s).mono ?_
        rintro e w4 ⟨S', T', rfl, hR4, hg4, HL4⟩
        have hB4 := hB3.trans (grown_to_below hg4 hgw hB3.size)
        clear z0 z1 z2 z3 hR3 hB3 hg4
        cases hi : isB S T E.length keep s
        · have HQ := Lib.hid (HNO.out hi)
          have HL5 : Hid (lefts S' T' E.length = lefts S T E.length) := Lib.hid (by
            have := HL4.out
            rw [hi] at this
            exact this)
          clear HST HNO HL4 hi HMK
          go_wp2_with fail
          refine (left_any w4 g E.length S' T' keep hR4 h7).mono ?_
          rintro e w5 ⟨v, rfl, hown, hb5⟩
          rw [HL5.out] at hown
          generalize lefts S T E.length = M at hown HQ
          have hB5 := bthen hB4 hb5
          go_wp2_with fail
          refine bodyPost_ret (v := .tuple #[v, .int .i64 k, .int .i64 0]) (by simp [results, Tryd.results42, go_sem]) rfl ?_
          exact ⟨_, M, _, _, rfl, own_less hown hB4.size, HQ, hB5⟩
        · have HX := Lib.hid (HST.out hi)
          have HL5 : Hid (lefts S' T' E.length = mkTo (beginE E) ss (k + 1)) := Lib.hid (by
            have := HL4.out
            rw [hi] at this
            rw [this, ← HMK.out, ← HL.out]; rfl)
          clear HST HNO HL4 hi HMK
          go_wp2_with fail
          go_roundw
          case measure => simp [intOf]; omega
          case rel => exact ⟨k + 1, S', T', by omega, by go_num, by go_num, hR4, HL5, HX, hB4⟩
      · obtain rfl : k = ss.length := by omega
        have HQ : Hid (ReplIs V E keep ss (lefts S T E.length) ss.length 0) := Lib.hid (.inr ⟨HV.out, rfl, ss.length, rfl, Nat.le_refl _, HL.out, HG.out, .inl rfl⟩)
        go_wp2_with fail
        refine (left_any wr g E.length S T keep hRk h7).mono ?_
        rintro e w5 ⟨v, rfl, hown, hb5⟩
        generalize lefts S T E.length = M at hown HQ
        have hB5 := bthen hB hb5
        go_wp2_with fail
        refine bodyPost_ret (v := .tuple #[v, .int .i64 ss.length, .int .i64 0]) (by simp [results, Tryd.results42, go_sem]) rfl ?_
        exact ⟨_, M, _, _, rfl, own_less hown hB.size, HQ, hB5⟩
end Go.Proofs.YtdemmjofggemhaaDoor
