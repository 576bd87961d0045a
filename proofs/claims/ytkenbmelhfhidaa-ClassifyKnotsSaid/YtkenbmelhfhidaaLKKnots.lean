/- The walk of osierlaw17.ClassifyKnots. -/
import Derived.Test.YtkenbmelhfhidaaC17j
import Derived.Test.YtkenbmelhfhidaaC17g
namespace Go.Proofs.Ytkenbmelhfhidaa
open Go.RowKit

theorem cri_uniq {V : Int} {E R : List (BitVec 32)} {a b : Bool} (h : CRIs V E R a) (k : CRIs V E R b) : a = b := by
  unfold CRIs at h k
  rw [Bool.eq_iff_iff, h, k]
theorem rd_none {w : World} {B : Nat} {R : List (BitVec 32)} (h : Rd w B none (us R)) : R = [] := by
  cases R with
  | nil => rfl
  | cons a R => obtain ⟨ad, e, _⟩ := h 0 (by simp [us]); cases e

set_option maxHeartbeats 40000000 in
set_option maxRecDepth 100000 in
theorem law_kknots (V : Int) (A : Option Addr) (E : List (BitVec 32)) (c : Nat) (A' : Option Addr) (R : List (BitVec 32)) (c' : Nat) (w : World) (hl : E.length ≤ 35184372087808) (hE : Rd w w.heap.size A (us E)) (hl' : R.length ≤ 35184372087808) (hR : Rd w w.heap.size A' (us R)) :
    Calls Try.prog 25 #[.agg #[.int .i64 V, .slice A E.length c], .slice A' R.length c'] w fun e w' => e = .returned (.bool true) ∧ Below w.heap.size w w' := by
  obtain ⟨i, hi, hz, hs1, hb1⟩ := info_parts Try.info_u32
  go_enter Try.func25, Try.ntmps25
  go_upto_region 1 with fail
  have hb0 := below_alloc w (.cells #[.int .i64 V, .slice A E.length c] 24)
  have hG0 : Row (w.alloc (.cells #[.int .i64 V, .slice A E.length c] 24)) w.heap.size 24 [.int .i64 V, .slice A E.length c] := Row.new _ _ _
  have hR0 := hR.later hb0
  generalize w.alloc _ = w0 at hb0 hG0 hR0 ⊢
  go_cut [5] (fun v wx => ∃ A1 c1, v = .slice A1 R.length c1 ∧ R.length ≤ c1 ∧ Rd wx wx.heap.size A1 (us R) ∧ Below w0.heap.size w0 wx)
  case first =>
    cases A' with
    | none =>
      have hn := rd_none hR0
      subst hn
      go_wp2_with fail
      go_meet
      exact ⟨_, _, rfl, Nat.le_refl _, Rd.nil, below_alloc _ _⟩
    | some ad =>
      go_wp2_with ((with_reducible show wpList _ _ _ _ _ _); refine wpList_append_own_at _ rfl (.tmp 7) (.tmp 8) 22 rfl w0.heap.size 39 i (.int .u32 0) 1 4 Try.underlying22 hi hz hs1 hb1 rfl (by decide) _ 0 [] rfl (empty_own w0 39) ad R.length c' (us R) rfl (by simp) ((hR0.below (below_alloc w0 _)).news) (us_one R) (by unfold maxLen; omega) (by omega) (by simp) ?_)
      intro v' w' hown hg _ _
      obtain ⟨A1, c1, rfl, hc1, _, hRd, _⟩ := Rd.of_own hown
      have hBw : Below w0.heap.size w0 w' := ((Below.refl _ _).alloc (Nat.le_refl _) _).grown hg (by simp) fun k hk => by
        simp only [Value.ownBlock, Option.some.injEq] at hk
        omega
      go_wp2_with fail
      go_meet
      exact ⟨_, _, rfl, hc1, hRd, hBw⟩
  case rest =>
    obtain ⟨A1, c1, rfl, hcap, hI, hbc⟩ := hcut
    have hB1 := bthen hb0 hbc
    have hG1 := hG0.later hbc
    have hE1 := hE.later hB1
    have hR1 := hR0.later hbc
    have d0 : wc.cell? ⟨w.heap.size, 0, none⟩ = some (.int .i64 V) := hG1.cell 0
    have d1 : wc.cell? ⟨w.heap.size, 1, none⟩ = some (.slice A E.length c) := hG1.cell 1
    clear hb0 hbc hG0 hE hR hR0 hi hz hs1 hb1
    go_wp2_with fail
    refine (copy_any V A E c _ hl hE1).mono ?_
    rintro e w2 ⟨g, rfl, hg, hRg, hb2⟩
    have hB2 := bthen hB1 hb2
    have hG2 := hG1.later hb2
    have hE2 := hE1.later hb2
    have hR2 := hR1.later hb2
    have hI2 := hI.later hb2
    clear d0 d1 hB1 hG1 hE1 hR1 hI hb2 hg
    go_wp2_with fail
    refine (checkRest_any V (some ⟨g, 0, none⟩) E E.length A1 R c1 w2 hl hRg.rd hl' hcap hI2).mono ?_
    rintro e w3 ⟨ok, rfl, hC, hb3⟩
    have hB3 := bthen hB2 hb3
    have hG3 := hG2.later hb3
    have hE3 := hE2.later hb3
    have hR3 := hR2.later hb3
    have hI3 := hI2.later hb3
    have d0 : w3.cell? ⟨w.heap.size, 0, none⟩ = some (.int .i64 V) := hG3.cell 0
    have d1 : w3.cell? ⟨w.heap.size, 1, none⟩ = some (.slice A E.length c) := hG3.cell 1
    clear hB2 hG2 hE2 hR2 hI2 hb3 hRg
    go_wp2_with fail
    refine (r17checkRest_any V A E c A' R c' w3 hl hE3 hl' hR3).mono ?_
    rintro e w4 ⟨ok', rfl, hC', hb4⟩
    have e1 := cri_uniq hC.out hC'.out
    subst e1
    have hB4 := bthen hB3 hb4
    have hG4 := hG3.later hb4
    have hE4 := hE3.later hb4
    have hR4 := hR3.later hb4
    have hI4 := hI3.later hb4
    clear d0 d1 hC' hB3 hG3 hE3 hR3 hI3 hb4
    have HS : Hid (Calls Try.prog 44 #[.slice A1 R.length c1, .slice A' R.length c'] w4 fun e w' => e = .returned (.bool true) ∧ ∃ n, w' = w4.drewN n) := Lib.hid (by
      have := sameSets_any A1 A' R R c1 c' w4 hl' hl' hI4 hR4
      rw [show (R == R) = true by simp] at this
      exact this)
    clear hR4 hI4
    cases ok
    · go_wp2_with fail
      refine HS.out.mono ?_
      rintro e w5 ⟨rfl, m, rfl⟩
      go_wp2_with fail
      refine (awake17_any _).mono ?_
      rintro e w6 ⟨rfl, hb6⟩
      go_wp2_with fail
      go_ret
      exact ⟨rfl, bthen (below_drewN hB4 _) hb6⟩
    · obtain ⟨hv, hK⟩ := hC.out.1 rfl
      obtain ⟨v0, v30, v7, _⟩ := validB_of hv
      obtain ⟨n, rfl⟩ : ∃ n : Nat, V = n := ⟨V.toNat, by omega⟩
      have HX : Hid (∀ w, Rd w w.heap.size A (us E) → Calls Try.prog 39 #[.agg #[.int .i64 n, .slice A E.length c]] w fun e w' => e = .returned (.bool false) ∧ Below w.heap.size w w') := Lib.hid fun w hw => by
        have h1 := exists_any n A E c w (by omega) v7 hw
        have h2 : existsB n E = false := by
          rw [exists_acy hv, ← Bool.not_eq_true, acyB_iff hv]
          exact knot_no_jt hK.knot
        rwa [h2] at h1
      clear hC hv hK
      go_wp2_with fail
      refine HS.out.mono ?_
      rintro e w5 ⟨rfl, m, rfl⟩
      have hB5 := below_drewN hB4 m
      have hG5 := hG4.later (below_drewN (Below.refl _ _) m)
      have hE5 : Rd (w4.drewN m) (w4.drewN m).heap.size A (us E) := hE4.later (below_drewN (Below.refl _ _) m)
      have d0 : (w4.drewN m).cell? ⟨w.heap.size, 0, none⟩ = some (.int .i64 n) := hG5.cell 0
      have d1 : (w4.drewN m).cell? ⟨w.heap.size, 1, none⟩ = some (.slice A E.length c) := hG5.cell 1
      generalize w4.drewN m = w5 at hB5 hG5 hE5 d0 d1 ⊢
      go_wp2_with fail
      refine (HX.out _ hE5).mono ?_
      rintro e w6 ⟨rfl, hb6⟩
      go_wp2_with fail
      refine (awake17_any _).mono ?_
      rintro e w7 ⟨rfl, hb7⟩
      go_wp2_with fail
      go_ret
      exact ⟨rfl, bthen (bthen hB5 hb6) hb7⟩
end Go.Proofs.Ytkenbmelhfhidaa
