/- The contract of ears.make, second part. -/
import Derived.Test.YtkenbmelhfhidaaEars3
namespace Go.Proofs.Ytkenbmelhfhidaa
open Go.RowKit

attribute [local go_sem ↓] uz_and uz_or uz_andNot uz_and_one uz_shr uz_shl_one uz_shl uz_sub uz_sub_one uz_add uz_beq_zero uz_bne_zero uz_beq uz_bne uz_beq_one

theorem Rem.setS {w : World} {g n k : Nat} {S : Nat → BitVec 32} {T : Nat → Bool} {keep x : BitVec 32} (h : Rem w g S T n keep) (hk : k < 7) : Rem (w.setCell ⟨g, k, none⟩ (.int .u32 (uz x))) g (updS S k x) T n keep := by
  have := Row.set_ h k (.int .u32 (uz x))
  rw [remL_setS _ _ _ _ _ _ hk] at this
  exact this
theorem Rem.setT {w : World} {g n k : Nat} {S : Nat → BitVec 32} {T : Nat → Bool} {keep : BitVec 32} {b : Bool} (h : Rem w g S T n keep) (hk : k < 7) : Rem (w.setCell ⟨g, 7 + k, none⟩ (.bool b)) g S (updT T k b) n keep := by
  have := Row.set_ h (7 + k) (.bool b)
  rw [remL_setT _ _ _ _ _ _ hk] at this
  exact this

set_option maxHeartbeats 4000000 in
set_option maxRecDepth 100000 in
/-- Where it does not. -/
theorem make_in (w : World) (g n : Nat) (S : Nat → BitVec 32) (T : Nat → Bool) (keep : BitVec 32) (h : Rem w g S T n keep) (hn : n ≤ 7) (k : Int) (i j : Nat) (cut : BitVec 32) (hi : i < n) (hj : j < n) :
    Calls Try.prog 92 #[.pointer (some ⟨g, 0, none⟩), .agg #[.int .i64 k, .int .i64 i, .int .i64 j, .int .u32 (uz cut)]] w (MakePost S T n keep ⟨k, i, j, cut⟩ g w) := by
  have a1 : (0 : Int) ≤ i := by omega
  have a2 : (i : Int) < 7 := by omega
  have a3 : (0 : Int) ≤ j := by omega
  have a4 : (j : Int) < 7 := by omega
  go_enter Try.func92, Try.ntmps92
  have hg := Row.lt h
  go_upto_region 1 with fail
  have hb0 := below_alloc w (.cells #[.int .i64 k, .int .i64 i, .int .i64 j, .int .u32 (uz cut)] 66)
  have hR0 : Row (w.alloc (.cells #[.int .i64 k, .int .i64 i, .int .i64 j, .int .u32 (uz cut)] 66)) w.heap.size 66 [.int .i64 k, .int .i64 i, .int .i64 j, .int .u32 (uz cut)] := Row.new _ _ _
  have h0 := h.later hb0
  generalize w.alloc _ = W0 at hb0 hR0 h0 ⊢
  have c3 := h0.n_cell
  have z0 : W0.cell? ⟨w.heap.size, 0, none⟩ = some (.int .i64 k) := hR0.cell 0
  have z1 : W0.cell? ⟨w.heap.size, 1, none⟩ = some (.int .i64 i) := hR0.cell 1
  have z2 : W0.cell? ⟨w.heap.size, 2, none⟩ = some (.int .i64 j) := hR0.cell 2
  have z3 : W0.cell? ⟨w.heap.size, 3, none⟩ = some (.int .u32 (uz cut)) := hR0.cell 3
  clear h hR0
  have cT := h0.there_cell (show i < 7 by omega)
  have cS := h0.set_cell (show i < 7 by omega)
  obtain ⟨ti, hti⟩ : ∃ ti, T i = ti := ⟨_, rfl⟩
  rw [hti] at cT
  have HTI := Lib.hid hti
  clear hti
  go_cut [33] (fun b wx => b = .bool (!ti) ∧ ∃ m, wx = W0.drewN m)
  case first =>
    have d1 : decide ((i : Int) < 0) = false := decide_eq_false (by omega)
    have d2 : decide ((j : Int) < 0) = false := decide_eq_false (by omega)
    have d3 : decide (n ≤ i) = false := decide_eq_false (by omega)
    have d4 : decide (n ≤ j) = false := decide_eq_false (by omega)
    clear cS z0 z3
    rcases Int.lt_trichotomy (j : Int) (i : Int) with hc | hc | hc
    · go_quiet (fail)
      go_wp2_with fail
      go_meet
      exact ⟨rfl, _, rfl⟩
    · obtain rfl := ni.1 hc
      clear hc
      go_quiet (fail)
      go_wp2_with fail
      go_meet
      exact ⟨rfl, _, rfl⟩
    · go_quiet (fail)
      go_wp2_with fail
      go_meet
      exact ⟨rfl, _, rfl⟩
  case rest =>
    obtain ⟨rfl, m, rfl⟩ := hcut
    have h1 := h0.drewN m
    have hgr := grown_drewN (grown_below hb0 (some g)) m
    replace c3 : (W0.drewN m).cell? ⟨g, 14, none⟩ = some (.int .i64 n) := c3
    replace z0 : (W0.drewN m).cell? ⟨w.heap.size, 0, none⟩ = some (.int .i64 k) := z0
    replace z1 : (W0.drewN m).cell? ⟨w.heap.size, 1, none⟩ = some (.int .i64 i) := z1
    replace z2 : (W0.drewN m).cell? ⟨w.heap.size, 2, none⟩ = some (.int .i64 j) := z2
    replace z3 : (W0.drewN m).cell? ⟨w.heap.size, 3, none⟩ = some (.int .u32 (uz cut)) := z3
    replace cT : (W0.drewN m).cell? ⟨g, 7 + i, none⟩ = some (.bool ti) := cT
    replace cS : (W0.drewN m).cell? ⟨g, i, none⟩ = some (.int .u32 (uz (S i))) := cS
    have fS := Row.frozen h1 i
    have fT := Row.frozen h1 (7 + i)
    clear h0 hb0
    generalize W0.drewN m = W1 at h1 hgr c3 z0 z1 z2 z3 cT cS fS fT ⊢
    clear W0
    cases ti
    · have hF := Lib.hid (isB_gone (n := n) (keep := keep) (S := S) (T := T) (s := ⟨k, i, j, cut⟩) (i := i) rfl HTI.out)
      go_wp2_with fail
      go_ret
      exact make_no hF.out h1 hgr
    · by_cases hk : k = 1
      · subst hk
        have hF := Lib.hid (isB_trim (n := n) (keep := keep) (S := S) (T := T) (s := ⟨1, i, j, cut⟩) (i := i) rfl hi HTI.out rfl)
        by_cases hc0 : cut = 0#32
        · subst hc0
          have hF2 : Hid (isB S T n keep ⟨1, i, j, 0#32⟩ = false) := Lib.hid (hF.out.trans (by simp))
          clear hF
          go_wp2_with fail
          go_quiet (fail)
          go_wp2_with fail
          go_ret
          exact make_no hF2.out (h1.drewN _) (grown_drewN hgr _)
        · have hcb : (cut == 0#32) = false := by simp [hc0]
          have hL := fun m => lonely_any (W1.drewN m) g n S T keep (h1.drewN m) hn i (by omega)
          generalize loneTo S T keep i n = l at hL hF
          have HL := Lib.hid hL
          clear hL
          by_cases hok : j = 0 ∧ cut = l
          · obtain ⟨rfl, rfl⟩ := hok
            have hF2 : Hid (isB S T n keep ⟨1, i, (0 : Nat), cut⟩ = true) := Lib.hid (hF.out.trans (by simp [hc0]))
            have HM := Lib.hid (make_trim (S := S) (T := T) (n := n) (i := i) (c := cut) (q := (0 : Nat)) HTI.out)
            clear hc0 hF
            go_upto_region 4 with fail
            go_quiet ((go_at_call 115; exact drew_quiet HL.out))
            go_upto_region 6 with fail
            have h2 := h1.drewN nq
            have hgr2 := grown_drewN hgr nq
            replace z1 : (W1.drewN nq).cell? ⟨w.heap.size, 1, none⟩ = some (.int .i64 i) := z1
            replace z3 : (W1.drewN nq).cell? ⟨w.heap.size, 3, none⟩ = some (.int .u32 (uz cut)) := z3
            replace cS : (W1.drewN nq).cell? ⟨g, i, none⟩ = some (.int .u32 (uz (S i))) := cS
            replace fS : (W1.drewN nq).frozen? ⟨g, i, none⟩ = false := fS
            replace cT : (W1.drewN nq).cell? ⟨g, 7 + i, none⟩ = some (.bool true) := cT
            replace fT : (W1.drewN nq).frozen? ⟨g, 7 + i, none⟩ = false := fT
            clear HL h1 hgr c3 z0 z2
            generalize W1.drewN nq = W2 at h2 hgr2 z1 z3 cS cT fS fT ⊢
            generalize hs : S i = si at cS HM
            go_still_tail 13, (by kernel_rfl)
            change wpList _ _ _ _ _ W2.drew
            have h3 : Rem W2.drew g S T n keep := h2
            have hgr3 := grown_drewN hgr2 1
            replace cS : W2.drew.cell? ⟨g, i, none⟩ = some (.int .u32 (uz si)) := cS
            replace fS : W2.drew.frozen? ⟨g, i, none⟩ = false := fS
            replace hgr3 : w.grownBy W2.drew (some g) := hgr3
            clear h2 hgr2 z1 z3 cT fT
            generalize W2.drew = W3 at h3 hgr3 cS fS ⊢
            go_wp2_with fail
            go_ret
            exact ⟨_, T, by rw [hF2.out]; rfl, h3.setS (by omega), grown_set hgr3 _ _, by show _ = _; rw [hF2.out, if_pos rfl]; exact HM.out.symm⟩
          · have hF2 : Hid (isB S T n keep ⟨1, i, j, cut⟩ = false) := Lib.hid (hF.out.trans (by
              rw [Bool.and_eq_false_iff]; right
              rw [decide_eq_false_iff_not]
              intro e
              injection e with _ _ e1 e2
              exact hok ⟨by omega, e2⟩))
            clear hF hc0
            by_cases hj0 : j = 0
            · subst hj0
              have hcl : (cut == l) = false := by simp; exact fun e => hok ⟨rfl, e⟩
              clear hok
              go_upto_region 4 with fail
              go_quiet ((go_at_call 115; exact drew_quiet HL.out))
              go_wp2_with fail
              go_ret
              exact make_no hF2.out (h1.drewN _) (grown_drewN hgr _)
            · have hcl : ((j : Int) == 0) = false := by simp; omega
              clear hok hj0
              go_upto_region 4 with fail
              go_quiet ((go_at_call 115; exact drew_quiet HL.out))
              go_wp2_with fail
              go_ret
              exact make_no hF2.out (h1.drewN _) (grown_drewN hgr _)
      · have hkb : (k == 1) = false := by simp [hk]
        have hF := Lib.hid (isB_other (n := n) (keep := keep) (S := S) (T := T) (s := ⟨k, i, j, cut⟩) (i := i) (j := j) rfl hi hj rfl hk)
        have HM := Lib.hid (make_gone (S := S) (T := T) (n := n) (i := i) (c := cut) (q := (j : Int)) hk)
        have hK := kind_any W1 g n S T keep h1 i j (by omega) (by omega)
        generalize kindZ S T i j = z at hK hF
        clear hk
        by_cases hz : z = 0
        · subst hz
          have hF2 : Hid (isB S T n keep ⟨k, i, j, cut⟩ = false) := Lib.hid (hF.out.trans (by simp))
          clear hF
          go_wp2_with fail
          refine hK.mono ?_
          rintro e w1 ⟨rfl, m1, rfl⟩
          go_wp2_with fail
          go_ret
          exact make_no hF2.out (h1.drewN _) (grown_drewN hgr _)
        · have hzb : (z == 0) = false := by simp [hz]
          by_cases hkz : k = z
          · subst hkz
            by_cases hc0 : cut = 0#32
            · subst hc0
              have hF2 : Hid (isB S T n keep ⟨k, i, j, 0#32⟩ = true) := Lib.hid (hF.out.trans (by simp [hz]))
              clear hF hz
              go_wp2_with fail
              refine hK.mono ?_
              rintro e w1 ⟨rfl, nq, rfl⟩
              go_upto_region 11 with fail
              have h2 := h1.drewN nq
              have hgr2 := grown_drewN hgr nq
              replace z1 : (W1.drewN nq).cell? ⟨w.heap.size, 1, none⟩ = some (.int .i64 i) := z1
              replace cT : (W1.drewN nq).cell? ⟨g, 7 + i, none⟩ = some (.bool true) := cT
              replace fT : (W1.drewN nq).frozen? ⟨g, 7 + i, none⟩ = false := fT
              clear hK h1 hgr c3 z0 z2 z3 cS fS
              generalize W1.drewN nq = W2 at h2 hgr2 z1 cT fT ⊢
              go_still_tail 6, (by kernel_rfl)
              change wpList _ _ _ _ _ W2.drew
              have h3 : Rem W2.drew g S T n keep := h2
              have hgr3 : w.grownBy W2.drew (some g) := grown_drewN hgr2 1
              replace cT : W2.drew.cell? ⟨g, 7 + i, none⟩ = some (.bool true) := cT
              replace fT : W2.drew.frozen? ⟨g, 7 + i, none⟩ = false := fT
              clear h2 hgr2 z1
              generalize W2.drew = W3 at h3 hgr3 cT fT ⊢
              go_wp2_with fail
              go_ret
              exact ⟨S, _, by rw [hF2.out]; rfl, h3.setT (by omega), grown_set hgr3 _ _, by show _ = _; rw [hF2.out, if_pos rfl]; exact HM.out.symm⟩
            · have hF2 : Hid (isB S T n keep ⟨k, i, j, cut⟩ = false) := Lib.hid (hF.out.trans (by simp [hc0]))
              have hcb : (cut == 0#32) = false := by simp [hc0]
              clear hF hz hc0
              go_wp2_with fail
              refine hK.mono ?_
              rintro e w1 ⟨rfl, nq, rfl⟩
              go_wp2_with fail
              go_ret
              exact make_no hF2.out (h1.drewN _) (grown_drewN hgr _)
          · have hF2 : Hid (isB S T n keep ⟨k, i, j, cut⟩ = false) := Lib.hid (hF.out.trans (by simp [hkz]))
            have hcb : (k == z) = false := by simp [hkz]
            clear hF hz hkz
            go_wp2_with fail
            refine hK.mono ?_
            rintro e w1 ⟨rfl, nq, rfl⟩
            go_wp2_with fail
            go_ret
            exact make_no hF2.out (h1.drewN _) (grown_drewN hgr _)
theorem make_any (w : World) (g n : Nat) (S : Nat → BitVec 32) (T : Nat → Bool) (keep : BitVec 32) (h : Rem w g S T n keep) (hn : n ≤ 7) (s : Stp) :
    Calls Try.prog 92 #[.pointer (some ⟨g, 0, none⟩), .agg #[.int .i64 s.kind, .int .i64 s.edge, .int .i64 s.into, .int .u32 (uz s.cut)]] w (MakePost S T n keep s g w) := by
  obtain ⟨k, x, y, cut⟩ := s
  by_cases ho : x < 0 ∨ y < 0 ∨ (n : Int) ≤ x ∨ (n : Int) ≤ y
  · exact make_out w g n S T keep h k x y cut ho
  · obtain ⟨i, rfl⟩ := Int.eq_ofNat_of_zero_le (show 0 ≤ x by omega)
    obtain ⟨j, rfl⟩ := Int.eq_ofNat_of_zero_le (show 0 ≤ y by omega)
    exact make_in w g n S T keep h hn k i j cut (by omega) (by omega)
end Go.Proofs.Ytkenbmelhfhidaa
