/- The contract of slices.Sort, for few words. -/
import Derived.Test.YtkenbmelhfhidaaSortA
import Derived.Test.YtkenbmelhfhidaaEars6
import Derived.Test.YtkenbmelhfhidaaJtW10
namespace Go.Proofs.Ytkenbmelhfhidaa
open Go.RowKit

theorem lt_uz (x y : BitVec 32) : (uz x < uz y) ↔ x.toNat < y.toNat := by unfold uz; omega

def SortPost (n g : Nat) (f : Nat → BitVec 32) (R : List Value) (w w' : World) : Prop :=
  ∃ f', Row w' g 39 (srow n f' R) ∧ Hid (Srtd f' n) ∧ Hid ((wrow n f').Perm (wrow n f)) ∧ w.grownBy w' (some g)

set_option maxHeartbeats 4000000 in
set_option maxRecDepth 100000 in
theorem insertion_any (n cap g : Nat) (f : Nat → BitVec 32) (R : List Value) (w : World) (h7 : n ≤ 7) (hR : Row w g 39 (srow n f R)) :
    Calls Try.prog 123 #[.slice (some ⟨g, 0, none⟩) n cap, .int .i64 0, .int .i64 n] w fun e w' => e = .returned (.tuple #[]) ∧ SortPost n g f R w w' := by
  go_enter Try.func123, Try.ntmps123
  go_wp2_with fail
  go_loopw [6, 7] (fun x _ wr => ∃ (i : Nat) (f' : Nat → BitVec 32), 1 ≤ i ∧ i ≤ 8 ∧ x = .int .i64 i ∧ Row wr g 39 (srow n f' R) ∧ Hid (Srtd f' i) ∧ Hid ((wrow n f').Perm (wrow n f)) ∧ w.grownBy wr (some g)) (fun x _ _ => 8 - (intOf x).toNat)
  case atStart => exact ⟨1, f, Nat.le_refl _, by omega, rfl, hR, Lib.hid (fun a b h1 h2 => by omega), Lib.hid (List.Perm.refl _), World.grownBy.refl _ _⟩
  case round =>
    obtain ⟨i, f', hi1, hi8, rfl, hRi, HS, HP, hgi⟩ := hrel
    by_cases hlt : i < n
    · have HI := Lib.hid HS.out.start
      go_wp2_with fail
      go_loopw [7] (fun x wr => ∃ (j : Nat) (f' : Nat → BitVec 32), j ≤ i ∧ x = .int .i64 j ∧ Row wr g 39 (srow n f' R) ∧ Hid (Insd f' i j) ∧ Hid ((wrow n f').Perm (wrow n f)) ∧ w.grownBy wr (some g)) (fun x _ => (intOf x).toNat)
      case atStart => exact ⟨i, f', Nat.le_refl _, rfl, hRi, HI, HP, hgi⟩
      case round =>
        obtain ⟨j, f', hj, rfl, hRj, HJ, HP, hgj⟩ := hrel
        have HSTOP := Lib.hid (fun h => HJ.out.stop hj h)
        rcases Nat.eq_zero_or_pos j with h0 | h0
        · subst h0
          have HS2 := Lib.hid (HSTOP.out (.inl rfl))
          go_wp2_with fail
          go_quiet (fail)
          go_wp2_with fail
          go_roundw
          case rel => exact ⟨i + 1, f', by omega, by omega, by go_num, hRj.drewN _, HS2, HP, grown_drewN hgj _⟩
          case measure => simp [intOf]; omega
        · obtain ⟨d, rfl⟩ : ∃ d, j = d + 1 := ⟨j - 1, by omega⟩
          have c1 : World.cell? wr ⟨g, d + 1, none⟩ = some (.int .u32 (uz (f' (d + 1)))) := (hRj.cell _).trans (srow_at (by omega))
          have c2 : World.cell? wr ⟨g, d, none⟩ = some (.int .u32 (uz (f' d))) := (hRj.cell _).trans (srow_at (by omega))
          have z1 := hRj.frozen (d + 1)
          have z2 := hRj.frozen d
          have b1 : (0 : Int) < (d : Int) + 1 := by omega
          have b2 : (d : Int) + 1 < n := by omega
          have b3 : (0 : Int) ≤ d := by omega
          have b4 : (d : Int) < n := by omega
          by_cases hlt2 : (f' (d + 1)).toNat < (f' d).toNat
          · have HL : Hid (∀ w, Calls Try.prog 129 #[.int .u32 (uz (f' (d + 1))), .int .u32 (uz (f' d))] w fun e w' => e = .returned (.bool true) ∧ w = w') := Lib.hid (fun w => by
              have := less_any (uz (f' (d + 1))) (uz (f' d)) w
              rw [decide_eq_true ((lt_uz _ _).2 hlt2)] at this; exact this)
            go_wp2_with fail
            go_quiet ((go_at_call 129; exact pure_quiet HL.out))
            go_wp2_with fail
            have HJ2 := Lib.hid (HJ.out.step h0 hj hlt2)
            have HP2 : Hid ((wrow n (swp f' (d + 1))).Perm (wrow n f)) := Lib.hid ((swp_perm h0 (by omega)).trans HP.out)
            have hRq := hRj.drewN nq
            have hgq := grown_drewN hgj nq
            replace c1 : (wr.drewN nq).cell? ⟨g, d + 1, none⟩ = some (.int .u32 (uz (f' (d + 1)))) := c1
            replace c2 : (wr.drewN nq).cell? ⟨g, d, none⟩ = some (.int .u32 (uz (f' d))) := c2
            replace z1 : (wr.drewN nq).frozen? ⟨g, d + 1, none⟩ = false := z1
            replace z2 : (wr.drewN nq).frozen? ⟨g, d, none⟩ = false := z2
            have hg1 : g < (wr.drewN nq).heap.size := hRq.lt
            clear hRj hgj HL HSTOP hlt2
            generalize wr.drewN nq = W2 at hRq hgq c1 c2 z1 z2 hg1 ⊢
            have hw : IntKind.i64.wrap (d : Int) = d := IntWalk.i64_in _ (by omega)
            have b5 : (0 : Int) ≤ (d : Int) + 1 := by omega
            have hR3 := hRq.set_ (d + 1) (.int .u32 (uz (f' d)))
            rw [srow_set (by omega)] at hR3
            have c3 : (W2.setCell ⟨g, d + 1, none⟩ (.int .u32 (uz (f' d)))).cell? ⟨g, d, none⟩ = some (.int .u32 (uz (updS f' (d + 1) (f' d) d))) := (hR3.cell _).trans (srow_at (by omega))
            have z3 := hR3.frozen d
            have hg3 := hR3.lt
            have hR4 := hR3.set_ d (.int .u32 (uz (f' (d + 1))))
            rw [srow_set (by omega)] at hR4
            have HQ : Hid (updS (updS f' (d + 1) (f' d)) d (f' (d + 1)) = swp f' (d + 1)) := Lib.hid (swp_upd f' h0)
            clear hRq hR3
            go_region_law (fail)
            all_goals
              go_wp2_with fail
              go_roundw
              case rel => exact ⟨d, swp f' (d + 1), by omega, by go_num, by rw [← HQ.out]; exact hR4, HJ2, HP2, by first | exact grown_drewN (grown_set (grown_set hgq _ _) _ _) 1 | exact grown_set (grown_set hgq _ _) _ _⟩
              case measure => first | (simp [intOf]; done) | (simp [intOf]; omega)
          · have HL : Hid (∀ w, Calls Try.prog 129 #[.int .u32 (uz (f' (d + 1))), .int .u32 (uz (f' d))] w fun e w' => e = .returned (.bool false) ∧ w = w') := Lib.hid (fun w => by
              have := less_any (uz (f' (d + 1))) (uz (f' d)) w
              rw [decide_eq_false (fun h => hlt2 ((lt_uz _ _).1 h))] at this; exact this)
            have HS2 := Lib.hid (HSTOP.out (.inr hlt2))
            clear hlt2
            go_wp2_with fail
            go_quiet ((go_at_call 129; exact pure_quiet HL.out))
            go_wp2_with fail
            go_roundw
            case rel => exact ⟨i + 1, f', by omega, by omega, by go_num, hRj.drewN _, HS2, HP, grown_drewN hgj _⟩
            case measure => simp [intOf]; omega
    · have HS2 : Hid (Srtd f' n) := Lib.hid (fun a b h1 h2 => HS.out a b h1 (by omega))
      go_wp2_with fail
      go_end0
      exact ⟨rfl, f', hRi, HS2, HP, hgi⟩

set_option maxHeartbeats 4000000 in
set_option maxRecDepth 100000 in
theorem pdq_any (n cap g : Nat) (m : Int) (f : Nat → BitVec 32) (R : List Value) (w : World) (h7 : n ≤ 7) (hR : Row w g 39 (srow n f R)) :
    Calls Try.prog 117 #[.slice (some ⟨g, 0, none⟩) n cap, .int .i64 0, .int .i64 n, .int .i64 m] w fun e w' => e = .returned (.tuple #[]) ∧ SortPost n g f R w w' := by
  have hc := Lib.hid (insertion_any n cap g f R w h7 hR)
  go_enter Try.func117, Try.ntmps117
  go_wp2_with fail
  go_loopg [1, 2, 3, 8, 9] 1 (fun k s1 s2 s3 s8 s9 wr => k = 1 ∧ s1 = .int .i64 0 ∧ s2 = .int .i64 n ∧ wr = w)
  case atStart => exact ⟨rfl, rfl, rfl, rfl⟩
  case round =>
    obtain ⟨rfl, rfl, rfl, rfl⟩ := hrel
    have hle : (n : Int) ≤ 12 := by omega
    have hw : IntKind.i64.wrap (n : Int) = n := IntWalk.i64_in _ (by omega)
    go_wp2_with fail
    refine hc.out.mono ?_
    rintro e w1 ⟨rfl, hp⟩
    go_wp2_with fail
    (try simp only [Exit.inBlock, Exit.then]); refine bodyPost_ret (results_none rfl _ _ _) rfl ?_
    exact ⟨rfl, hp⟩

set_option maxHeartbeats 4000000 in
set_option maxRecDepth 100000 in
theorem sort_any (n cap g : Nat) (f : Nat → BitVec 32) (R : List Value) (w : World) (h7 : n ≤ 7) (hR : Row w g 39 (srow n f R)) :
    Calls Try.prog 94 #[.slice (some ⟨g, 0, none⟩) n cap] w fun e w' => e = .returned (.tuple #[]) ∧ SortPost n g f R w w' := by
  have hn : (0 : Int) ≤ n := by omega
  go_enter Try.func94, Try.ntmps94
  go_wp2_with fail
  refine (len_few n h7 w).mono ?_
  rintro e w1 ⟨⟨m, rfl⟩, rfl⟩
  have hc := Lib.hid (pdq_any n cap g m f R w h7 hR)
  go_wp2_with fail
  refine hc.out.mono ?_
  rintro e w1 ⟨rfl, hp⟩
  go_wp2_with fail
  go_end0
  exact ⟨rfl, hp⟩
end Go.Proofs.Ytkenbmelhfhidaa
