/- Several texts in one: JtW9 JtW10 SortA SortB Rest Acyc. -/
import Derived.Test.YtdemmjofggemhaaDoorBC
import Derived.Test.YtdemmjofggemhaaDoorBD
import Derived.StillTailTactics
import Derived.Test.YtdemmjofggemhaaDoorBB
/- The contracts of osierref15.rooted and Joined. -/
namespace Go.Proofs.YtdemmjofggemhaaDoor
open Go.RowKit

attribute [local go_sem ↓] uz_and uz_or uz_andNot uz_and_one uz_shr uz_shl_one uz_shl uz_sub uz_sub_one uz_add uz_beq_zero uz_bne_zero uz_beq uz_bne uz_beq_one

end Go.Proofs.YtdemmjofggemhaaDoor

/- The contracts of osierref15.grow and Exists. -/
namespace Go.Proofs.YtdemmjofggemhaaDoor
open Go.RowKit

attribute [local go_sem ↓] uz_and uz_or uz_andNot uz_and_one uz_shr uz_shl_one uz_shl uz_sub uz_sub_one uz_add uz_beq_zero uz_bne_zero uz_beq uz_bne uz_beq_one

end Go.Proofs.YtdemmjofggemhaaDoor

/- slices.Sort of few words: what it calls. -/
namespace Go.Proofs.YtdemmjofggemhaaDoor
open Go.RowKit

theorem isNaN_any (x : Int) (w : World) : Calls Tryd.prog 99 #[.int .u32 x] w fun e w' => e = .returned (.bool false) ∧ w = w' := by
  go_enter Tryd.func99, Tryd.ntmps99
  go_wp2
  go_ret
  exact ⟨by first | rfl | simp, rfl⟩
theorem less_any (x y : Int) (w : World) : Calls Tryd.prog 88 #[.int .u32 x, .int .u32 y] w fun e w' => e = .returned (.bool (decide (x < y))) ∧ w = w' := by
  obtain ⟨b, hb⟩ : ∃ b, decide (x < y) = b := ⟨_, rfl⟩
  go_enter Tryd.func88, Tryd.ntmps88
  go_wp2_with fail
  refine (isNaN_any x w).mono ?_
  rintro e w1 ⟨rfl, rfl⟩
  go_wp2_with fail
  go_ret
  exact ⟨by first | (rw [hb]; rfl) | rw [hb] | simp [hb], rfl⟩
set_option maxRecDepth 100000 in
theorem len64_few (n : Nat) (h : n ≤ 7) (w : World) : Calls Tryd.prog 92 #[.int .u64 n] w fun e w' => (∃ m, e = .returned (.int .i64 m)) ∧ w = w' := by
  have hc : n = 0 ∨ n = 1 ∨ n = 2 ∨ n = 3 ∨ n = 4 ∨ n = 5 ∨ n = 6 ∨ n = 7 := by omega
  rcases hc with rfl | rfl | rfl | rfl | rfl | rfl | rfl | rfl
  all_goals
    go_enter Tryd.func92, Tryd.ntmps92
    go_wp2
    go_ret
    exact ⟨⟨_, rfl⟩, rfl⟩
theorem len_few (n : Nat) (h : n ≤ 7) (w : World) : Calls Tryd.prog 77 #[.int .u64 n] w fun e w' => (∃ m, e = .returned (.int .i64 m)) ∧ w = w' := by
  go_enter Tryd.func77, Tryd.ntmps77
  go_wp2_with fail
  refine (len64_few n h w).mono ?_
  rintro e w' ⟨⟨m, rfl⟩, rfl⟩
  go_wp2
  go_ret
  exact ⟨⟨_, rfl⟩, rfl⟩

/-! ### A row whose first n words a function tells, the rest unknown -/
def srow (n : Nat) (f : Nat → BitVec 32) (R : List Value) : List Value := us (wrow n f) ++ R
theorem srow_at {n k : Nat} {f : Nat → BitVec 32} {R : List Value} (h : k < n) : (srow n f R)[k]? = some (.int .u32 (uz (f k))) := by
  unfold srow
  rw [List.getElem?_append_left (by simpa using h)]
  unfold us wrow; simp [h]
theorem srow_set {n k : Nat} {f : Nat → BitVec 32} {R : List Value} {x : BitVec 32} (h : k < n) : (srow n f R).set k (.int .u32 (uz x)) = srow n (updS f k x) R := by
  unfold srow
  rw [List.set_append_left _ _ (by simpa using h), wrow_set]

/-! ### Insertion -/
def Srtd (f : Nat → BitVec 32) (i : Nat) : Prop := ∀ a b, a < b → b < i → (f a).toNat ≤ (f b).toNat
def Insd (f : Nat → BitVec 32) (i j : Nat) : Prop := (∀ a b, a < b → b ≤ i → a ≠ j → b ≠ j → (f a).toNat ≤ (f b).toNat) ∧ ∀ b, j < b → b ≤ i → (f j).toNat ≤ (f b).toNat
def swp (f : Nat → BitVec 32) (j : Nat) : Nat → BitVec 32 := fun k => if k = j then f (j - 1) else if k = j - 1 then f j else f k
theorem Srtd.start {f : Nat → BitVec 32} {i : Nat} (h : Srtd f i) : Insd f i i := ⟨fun a b h1 h2 _ h4 => h a b h1 (by omega), fun b h1 h2 => by omega⟩
theorem Insd.step {f : Nat → BitVec 32} {i j : Nat} (h : Insd f i j) (h0 : 0 < j) (hj : j ≤ i) (hlt : (f j).toNat < (f (j - 1)).toNat) : Insd (swp f j) i (j - 1) := by
  refine ⟨fun a b h1 h2 h3 h4 => ?_, fun b h1 h2 => ?_⟩
  · unfold swp
    by_cases ha : a = j
    · subst ha
      rw [if_pos rfl, if_neg (by omega), if_neg h4]
      exact h.1 _ _ (by omega) h2 (by omega) (by omega)
    · rw [if_neg ha, if_neg h3]
      by_cases hb : b = j
      · subst hb
        rw [if_pos rfl]
        exact h.1 _ _ (by omega) (by omega) ha (by omega)
      · rw [if_neg hb, if_neg h4]
        exact h.1 _ _ h1 h2 ha hb
  · unfold swp
    rw [if_neg (by omega), if_pos rfl]
    by_cases hb : b = j
    · subst hb; rw [if_pos rfl]; omega
    · rw [if_neg hb, if_neg (by omega)]
      exact h.2 b (by omega) h2
theorem Insd.stop {f : Nat → BitVec 32} {i j : Nat} (h : Insd f i j) (hj : j ≤ i) (he : j = 0 ∨ ¬ (f j).toNat < (f (j - 1)).toNat) : Srtd f (i + 1) := by
  intro a b h1 h2
  by_cases ha : a = j
  · subst ha; exact h.2 b h1 (by omega)
  · by_cases hb : b = j
    · subst hb
      have h5 : (f (b - 1)).toNat ≤ (f b).toNat := by
        rcases he with he | he
        · omega
        · omega
      by_cases hc : a = b - 1
      · subst hc; exact h5
      · exact Nat.le_trans (h.1 a (b - 1) (by omega) (by omega) ha (by omega)) h5
    · exact h.1 a b h1 (by omega) ha hb
theorem swp_upd (f : Nat → BitVec 32) {j : Nat} (h : 0 < j) : updS (updS f j (f (j - 1))) (j - 1) (f j) = swp f j := by
  funext k
  unfold updS swp
  by_cases h1 : k = j - 1
  · simp [h1]
    omega
  · simp [h1]
theorem swp_perm {f : Nat → BitVec 32} {n j : Nat} (h : 0 < j) (hj : j < n) : (wrow n (swp f j)).Perm (wrow n f) := by
  obtain ⟨i, rfl⟩ : ∃ i, j = i + 1 := ⟨j - 1, by omega⟩
  obtain ⟨d, rfl⟩ : ∃ d, n = i + 2 + d := ⟨n - (i + 2), by omega⟩
  have e : ∀ g : Nat → BitVec 32, wrow (i + 2 + d) g = wrow i g ++ (g i :: g (i + 1) :: (List.range d).map fun k => g (i + 2 + k)) := by
    intro g
    unfold wrow
    rw [show i + 2 + d = i + (2 + d) by omega, List.range_add, List.map_append]
    congr 1
    rw [show 2 + d = d + 1 + 1 by omega, List.range_succ_eq_map, List.range_succ_eq_map]
    simp only [List.map_cons, List.map_map, Function.comp_def, Nat.add_zero]
    rw [show i + Nat.succ 0 = i + 1 by omega]
    simp only [List.cons.injEq, true_and]
    apply List.map_congr_left
    intro k _
    congr 1
    omega
  rw [e (swp f (i + 1)), e f]
  have h1 : wrow i (swp f (i + 1)) = wrow i f := by
    unfold wrow
    apply List.map_congr_left
    intro k hk
    have := List.mem_range.1 hk
    unfold swp
    rw [if_neg (by omega), if_neg (by omega)]
  have h2 : ((List.range d).map fun k => swp f (i + 1) (i + 2 + k)) = (List.range d).map fun k => f (i + 2 + k) := by
    apply List.map_congr_left
    intro k hk
    unfold swp
    rw [if_neg (by omega), if_neg (by omega)]
  rw [h1, h2]
  have h3 : swp f (i + 1) i = f (i + 1) := by unfold swp; rw [if_neg (by omega), if_pos (by omega)]
  have h4 : swp f (i + 1) (i + 1) = f i := by unfold swp; rw [if_pos rfl]; rfl
  rw [h3, h4]
  exact List.Perm.append_left _ (List.Perm.swap _ _ _)
end Go.Proofs.YtdemmjofggemhaaDoor

/- The contract of slices.Sort, for few words. -/
namespace Go.Proofs.YtdemmjofggemhaaDoor
open Go.RowKit

theorem lt_uz (x y : BitVec 32) : (uz x < uz y) ↔ x.toNat < y.toNat := by unfold uz; omega

def SortPost (n g : Nat) (f : Nat → BitVec 32) (R : List Value) (w w' : World) : Prop :=
  ∃ f', Row w' g 62 (srow n f' R) ∧ Hid (Srtd f' n) ∧ Hid ((wrow n f').Perm (wrow n f)) ∧ w.grownBy w' (some g)

set_option maxHeartbeats 4000000 in
set_option maxRecDepth 100000 in
theorem insertion_any (n cap g : Nat) (f : Nat → BitVec 32) (R : List Value) (w : World) (h7 : n ≤ 7) (hR : Row w g 62 (srow n f R)) :
    Calls Tryd.prog 82 #[.slice (some ⟨g, 0, none⟩) n cap, .int .i64 0, .int .i64 n] w fun e w' => e = .returned (.tuple #[]) ∧ SortPost n g f R w w' := by
  go_enter Tryd.func82, Tryd.ntmps82
  go_wp2_with fail
  go_loopw [6, 7] (fun x _ wr => ∃ (i : Nat) (f' : Nat → BitVec 32), 1 ≤ i ∧ i ≤ 8 ∧ x = .int .i64 i ∧ Row wr g 62 (srow n f' R) ∧ Hid (Srtd f' i) ∧ Hid ((wrow n f').Perm (wrow n f)) ∧ w.grownBy wr (some g)) (fun x _ _ => 8 - (intOf x).toNat)
  case atStart => exact ⟨1, f, Nat.le_refl _, by omega, rfl, hR, Lib.hid (fun a b h1 h2 => by omega), Lib.hid (List.Perm.refl _), World.grownBy.refl _ _⟩
  case round =>
    obtain ⟨i, f', hi1, hi8, rfl, hRi, HS, HP, hgi⟩ := hrel
    by_cases hlt : i < n
    · have HI := Lib.hid HS.out.start
      go_wp2_with fail
      go_loopw [7] (fun x wr => ∃ (j : Nat) (f' : Nat → BitVec 32), j ≤ i ∧ x = .int .i64 j ∧ Row wr g 62 (srow n f' R) ∧ Hid (Insd f' i j) ∧ Hid ((wrow n f').Perm (wrow n f)) ∧ w.grownBy wr (some g)) (fun x _ => (intOf x).toNat)
      case atStart => exact ⟨i, f', Nat.le_refl _, rfl, hRi, HI, HP, hgi⟩
      case round =>
        obtain ⟨j, f', hj, rfl, hRj, HJ, HP, hgj⟩ := hrel
        have HSTOP := Lib.hid (fun h => HJ.out.stop hj h)
        rcases Nat.eq_zero_or_pos j with h0 | h0
        · subst h0
          have HS2 := Lib.hid (HSTOP.out (.inl rfl))
          go_wp2_with fail
          go_quiet (fail)
          go_wp2_with fail
          go_roundw
          case rel => exact ⟨i + 1, f', by omega, by omega, by go_num, hRj.drewN _, HS2, HP, grown_drewN hgj _⟩
          case measure => simp [intOf]; omega
        · obtain ⟨d, rfl⟩ : ∃ d, j = d + 1 := ⟨j - 1, by omega⟩
          have c1 : World.cell? wr ⟨g, d + 1, none⟩ = some (.int .u32 (uz (f' (d + 1)))) := (hRj.cell _).trans (srow_at (by omega))
          have c2 : World.cell? wr ⟨g, d, none⟩ = some (.int .u32 (uz (f' d))) := (hRj.cell _).trans (srow_at (by omega))
          have z1 := hRj.frozen (d + 1)
          have z2 := hRj.frozen d
          have b1 : (0 : Int) < (d : Int) + 1 := by omega
          have b2 : (d : Int) + 1 < n := by omega
          have b3 : (0 : Int) ≤ d := by omega
          have b4 : (d : Int) < n := by omega
          by_cases hlt2 : (f' (d + 1)).toNat < (f' d).toNat
          · have HL : Hid (∀ w, Calls Tryd.prog 88 #[.int .u32 (uz (f' (d + 1))), .int .u32 (uz (f' d))] w fun e w' => e = .returned (.bool true) ∧ w = w') := Lib.hid (fun w => by
              have := less_any (uz (f' (d + 1))) (uz (f' d)) w
              rw [decide_eq_true ((lt_uz _ _).2 hlt2)] at this; exact this)
            go_wp2_with fail
            go_quiet ((go_at_call 88; exact pure_quiet HL.out))
            go_wp2_with fail
            have HJ2 := Lib.hid (HJ.out.step h0 hj hlt2)
            have HP2 : Hid ((wrow n (swp f' (d + 1))).Perm (wrow n f)) := Lib.hid ((swp_perm h0 (by omega)).trans HP.out)
            have hRq := hRj.drewN nq
            have hgq := grown_drewN hgj nq
            replace c1 : (wr.drewN nq).cell? ⟨g, d + 1, none⟩ = some (.int .u32 (uz (f' (d + 1)))) := c1
            replace c2 : (wr.drewN nq).cell? ⟨g, d, none⟩ = some (.int .u32 (uz (f' d))) := c2
            replace z1 : (wr.drewN nq).frozen? ⟨g, d + 1, none⟩ = false := z1
            replace z2 : (wr.drewN nq).frozen? ⟨g, d, none⟩ = false := z2
            have hg1 : g < (wr.drewN nq).heap.size := hRq.lt
            clear hRj hgj HL HSTOP hlt2
            generalize wr.drewN nq = W2 at hRq hgq c1 c2 z1 z2 hg1 ⊢
            have hw : IntKind.i64.wrap (d : Int) = d := IntWalk.i64_in _ (by omega)
            have b5 : (0 : Int) ≤ (d : Int) + 1 := by omega
            have hR3 := hRq.set_ (d + 1) (.int .u32 (uz (f' d)))
            rw [srow_set (by omega)] at hR3
            have c3 : (W2.setCell ⟨g, d + 1, none⟩ (.int .u32 (uz (f' d)))).cell? ⟨g, d, none⟩ = some (.int .u32 (uz (updS f' (d + 1) (f' d) d))) := (hR3.cell _).trans (srow_at (by omega))
            have z3 := hR3.frozen d
            have hg3 := hR3.lt
            have hR4 := hR3.set_ d (.int .u32 (uz (f' (d + 1))))
            rw [srow_set (by omega)] at hR4
            have HQ : Hid (updS (updS f' (d + 1) (f' d)) d (f' (d + 1)) = swp f' (d + 1)) := Lib.hid (swp_upd f' h0)
            clear hRq hR3
            go_region_law (fail)
            all_goals
              go_wp2_with fail
              go_roundw
              case rel => exact ⟨d, swp f' (d + 1), by omega, by go_num, by rw [← HQ.out]; exact hR4, HJ2, HP2, by first | exact grown_drewN (grown_set (grown_set hgq _ _) _ _) 1 | exact grown_set (grown_set hgq _ _) _ _⟩
              case measure => first | (simp [intOf]; done) | (simp [intOf]; omega)
          · have HL : Hid (∀ w, Calls Tryd.prog 88 #[.int .u32 (uz (f' (d + 1))), .int .u32 (uz (f' d))] w fun e w' => e = .returned (.bool false) ∧ w = w') := Lib.hid (fun w => by
              have := less_any (uz (f' (d + 1))) (uz (f' d)) w
              rw [decide_eq_false (fun h => hlt2 ((lt_uz _ _).1 h))] at this; exact this)
            have HS2 := Lib.hid (HSTOP.out (.inr hlt2))
            clear hlt2
            go_wp2_with fail
            go_quiet ((go_at_call 88; exact pure_quiet HL.out))
            go_wp2_with fail
            go_roundw
            case rel => exact ⟨i + 1, f', by omega, by omega, by go_num, hRj.drewN _, HS2, HP, grown_drewN hgj _⟩
            case measure => simp [intOf]; omega
    · have HS2 : Hid (Srtd f' n) := Lib.hid (fun a b h1 h2 => HS.out a b h1 (by omega))
      go_wp2_with fail
      go_end0
      exact ⟨rfl, f', hRi, HS2, HP, hgi⟩

set_option maxHeartbeats 4000000 in
set_option maxRecDepth 100000 in
theorem pdq_any (n cap g : Nat) (m : Int) (f : Nat → BitVec 32) (R : List Value) (w : World) (h7 : n ≤ 7) (hR : Row w g 62 (srow n f R)) :
    Calls Tryd.prog 76 #[.slice (some ⟨g, 0, none⟩) n cap, .int .i64 0, .int .i64 n, .int .i64 m] w fun e w' => e = .returned (.tuple #[]) ∧ SortPost n g f R w w' := by
  have hc := Lib.hid (insertion_any n cap g f R w h7 hR)
  go_enter Tryd.func76, Tryd.ntmps76
  go_wp2_with fail
  go_loopg [1, 2, 3, 8, 9] 1 (fun k s1 s2 s3 s8 s9 wr => k = 1 ∧ s1 = .int .i64 0 ∧ s2 = .int .i64 n ∧ wr = w)
  case atStart => exact ⟨rfl, rfl, rfl, rfl⟩
  case round =>
    obtain ⟨rfl, rfl, rfl, rfl⟩ := hrel
    have hle : (n : Int) ≤ 12 := by omega
    have hw : IntKind.i64.wrap (n : Int) = n := IntWalk.i64_in _ (by omega)
    go_wp2_with fail
    refine hc.out.mono ?_
    rintro e w1 ⟨rfl, hp⟩
    go_wp2_with fail
    (try simp only [Exit.inBlock, Exit.then]); refine bodyPost_ret (results_none rfl _ _ _) rfl ?_
    exact ⟨rfl, hp⟩

set_option maxHeartbeats 4000000 in
set_option maxRecDepth 100000 in
theorem sort_any (n cap g : Nat) (f : Nat → BitVec 32) (R : List Value) (w : World) (h7 : n ≤ 7) (hR : Row w g 62 (srow n f R)) :
    Calls Tryd.prog 60 #[.slice (some ⟨g, 0, none⟩) n cap] w fun e w' => e = .returned (.tuple #[]) ∧ SortPost n g f R w w' := by
  have hn : (0 : Int) ≤ n := by omega
  go_enter Tryd.func60, Tryd.ntmps60
  go_wp2_with fail
  refine (len_few n h7 w).mono ?_
  rintro e w1 ⟨⟨m, rfl⟩, rfl⟩
  have hc := Lib.hid (pdq_any n cap g m f R w h7 hR)
  go_wp2_with fail
  refine hc.out.mono ?_
  rintro e w1 ⟨rfl, hp⟩
  go_wp2_with fail
  go_end0
  exact ⟨rfl, hp⟩
end Go.Proofs.YtdemmjofggemhaaDoor

/- The contracts of ears.Rest and ears.Acyclic. -/
namespace Go.Proofs.YtdemmjofggemhaaDoor
open Go.RowKit

attribute [local go_sem ↓] uz_and uz_or uz_andNot uz_and_one uz_shr uz_shl_one uz_shl uz_sub uz_sub_one uz_add uz_beq_zero uz_bne_zero uz_beq uz_bne uz_beq_one

/-! ### Nothing to sort -/
set_option maxRecDepth 100000 in
theorem insertion_none (w : World) : Calls Tryd.prog 82 #[.slice none 0 0, .int .i64 0, .int .i64 0] w fun e w' => e = .returned (.tuple #[]) ∧ w' = w := by
  go_enter Tryd.func82, Tryd.ntmps82
  go_wp2_with fail
  go_loopw [6, 7] (fun x _ wr => x = .int .i64 1 ∧ wr = w) (fun _ _ _ => 0)
  case atStart => exact ⟨rfl, rfl⟩
  case round =>
    obtain ⟨rfl, rfl⟩ := hrel
    go_wp2_with fail
    go_end0
    exact ⟨rfl, rfl⟩
set_option maxRecDepth 100000 in
theorem pdq_none (m : Int) (w : World) : Calls Tryd.prog 76 #[.slice none 0 0, .int .i64 0, .int .i64 0, .int .i64 m] w fun e w' => e = .returned (.tuple #[]) ∧ w' = w := by
  have hc := Lib.hid (insertion_none w)
  go_enter Tryd.func76, Tryd.ntmps76
  go_wp2_with fail
  go_loopg [1, 2, 3, 8, 9] 1 (fun k s1 s2 s3 s8 s9 wr => k = 1 ∧ s1 = .int .i64 0 ∧ s2 = .int .i64 0 ∧ wr = w)
  case atStart => exact ⟨rfl, rfl, rfl, rfl⟩
  case round =>
    obtain ⟨rfl, rfl, rfl, rfl⟩ := hrel
    go_wp2_with fail
    refine hc.out.mono ?_
    rintro e w1 ⟨rfl, rfl⟩
    go_wp2_with fail
    (try simp only [Exit.inBlock, Exit.then]); refine bodyPost_ret (results_none rfl _ _ _) rfl ?_
    exact ⟨rfl, rfl⟩
theorem sort_none (w : World) : Calls Tryd.prog 60 #[.slice none 0 0] w fun e w' => e = .returned (.tuple #[]) ∧ w' = w := by
  go_enter Tryd.func60, Tryd.ntmps60
  go_wp2_with fail
  refine (len_few 0 (by omega) w).mono ?_
  rintro e w1 ⟨⟨m, rfl⟩, rfl⟩
  have hc := Lib.hid (pdq_none m w)
  go_wp2_with fail
  refine hc.out.mono ?_
  rintro e w1 ⟨rfl, rfl⟩
  go_wp2_with fail
  go_end0
  exact ⟨rfl, rfl⟩

/-- The list is sorted. -/
def risesB (Z : List (BitVec 32)) : Prop := Z.Pairwise fun a b => a.toNat ≤ b.toNat
theorem rises_wrow {n : Nat} {f : Nat → BitVec 32} (h : Srtd f n) : risesB (wrow n f) := by
  unfold risesB wrow
  rw [List.pairwise_iff_getElem]
  intro i j hi hj hij
  simp only [List.length_map, List.length_range] at hi hj
  simp only [List.getElem_map, List.getElem_range]
  exact h i j hij hj
/-- A list in a row of its own, sorted in place. -/
theorem sort_own {w : World} {base : Nat} {v : Value} {L : List (BitVec 32)} (h7 : L.length ≤ 7) (hown : w.ownsRow base 62 1 v L.length (us L)) (hbase : base ≤ w.heap.size) :
    Calls Tryd.prog 60 #[v] w fun e w' => e = .returned (.tuple #[]) ∧ ∃ Z, Hid (risesB Z) ∧ Hid (Z.Perm L) ∧ w'.ownsRow base 62 1 v Z.length (us Z) ∧ Below base w w' := by
  rcases hown.2 with ⟨rfl, h0⟩ | ⟨g, cap, cur, rfl, hb, hh, hn, hl, hsz, htk⟩
  · have hL : L = [] := List.eq_nil_of_length_eq_zero h0
    subst hL
    exact (sort_none w).mono fun e w' ⟨he, hw⟩ => ⟨he, [], Lib.hid List.Pairwise.nil, Lib.hid (List.Perm.refl _), by subst hw; exact hown, by subst hw; exact Below.refl _ _⟩
  · have hf : wrow L.length (fun i => L.getD i 0#32) = L := by
      unfold wrow
      apply List.ext_getElem?
      intro i
      by_cases h : i < L.length
      · simp [h]
      · simp [h]
    have hcur : cur = (srow L.length (fun i => L.getD i 0#32) (cur.toList.drop L.length)).toArray := by
      unfold srow
      rw [hf, ← htk, Nat.mul_one, List.take_append_drop]
    have hR : Row w g 62 (srow L.length (fun i => L.getD i 0#32) (cur.toList.drop L.length)) := by
      rw [hcur] at hh; exact hh
    refine (sort_any L.length cap g _ _ w h7 hR).mono ?_
    rintro e w' ⟨rfl, f', hR', hS, hP, hgr⟩
    refine ⟨rfl, wrow L.length f', Lib.hid (rises_wrow hS.out), Lib.hid (by have := hP.out; rw [hf] at this; exact this), ?_, grown_to_below hgr hb hbase⟩
    refine ⟨by simp, .inr ⟨g, cap, (srow L.length f' (cur.toList.drop L.length)).toArray, by simp, hb, hR', by simpa using hn, hl, ?_, ?_⟩⟩
    · have : (srow L.length f' (cur.toList.drop L.length)).length = cur.size := by
        unfold srow; simp; omega
      simp only [List.size_toArray, this, hsz]
    · simp [srow, List.take_left']

/-- The sets that are left, in the list's order, without the empty ones. -/
def setsOf (L : Lt) : List (BitVec 32) := (L.map (·.2)).filter (· != 0#32)
theorem setsOf_snoc (L : Lt) (x : Nat × BitVec 32) : setsOf (L ++ [x]) = setsOf L ++ if x.2 != 0#32 then [x.2] else [] := by
  unfold setsOf
  rw [List.map_append, List.filter_append]
  congr 1
  cases h : (x.2 != 0#32) <;> simp [h]
theorem setsOf_len (L : Lt) : (setsOf L).length ≤ L.length := by
  unfold setsOf
  exact Nat.le_trans (List.length_filter_le _ _) (by simp)
def RestIs (V : Int) (E : List (BitVec 32)) (keep : BitVec 32) (Z : List (BitVec 32)) (code : Int) : Prop :=
  (validB V E = false ∧ Z = [] ∧ code = 140) ∨ (validB V E = true ∧ code = 0 ∧ risesB Z ∧ Z.Perm (setsOf (runE E keep).2))
theorem runIs_len {V : Int} {E : List (BitVec 32)} {keep : BitVec 32} {ss : List Stp} {L : Lt} {code : Int} (h : RunIs V E keep ss L code) : L.length ≤ 7 := by
  rcases h with ⟨_, _, hL, _⟩ | ⟨hv, _, hL, _⟩
  · rw [hL]; exact Nat.zero_le _
  · rw [hL]
    have h1 := (runE_rch E keep).len
    rw [begin_len] at h1
    exact Nat.le_trans h1 (validB_of hv).2.2.1
theorem restIs_of {V : Int} {E : List (BitVec 32)} {keep : BitVec 32} {ss : List Stp} {L : Lt} {code : Int} {Z : List (BitVec 32)} (h : RunIs V E keep ss L code) (hz : risesB Z) (hp : Z.Perm (setsOf L)) : RestIs V E keep Z code := by
  rcases h with ⟨a, _, hL, hc⟩ | ⟨a, _, hL, hc⟩
  · rw [hL] at hp
    exact .inl ⟨a, List.perm_nil.1 hp, hc⟩
  · rw [hL] at hp
    exact .inr ⟨a, hc, hz, hp⟩

set_option maxHeartbeats 4000000 in
set_option maxRecDepth 100000 in
theorem rest_any (V : Int) (A : Option Addr) (E : List (BitVec 32)) (c : Nat) (keep : BitVec 32) (w : World) (hl : E.length ≤ 35184372087808) (hE : Rd w w.heap.size A (us E)) :
    Calls Tryd.prog 40 #[.agg #[.int .i64 V, .slice A E.length c], .int .u32 (uz keep)] w fun e w' => ∃ v Z code, e = .returned (.tuple #[v, .int .i64 code]) ∧ w'.ownsRow w.heap.size 62 1 v Z.length (us Z) ∧ Hid (RestIs V E keep Z code) ∧ Below w.heap.size w w' := by
  go_enter Tryd.func40, Tryd.ntmps40
  go_wp2_with fail
  have hb0 := below_alloc w (.cells #[.int .i64 V, .slice A E.length c] 61)
  generalize w.alloc _ = W0 at hb0 ⊢
  refine (run_any V A E c keep W0 hl (hE.later hb0)).mono ?_
  rintro e w1 ⟨v1, v2, ss, L, code, rfl, hown1, hown2, hRI, hb1⟩
  have hB1 := bthen hb0 hb1
  have h7 := runIs_len hRI.out
  obtain ⟨A1, c1, rfl, _, _, _, _⟩ := Rd.of_ownS hown1
  obtain ⟨A2, c2, rfl, _, _, hS, _⟩ := Rd.of_ownS hown2
  clear hown1 hown2 hb0 hb1 hE
  go_wp2_with fail
  go_loopw [9, 11, 21] (fun v _ i wr => ∃ k : Nat, k ≤ L.length ∧ i = .int .i64 k ∧ wr.ownsRow w1.heap.size 62 1 v (setsOf (L.take k)).length (us (setsOf (L.take k))) ∧ Below w1.heap.size w1 wr) (fun _ _ i _ => L.length - (intOf i).toNat)
  case atStart => exact ⟨0, Nat.zero_le _, rfl, ⟨rfl, .inl ⟨rfl, rfl⟩⟩, Below.refl _ _⟩
  case round =>
    obtain ⟨k, hk, rfl, hown, hb⟩ := hrel
    by_cases hlt : k < L.length
    · obtain ⟨ad, hA, hbl, q0, q1⟩ := (hS.later hb).lf_cells hlt
      have HS := Lib.hid (take_snoc L k hlt)
      rw [lft_eq L k hlt] at HS
      have HN := Lib.hid (setsOf_snoc (L.take k) (lft L k))
      rw [← HS.out] at HN
      have hsl : (setsOf (L.take k)).length ≤ 7 := Nat.le_trans (setsOf_len _) (by rw [List.length_take]; omega)
      subst hA
      generalize lft L k = s at q0 q1 HN
      obtain ⟨i, x⟩ := s
      simp only at q0 q1 HN
      have a1 : (0 : Int) ≤ k := by omega
      have a2 : (k : Int) < L.length := by omega
      generalize setsOf (L.take k) = M at hown HN hsl
      by_cases hx : x = 0#32
      · have hxb : (x == 0#32) = true := by simp [hx]
        have hxn : (x != 0#32) = false := by simp [hx]
        have HN2 : Hid (setsOf (L.take (k + 1)) = M) := Lib.hid (by rw [HN.out, hxn]; simp)
        clear hx
        go_wp2_with fail
        go_roundw
        case rel => exact ⟨k + 1, by omega, by go_num, by rw [HN2.out]; exact hown.alloc _, hb.alloc hb.size _⟩
        case measure => simp [intOf]; omega
      · have hxb : (x == 0#32) = false := by simp [hx]
        have hxn : (x != 0#32) = true := by simp [hx]
        have HN2 : Hid (setsOf (L.take (k + 1)) = M ++ [x]) := Lib.hid (by rw [HN.out, hxn]; simp)
        clear hx
        go_wp2_with ((with_reducible show wpList _ _ _ _ _ _); refine app_u32 rfl (.tmp 28) (.tmp 31) rfl w1.heap.size _ _ M x rfl (by go_simp) (hown.alloc _) (by omega) (by have := hb.size; simp; omega) ?_)
        intro v' w' hown' hb'
        go_wp2_with fail
        go_roundw
        case rel => exact ⟨k + 1, by omega, by go_num, by rw [HN2.out, List.length_append]; exact hown', (hb.alloc hb.size _).trans hb'⟩
        case measure => simp [intOf]; omega
    · obtain rfl : k = L.length := by omega
      rw [List.take_length] at hown
      have hsl : (setsOf L).length ≤ 7 := Nat.le_trans (setsOf_len _) h7
      have hbs := hb.size
      have HC := Lib.hid (sort_own hsl hown hbs)
      clear hown
      go_wp2_with fail
      refine HC.out.mono ?_
      rintro e w2 ⟨rfl, Z, hz, hp, hown2, hb2⟩
      have HR := Lib.hid (restIs_of hRI.out hz.out hp.out)
      go_wp2_with fail
      go_ret2
      exact ⟨_, Z, code, rfl, own_less hown2 hB1.size, HR, hB1.trans ((hb.trans hb2).mono hB1.size)⟩
end Go.Proofs.YtdemmjofggemhaaDoor

/- The contracts of ears.Acyclic and osierlaw15.awake; what Acyclic answers. -/
namespace Go.Proofs.YtdemmjofggemhaaDoor
open Go.RowKit

attribute [local go_sem ↓] uz_and uz_or uz_andNot uz_and_one uz_shr uz_shl_one uz_shl uz_sub uz_sub_one uz_add uz_beq_zero uz_bne_zero uz_beq uz_bne uz_beq_one

/-- Is it a valid graph without a knot? -/
def acyB (V : Int) (E : List (BitVec 32)) : Bool := validB V E && (setsOf (runE E 0#32).2).isEmpty
def codeB (V : Int) (E : List (BitVec 32)) : Int := if validB V E then 0 else 140
theorem rest_acy {V : Int} {E Z : List (BitVec 32)} {code : Int} (h : RestIs V E 0#32 Z code) : code = codeB V E ∧ ((code == 0) && ((Z.length : Int) == 0)) = acyB V E := by
  rcases h with ⟨a, b, c⟩ | ⟨a, b, _, c⟩
  · refine ⟨by simp [codeB, a, c], ?_⟩
    unfold acyB; rw [a, c, Bool.false_and, show ((140 : Int) == 0) = false from rfl, Bool.false_and]
  · refine ⟨by simp [codeB, a, b], ?_⟩
    unfold acyB
    have hl := c.length_eq
    rw [a, b, hl, Bool.true_and, show ((0 : Int) == 0) = true from rfl, Bool.true_and, Bool.eq_iff_iff, beq_iff_eq, List.isEmpty_iff, ← List.length_eq_zero_iff]
    omega

set_option maxHeartbeats 2000000 in
set_option maxRecDepth 100000 in
theorem acyclic_any (V : Int) (A : Option Addr) (E : List (BitVec 32)) (c : Nat) (w : World) (hl : E.length ≤ 35184372087808) (hE : Rd w w.heap.size A (us E)) :
    Calls Tryd.prog 18 #[.agg #[.int .i64 V, .slice A E.length c]] w fun e w' => e = .returned (.tuple #[.bool (acyB V E), .int .i64 (codeB V E)]) ∧ Below w.heap.size w w' := by
  go_enter Tryd.func18, Tryd.ntmps18
  go_wp2_with fail
  have hb0 := below_alloc w (.cells #[.int .i64 V, .slice A E.length c] 61)
  generalize w.alloc _ = W0 at hb0 ⊢
  have hrest := rest_any V A E c 0#32 W0 hl (hE.later hb0)
  rw [show uz 0#32 = 0 from rfl] at hrest
  refine hrest.mono ?_
  rintro e w1 ⟨v, Z, code, rfl, hown, hR, hb1⟩
  obtain ⟨h1, h2⟩ := rest_acy hR.out
  obtain ⟨A', c', rfl, _, _, _, _⟩ := Rd.of_own hown
  have hB1 := bthen hb0 hb1
  have H1 := Lib.hid h1
  have H2 := Lib.hid h2
  clear hrest h1 h2 hR hown hE
  cases hc : (code == 0)
  · rw [hc] at H2
    go_wp2_with fail
    go_ret2
    exact ⟨by rw [← H1.out, ← H2.out]; rfl, hB1⟩
  · rw [hc] at H2
    cases hz : ((Z.length : Int) == 0)
    · rw [hz] at H2
      go_wp2_with fail
      go_ret2
      exact ⟨by rw [← H1.out, ← H2.out]; rfl, hB1⟩
    · rw [hz] at H2
      go_wp2_with fail
      go_ret2
      exact ⟨by rw [← H1.out, ← H2.out]; rfl, hB1⟩

end Go.Proofs.YtdemmjofggemhaaDoor
