/- The contracts of ears.Rest and ears.Acyclic. -/
import Derived.Test.YtkenbmelhfhidaaSortB
import Derived.Test.YtkenbmelhfhidaaStMem2
import Derived.Test.YtkenbmelhfhidaaEarLaw2
namespace Go.Proofs.Ytkenbmelhfhidaa
open Go.RowKit

attribute [local go_sem ↓] uz_and uz_or uz_andNot uz_and_one uz_shr uz_shl_one uz_shl uz_sub uz_sub_one uz_add uz_beq_zero uz_bne_zero uz_beq uz_bne uz_beq_one

/-! ### Nothing to sort -/
set_option maxRecDepth 100000 in
theorem insertion_none (w : World) : Calls Try.prog 123 #[.slice none 0 0, .int .i64 0, .int .i64 0] w fun e w' => e = .returned (.tuple #[]) ∧ w' = w := by
  go_enter Try.func123, Try.ntmps123
  go_wp2_with fail
  go_loopw [6, 7] (fun x _ wr => x = .int .i64 1 ∧ wr = w) (fun _ _ _ => 0)
  case atStart => exact ⟨rfl, rfl⟩
  case round =>
    obtain ⟨rfl, rfl⟩ := hrel
    go_wp2_with fail
    go_end0
    exact ⟨rfl, rfl⟩
set_option maxRecDepth 100000 in
theorem pdq_none (m : Int) (w : World) : Calls Try.prog 117 #[.slice none 0 0, .int .i64 0, .int .i64 0, .int .i64 m] w fun e w' => e = .returned (.tuple #[]) ∧ w' = w := by
  have hc := Lib.hid (insertion_none w)
  go_enter Try.func117, Try.ntmps117
  go_wp2_with fail
  go_loopg [1, 2, 3, 8, 9] 1 (fun k s1 s2 s3 s8 s9 wr => k = 1 ∧ s1 = .int .i64 0 ∧ s2 = .int .i64 0 ∧ wr = w)
  case atStart => exact ⟨rfl, rfl, rfl, rfl⟩
  case round =>
    obtain ⟨rfl, rfl, rfl, rfl⟩ := hrel
    go_wp2_with fail
    refine hc.out.mono ?_
    rintro e w1 ⟨rfl, rfl⟩
    go_wp2_with fail
    (try simp only [Exit.inBlock, Exit.then]); refine bodyPost_ret (results_none rfl _ _ _) rfl ?_
    exact ⟨rfl, rfl⟩
theorem sort_none (w : World) : Calls Try.prog 94 #[.slice none 0 0] w fun e w' => e = .returned (.tuple #[]) ∧ w' = w := by
  go_enter Try.func94, Try.ntmps94
  go_wp2_with fail
  refine (len_few 0 (by omega) w).mono ?_
  rintro e w1 ⟨⟨m, rfl⟩, rfl⟩
  have hc := Lib.hid (pdq_none m w)
  go_wp2_with fail
  refine hc.out.mono ?_
  rintro e w1 ⟨rfl, rfl⟩
  go_wp2_with fail
  go_end0
  exact ⟨rfl, rfl⟩

/-- The list is sorted. -/
def risesB (Z : List (BitVec 32)) : Prop := Z.Pairwise fun a b => a.toNat ≤ b.toNat
theorem rises_wrow {n : Nat} {f : Nat → BitVec 32} (h : Srtd f n) : risesB (wrow n f) := by
  unfold risesB wrow
  rw [List.pairwise_iff_getElem]
  intro i j hi hj hij
  simp only [List.length_map, List.length_range] at hi hj
  simp only [List.getElem_map, List.getElem_range]
  exact h i j hij hj
/-- A list in a row of its own, sorted in place. -/
theorem sort_own {w : World} {base : Nat} {v : Value} {L : List (BitVec 32)} (h7 : L.length ≤ 7) (hown : w.ownsRow base 39 1 v L.length (us L)) (hbase : base ≤ w.heap.size) :
    Calls Try.prog 94 #[v] w fun e w' => e = .returned (.tuple #[]) ∧ ∃ Z, Hid (risesB Z) ∧ Hid (Z.Perm L) ∧ w'.ownsRow base 39 1 v Z.length (us Z) ∧ Below base w w' := by
  rcases hown.2 with ⟨rfl, h0⟩ | ⟨g, cap, cur, rfl, hb, hh, hn, hl, hsz, htk⟩
  · have hL : L = [] := List.eq_nil_of_length_eq_zero h0
    subst hL
    exact (sort_none w).mono fun e w' ⟨he, hw⟩ => ⟨he, [], Lib.hid List.Pairwise.nil, Lib.hid (List.Perm.refl _), by subst hw; exact hown, by subst hw; exact Below.refl _ _⟩
  · have hf : wrow L.length (fun i => L.getD i 0#32) = L := by
      unfold wrow
      apply List.ext_getElem?
      intro i
      by_cases h : i < L.length
      · simp [h]
      · simp [h]
    have hcur : cur = (srow L.length (fun i => L.getD i 0#32) (cur.toList.drop L.length)).toArray := by
      unfold srow
      rw [hf, ← htk, Nat.mul_one, List.take_append_drop]
    have hR : Row w g 39 (srow L.length (fun i => L.getD i 0#32) (cur.toList.drop L.length)) := by
      rw [hcur] at hh; exact hh
    refine (sort_any L.length cap g _ _ w h7 hR).mono ?_
    rintro e w' ⟨rfl, f', hR', hS, hP, hgr⟩
    refine ⟨rfl, wrow L.length f', Lib.hid (rises_wrow hS.out), Lib.hid (by have := hP.out; rw [hf] at this; exact this), ?_, grown_to_below hgr hb hbase⟩
    refine ⟨by simp, .inr ⟨g, cap, (srow L.length f' (cur.toList.drop L.length)).toArray, by simp, hb, hR', by simpa using hn, hl, ?_, ?_⟩⟩
    · have : (srow L.length f' (cur.toList.drop L.length)).length = cur.size := by
        unfold srow; simp; omega
      simp only [List.size_toArray, this, hsz]
    · simp [srow, List.take_left']

/-- The sets that are left, in the list's order, without the empty ones. -/
def setsOf (L : Lt) : List (BitVec 32) := (L.map (·.2)).filter (· != 0#32)
theorem setsOf_snoc (L : Lt) (x : Nat × BitVec 32) : setsOf (L ++ [x]) = setsOf L ++ if x.2 != 0#32 then [x.2] else [] := by
  unfold setsOf
  rw [List.map_append, List.filter_append]
  congr 1
  cases h : (x.2 != 0#32) <;> simp [h]
theorem setsOf_len (L : Lt) : (setsOf L).length ≤ L.length := by
  unfold setsOf
  exact Nat.le_trans (List.length_filter_le _ _) (by simp)
def RestIs (V : Int) (E : List (BitVec 32)) (keep : BitVec 32) (Z : List (BitVec 32)) (code : Int) : Prop :=
  (validB V E = false ∧ Z = [] ∧ code = 140) ∨ (validB V E = true ∧ code = 0 ∧ risesB Z ∧ Z.Perm (setsOf (runE E keep).2))
theorem runIs_len {V : Int} {E : List (BitVec 32)} {keep : BitVec 32} {ss : List Stp} {L : Lt} {code : Int} (h : RunIs V E keep ss L code) : L.length ≤ 7 := by
  rcases h with ⟨_, _, hL, _⟩ | ⟨hv, _, hL, _⟩
  · rw [hL]; exact Nat.zero_le _
  · rw [hL]
    have h1 := (runE_rch E keep).len
    rw [begin_len] at h1
    exact Nat.le_trans h1 (validB_of hv).2.2.1
theorem restIs_of {V : Int} {E : List (BitVec 32)} {keep : BitVec 32} {ss : List Stp} {L : Lt} {code : Int} {Z : List (BitVec 32)} (h : RunIs V E keep ss L code) (hz : risesB Z) (hp : Z.Perm (setsOf L)) : RestIs V E keep Z code := by
  rcases h with ⟨a, _, hL, hc⟩ | ⟨a, _, hL, hc⟩
  · rw [hL] at hp
    exact .inl ⟨a, List.perm_nil.1 hp, hc⟩
  · rw [hL] at hp
    exact .inr ⟨a, hc, hz, hp⟩

set_option maxHeartbeats 4000000 in
set_option maxRecDepth 100000 in
theorem rest_any (V : Int) (A : Option Addr) (E : List (BitVec 32)) (c : Nat) (keep : BitVec 32) (w : World) (hl : E.length ≤ 35184372087808) (hE : Rd w w.heap.size A (us E)) :
    Calls Try.prog 54 #[.agg #[.int .i64 V, .slice A E.length c], .int .u32 (uz keep)] w fun e w' => ∃ v Z code, e = .returned (.tuple #[v, .int .i64 code]) ∧ w'.ownsRow w.heap.size 39 1 v Z.length (us Z) ∧ Hid (RestIs V E keep Z code) ∧ Below w.heap.size w w' := by
  go_enter Try.func54, Try.ntmps54
  go_wp2_with fail
  have hb0 := below_alloc w (.cells #[.int .i64 V, .slice A E.length c] 24)
  generalize w.alloc _ = W0 at hb0 ⊢
  refine (run_any V A E c keep W0 hl (hE.later hb0)).mono ?_
  rintro e w1 ⟨v1, v2, ss, L, code, rfl, hown1, hown2, hRI, hb1⟩
  have hB1 := bthen hb0 hb1
  have h7 := runIs_len hRI.out
  obtain ⟨A1, c1, rfl, _, _, _, _⟩ := Rd.of_ownS hown1
  obtain ⟨A2, c2, rfl, _, _, hS, _⟩ := Rd.of_ownS hown2
  clear hown1 hown2 hb0 hb1 hE
  go_wp2_with fail
  go_loopw [9, 11, 21] (fun v _ i wr => ∃ k : Nat, k ≤ L.length ∧ i = .int .i64 k ∧ wr.ownsRow w1.heap.size 39 1 v (setsOf (L.take k)).length (us (setsOf (L.take k))) ∧ Below w1.heap.size w1 wr) (fun _ _ i _ => L.length - (intOf i).toNat)
  case atStart => exact ⟨0, Nat.zero_le _, rfl, ⟨rfl, .inl ⟨rfl, rfl⟩⟩, Below.refl _ _⟩
  case round =>
    obtain ⟨k, hk, rfl, hown, hb⟩ := hrel
    by_cases hlt : k < L.length
    · obtain ⟨ad, hA, hbl, q0, q1⟩ := (hS.later hb).lf_cells hlt
      have HS := Lib.hid (take_snoc L k hlt)
      rw [lft_eq L k hlt] at HS
      have HN := Lib.hid (setsOf_snoc (L.take k) (lft L k))
      rw [← HS.out] at HN
      have hsl : (setsOf (L.take k)).length ≤ 7 := Nat.le_trans (setsOf_len _) (by rw [List.length_take]; omega)
      subst hA
      generalize lft L k = s at q0 q1 HN
      obtain ⟨i, x⟩ := s
      simp only at q0 q1 HN
      have a1 : (0 : Int) ≤ k := by omega
      have a2 : (k : Int) < L.length := by omega
      generalize setsOf (L.take k) = M at hown HN hsl
      by_cases hx : x = 0#32
      · have hxb : (x == 0#32) = true := by simp [hx]
        have hxn : (x != 0#32) = false := by simp [hx]
        have HN2 : Hid (setsOf (L.take (k + 1)) = M) := Lib.hid (by rw [HN.out, hxn]; simp)
        clear hx
        go_wp2_with fail
        go_roundw
        case rel => exact ⟨k + 1, by omega, by go_num, by rw [HN2.out]; exact hown.alloc _, hb.alloc hb.size _⟩
        case measure => simp [intOf]; omega
      · have hxb : (x == 0#32) = false := by simp [hx]
        have hxn : (x != 0#32) = true := by simp [hx]
        have HN2 : Hid (setsOf (L.take (k + 1)) = M ++ [x]) := Lib.hid (by rw [HN.out, hxn]; simp)
        clear hx
        go_wp2_with ((with_reducible show wpList _ _ _ _ _ _); refine app_u32 rfl (.tmp 28) (.tmp 31) rfl w1.heap.size _ _ M x rfl (by go_simp) (hown.alloc _) (by omega) (by have := hb.size; simp; omega) ?_)
        intro v' w' hown' hb'
        go_wp2_with fail
        go_roundw
        case rel => exact ⟨k + 1, by omega, by go_num, by rw [HN2.out, List.length_append]; exact hown', (hb.alloc hb.size _).trans hb'⟩
        case measure => simp [intOf]; omega
    · obtain rfl : k = L.length := by omega
      rw [List.take_length] at hown
      have hsl : (setsOf L).length ≤ 7 := Nat.le_trans (setsOf_len _) h7
      have hbs := hb.size
      have HC := Lib.hid (sort_own hsl hown hbs)
      clear hown
      go_wp2_with fail
      refine HC.out.mono ?_
      rintro e w2 ⟨rfl, Z, hz, hp, hown2, hb2⟩
      have HR := Lib.hid (restIs_of hRI.out hz.out hp.out)
      go_wp2_with fail
      go_ret2
      exact ⟨_, Z, code, rfl, own_less hown2 hB1.size, HR, hB1.trans ((hb.trans hb2).mono hB1.size)⟩
end Go.Proofs.Ytkenbmelhfhidaa
