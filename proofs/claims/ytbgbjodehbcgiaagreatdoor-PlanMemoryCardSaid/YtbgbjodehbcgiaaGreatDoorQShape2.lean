/- The contracts of query.doubled, unsafeVar, Shape. -/
import Derived.Test.YtbgbjodehbcgiaaGreatDoorQShape
namespace Go.Proofs.YtbgbjodehbcgiaaGreatDoor
open Go.RowKit

theorem any_anyTo {α : Type} (l : List α) (q : α → Bool) (f : Nat → α) (hf : ∀ k (h : k < l.length), l[k] = f k) : l.any q = anyTo (fun k => q (f k)) l.length := by
  rw [Bool.eq_iff_iff, List.any_eq_true, anyTo_iff]
  constructor
  · rintro ⟨x, hx, h⟩
    obtain ⟨k, hk, rfl⟩ := List.getElem_of_mem hx
    exact ⟨k, hk, by rw [← hf k hk]; exact h⟩
  · rintro ⟨k, hk, h⟩
    exact ⟨l[k], List.getElem_mem hk, by rw [hf k hk]; exact h⟩

set_option maxHeartbeats 4000000 in
set_option maxRecDepth 100000 in
theorem doubled_any (A : Option Addr) (L : List ByteArray) (c : Nat) (w : World) (hl : L.length ≤ 8796093022208) (hcap : L.length ≤ c) (hL : Rd w w.heap.size A (ss L)) :
    Calls Tryz.prog 107 #[.slice A L.length c] w fun e w' => ∃ r : Int, e = .returned (.int .i64 r) ∧ Hid (decide (0 ≤ r) = dupB L) ∧ w = w' := by
  have HH := Lib.hid has_any9
  have HDB : Hid (dupB L = anyTo (dupAt L) L.length) := Lib.hid rfl
  go_enter Tryz.func107, Tryz.ntmps107
  go_wp2_with fail
  go_loop [7] (fun i => ∃ k : Nat, k ≤ L.length ∧ i = .int .i64 k ∧ Hid (∀ j, j < k → dupAt L j = false)) (fun i => L.length - (intOf i).toNat)
  case atStart => exact ⟨0, Nat.zero_le _, rfl, Lib.hid fun j hj => absurd hj (Nat.not_lt_zero _)⟩
  case round =>
    obtain ⟨k, hk, rfl, hno⟩ := hrel
    by_cases hlt : k < L.length
    · obtain ⟨ad, hA, _, hc⟩ := hL.s_at hlt
      subst hA
      have b1 : (0 : Int) ≤ k := by omega
      have b2 : (k : Int) < L.length := by omega
      have b3 : (k : Int) ≤ c := by omega
      have b4 : k ≤ c := by omega
      have HC : Hid (Calls Tryz.prog 83 #[.slice (some ad) k c, .string (nm L k)] w fun e w' => e = .returned (.bool (dupAt L k)) ∧ w = w') := Lib.hid (by
        have := HH.out (some ad) (L.take k) c (nm L k) w (by rw [List.length_take]; omega) (by rw [← ss_take]; exact hL.take k)
        rwa [List.length_take, Nat.min_eq_left (by omega)] at this)
      have HN : Hid (dupAt L k = false → ∀ j, j < k + 1 → dupAt L j = false) := Lib.hid fun h j hj => by
        rcases Nat.lt_or_ge j k with d | d
        · exact hno.out j d
        · obtain rfl : j = k := by omega
          exact h
      have HT : Hid (dupAt L k = true → decide (0 ≤ (k : Int)) = dupB L) := Lib.hid fun h => by
        rw [HDB.out, (anyTo_iff (p := dupAt L) (n := L.length)).2 ⟨k, hlt, h⟩]; simp
      clear hno
      cases hd : dupAt L k
      · have HX := Lib.hid (HN.out hd)
        rw [hd] at HC
        clear HN HT hd
        generalize nm L k = y at hc HC
        go_wp2_with fail
        refine HC.out.mono ?_
        rintro e w' ⟨rfl, rfl⟩
        go_wp2_with fail
        go_round
        case rel => exact ⟨k + 1, by omega, by go_num, HX⟩
        case measure => simp [intOf]; omega
      · have HX := Lib.hid (HT.out hd)
        rw [hd] at HC
        clear HN HT hd
        generalize nm L k = y at hc HC
        go_wp2_with fail
        refine HC.out.mono ?_
        rintro e w' ⟨rfl, rfl⟩
        go_wp2_with fail
        go_ret
        exact ⟨_, rfl, HX, by first | rfl | trivial⟩
    · have HX : Hid (decide (0 ≤ (-1 : Int)) = dupB L) := Lib.hid (by
        rw [HDB.out]
        cases h : anyTo (dupAt L) L.length
        · rfl
        · obtain ⟨j, hj, h2⟩ := anyTo_iff.1 h
          rw [hno.out j (by omega)] at h2; cases h2)
      go_wp2_with fail
      go_ret
      exact ⟨_, rfl, HX, by first | rfl | trivial⟩

/-! ### unsafeVar -/
theorem stray_any (A : Option Addr) (L : List ByteArray) (c b : Nat) (x : ByteArray) (w : World) (hl : L.length ≤ 35184372087808) (hc : w.cell? ⟨b, 0, none⟩ = some (.slice A L.length c)) (hL : Rd w w.heap.size A (ss L)) :
    Calls Tryz.prog 128 #[.string x, .pointer (some ⟨b, 0, none⟩)] w fun e w' => e = .returned (.bool (strayB L x)) ∧ w = w' := by
  have HC := Lib.hid (has_any9 A L c x w hl hL)
  go_enter Tryz.func128, Tryz.ntmps128
  go_wp2_with fail
  refine HC.out.mono ?_
  rintro e w1 ⟨rfl, rfl⟩
  go_wp2_with fail
  go_ret
  exact ⟨rfl, rfl⟩
theorem enter_stray (args : Array Value) (w : World) : (callFunc 128 args).run Tryz.prog w = .ok (.enter 128 args) w := by
  go_simp
set_option maxHeartbeats 4000000 in
set_option maxRecDepth 100000 in
theorem unsafeVar_any (q : Qy) (AH : Option Addr) (cH : Nat) (AA : Option Addr) (cA : Nat) (w : World) (hq : SzQ q) (h6 : q.atoms.length ≤ 6) (h5 : ∀ a ∈ q.atoms, a.terms.length ≤ 5) (hH : Rd w w.heap.size AH (ss q.head)) (hA : Ats w w.heap.size AA q.atoms) :
    Calls Tryz.prog 108 #[.agg #[.string q.name, .slice AH q.head.length cH, .slice AA q.atoms.length cA]] w fun e w' => ∃ r : Int, e = .returned (.int .i64 r) ∧ Hid (decide (0 ≤ r) = q.head.any (strayB (qvars q.atoms))) ∧ Below w.heap.size w w' := by
  obtain ⟨name, head, xs⟩ := q
  have hfh := hq.few
  clear hq
  simp only at hfh hH hA h6 h5 ⊢
  obtain ⟨vars, hvars⟩ : ∃ vars, qvars xs = vars := ⟨_, rfl⟩
  rw [hvars]
  have HVA := Lib.hid hvars
  clear hvars
  go_enter Tryz.func108, Tryz.ntmps108
  go_wp2_with fail
  have hb0 := below_alloc w (.cells #[.string name, .slice AH head.length cH, .slice AA xs.length cA] 25)
  have hQ0 : Row (w.alloc (.cells #[.string name, .slice AH head.length cH, .slice AA xs.length cA] 25)) w.heap.size 25 [.string name, .slice AH head.length cH, .slice AA xs.length cA] := Row.new _ _ _
  generalize w.alloc _ = w0 at hb0 hQ0 ⊢
  refine (qvars_any name AH head.length cH AA xs cA w0 h6 h5 (hA.later hb0)).mono ?_
  rintro e w1 ⟨v, rfl, hown, hb1⟩
  obtain ⟨AV, cV, rfl, _, _, hV1, _⟩ := Rd.of_own hown
  have hvl := qvars_length h5 h6
  have hB1 := bthen hb0 hb1
  have hQ1 := hQ0.later hb1
  clear hown hb0 hb1 hQ0
  rw [HVA.out] at hV1 hvl ⊢
  go_upto_region 2 with fail
  have hb2 := below_alloc w1 (.cells #[.slice AV vars.length cV] 22)
  have hW2 : Row (w1.alloc (.cells #[.slice AV vars.length cV] 22)) w1.heap.size 22 [.slice AV vars.length cV] := Row.new _ _ _
  have hB2 := bthen hB1 hb2
  have hQ2 := hQ1.later hb2
  have hV2 := hV1.later hb2
  generalize w1.heap.size = g at hW2 ⊢
  generalize w1.alloc _ = w2 at hW2 hB2 hQ2 hV2 ⊢
  have q1 : w2.cell? ⟨w.heap.size, 1, none⟩ = some (.slice AH head.length cH) := hQ2.cell 1
  have HC : Hid (Calls Tryz.prog 127 #[.slice AH head.length cH, .func (.func 128) #[] #[.pointer (some ⟨g, 0, none⟩)]] w2 fun e w' => ∃ r : Int, e = .returned (.int .i64 r) ∧ Hid (IdxAt (fun k => strayB vars (nm head k)) head.length r) ∧ Below w2.heap.size w2 w') := Lib.hid (by
    refine indexFn_str 128 #[.pointer (some ⟨g, 0, none⟩)] (fun k => strayB vars (nm head k)) AH head cH w2 (by omega) (hH.later hB2) enter_stray (fun k hk wr hb => ?_)
    refine (stray_any AV vars cV g (nm head k) wr (by omega) ((hW2.later hb).cell 0) (hV2.later hb)).mono ?_
    rintro e w' ⟨he, rfl⟩
    exact ⟨he, Below.refl _ _⟩)
  have HA : Hid (head.any (strayB vars) = anyTo (fun k => strayB vars (nm head k)) head.length) := Lib.hid (any_anyTo head (strayB vars) (nm head) fun k h => nm_eq _ k h)
  clear hb2 hB1 hQ1 hV1 hV2 hW2 hQ2 hH hA
  go_wp2_with fail
  refine HC.out.mono ?_
  rintro e w3 ⟨r, rfl, hr, hb3⟩
  have HR : Hid (decide (0 ≤ r) = head.any (strayB vars)) := Lib.hid (by rw [HA.out]; exact anyTo_of hr.out)
  go_wp2_with fail
  go_ret
  exact ⟨_, rfl, HR, bthen hB2 hb3⟩
end Go.Proofs.YtbgbjodehbcgiaaGreatDoor
