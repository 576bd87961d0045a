/- The contracts of slices.IndexFunc, slices.ContainsFunc over texts, atoms, terms. -/
import Derived.Test.YtdemmjofggemhaaDoorBQ
namespace Go.Proofs.YtdemmjofggemhaaDoor
open Go.RowKit

def anyTo (p : Nat → Bool) (n : Nat) : Bool := (List.range n).any p
def IdxAt (p : Nat → Bool) (n : Nat) (r : Int) : Prop := (r = -1 ∧ ∀ j, j < n → p j = false) ∨ ∃ k : Nat, r = k ∧ k < n ∧ p k = true
theorem anyTo_of {p : Nat → Bool} {n : Nat} {r : Int} (h : IdxAt p n r) : decide (0 ≤ r) = anyTo p n := by
  rcases h with ⟨rfl, h⟩ | ⟨k, rfl, hk, h⟩
  · have : anyTo p n = false := by
      unfold anyTo; rw [List.any_eq_false]
      intro x hx; rw [h x (List.mem_range.1 hx)]; simp
    rw [this]; rfl
  · have : anyTo p n = true := by
      unfold anyTo; rw [List.any_eq_true]
      exact ⟨k, List.mem_range.2 hk, h⟩
    rw [this]; simp
theorem anyTo_iff {p : Nat → Bool} {n : Nat} : anyTo p n = true ↔ ∃ k, k < n ∧ p k = true := by
  unfold anyTo; rw [List.any_eq_true]
  exact ⟨fun ⟨k, hk, h⟩ => ⟨k, List.mem_range.1 hk, h⟩, fun ⟨k, hk, h⟩ => ⟨k, List.mem_range.2 hk, h⟩⟩

theorem indexFn_str (F : FuncId) (caps : Array Value) (p : Nat → Bool) (A : Option Addr) (L : List ByteArray) (c : Nat) (w : World) (hl : L.length ≤ 35184372087808) (hL : Rd w w.heap.size A (ss L))
    (hF : ∀ args w, (callFunc F args).run Tryd.prog w = .ok (.enter F args) w)
    (hcall : ∀ k, k < L.length → ∀ (wr : World), Below w.heap.size w wr → Calls Tryd.prog F (#[.string (nm L k)] ++ caps) wr fun e w' => e = .returned (.bool (p k)) ∧ Below wr.heap.size wr w') :
    Calls Tryd.prog 74 #[.slice A L.length c, .func (.func F) #[] caps] w fun e w' => ∃ r : Int, e = .returned (.int .i64 r) ∧ Hid (IdxAt p L.length r) ∧ Below w.heap.size w w' := by
  go_enter Tryd.func74, Tryd.ntmps74
  go_wp2_with fail
  go_loopw [5, 8] (fun _ i wr => ∃ k : Nat, k ≤ L.length ∧ i = .int .i64 k ∧ Hid (∀ j, j < k → p j = false) ∧ Below w.heap.size w wr) (fun _ i _ => L.length - (intOf i).toNat)
  case atStart => exact ⟨0, Nat.zero_le _, rfl, Lib.hid fun j hj => absurd hj (Nat.not_lt_zero _), Below.refl _ _⟩
  case round =>
    obtain ⟨k, hk, rfl, hno, hb⟩ := hrel
    by_cases hlt : k < L.length
    · obtain ⟨ad, hA, _, hc⟩ := (hL.later hb).s_at hlt
      subst hA
      have b1 : (0 : Int) ≤ k := by omega
      have b2 : (k : Int) < L.length := by omega
      have HC := Lib.hid (hcall k hlt wr hb)
      have HN : Hid (p k = false → ∀ j, j < k + 1 → p j = false) := Lib.hid fun h j hj => by
        rcases Nat.lt_or_ge j k with d | d
        · exact hno.out j d
        · obtain rfl : j = k := by omega
          exact h
      have HH : Hid (p k = true → IdxAt p L.length k) := Lib.hid fun h => .inr ⟨k, rfl, hlt, h⟩
      clear hno hcall
      generalize nm L k = y at hc HC
      cases hp : p k
      · have HT := Lib.hid (HN.out hp)
        rw [hp] at HC
        clear HN HH hp
        go_wp2_with fail
        refine HC.out.mono ?_
        rintro e w1 ⟨rfl, hb1⟩
        go_wp2_with fail
        go_roundw
        case rel => exact ⟨k + 1, by omega, by go_num, HT, bthen hb hb1⟩
        case measure => simp [intOf]; omega
      · have HT := Lib.hid (HH.out hp)
        rw [hp] at HC
        clear HN HH hp
        go_wp2_with fail
        refine HC.out.mono ?_
        rintro e w1 ⟨rfl, hb1⟩
        go_wp2_with fail
        go_ret
        exact ⟨_, rfl, HT, bthen hb hb1⟩
    · have HT : Hid (IdxAt p L.length (-1)) := Lib.hid (.inl ⟨rfl, fun j hj => hno.out j (by omega)⟩)
      go_wp2_with fail
      go_ret
      exact ⟨_, rfl, HT, hb⟩
theorem containsFn_str (F : FuncId) (caps : Array Value) (p : Nat → Bool) (A : Option Addr) (L : List ByteArray) (c : Nat) (w : World) (hl : L.length ≤ 35184372087808) (hL : Rd w w.heap.size A (ss L))
    (hF : ∀ args w, (callFunc F args).run Tryd.prog w = .ok (.enter F args) w)
    (hcall : ∀ k, k < L.length → ∀ (wr : World), Below w.heap.size w wr → Calls Tryd.prog F (#[.string (nm L k)] ++ caps) wr fun e w' => e = .returned (.bool (p k)) ∧ Below wr.heap.size wr w') :
    Calls Tryd.prog 70 #[.slice A L.length c, .func (.func F) #[] caps] w fun e w' => e = .returned (.bool (anyTo p L.length)) ∧ Below w.heap.size w w' := by
  have HI := Lib.hid (indexFn_str F caps p A L c w hl hL hF hcall)
  clear hcall hF hL
  go_enter Tryd.func70, Tryd.ntmps70
  go_wp2_with fail
  refine HI.out.mono ?_
  rintro e w1 ⟨r, rfl, hr, hb⟩
  have HR := Lib.hid (anyTo_of hr.out)
  go_wp2_with fail
  go_ret
  exact ⟨congrArg (fun z => Ending.returned (.bool z)) HR.out, hb⟩

theorem indexFn_tm (F : FuncId) (caps : Array Value) (p : Nat → Bool) (A : Option Addr) (ts : List Tm) (c : Nat) (w : World) (hl : ts.length ≤ 35184372087808) (hL : Rd w w.heap.size A (tms ts))
    (hF : ∀ args w, (callFunc F args).run Tryd.prog w = .ok (.enter F args) w)
    (hcall : ∀ k, k < ts.length → ∀ (wr : World), Below w.heap.size w wr → Calls Tryd.prog F (#[.agg #[.string (tm ts k).var, .int .i64 (tm ts k).kind, .int .i64 (tm ts k).num, .string (tm ts k).text]] ++ caps) wr fun e w' => e = .returned (.bool (p k)) ∧ Below wr.heap.size wr w') :
    Calls Tryd.prog 72 #[.slice A ts.length c, .func (.func F) #[] caps] w fun e w' => ∃ r : Int, e = .returned (.int .i64 r) ∧ Hid (IdxAt p ts.length r) ∧ Below w.heap.size w w' := by
  go_enter Tryd.func72, Tryd.ntmps72
  go_wp2_with fail
  go_loopw [5, 8] (fun _ i wr => ∃ k : Nat, k ≤ ts.length ∧ i = .int .i64 k ∧ Hid (∀ j, j < k → p j = false) ∧ Below w.heap.size w wr) (fun _ i _ => ts.length - (intOf i).toNat)
  case atStart => exact ⟨0, Nat.zero_le _, rfl, Lib.hid fun j hj => absurd hj (Nat.not_lt_zero _), Below.refl _ _⟩
  case round =>
    obtain ⟨k, hk, rfl, hno, hb⟩ := hrel
    by_cases hlt : k < ts.length
    · obtain ⟨ad, hA, _, hc, hc1, hc2, hc3⟩ := (hL.later hb).t_cells hlt
      subst hA
      have b1 : (0 : Int) ≤ k := by omega
      have b2 : (k : Int) < ts.length := by omega
      have HC := Lib.hid (hcall k hlt wr hb)
      have HN : Hid (p k = false → ∀ j, j < k + 1 → p j = false) := Lib.hid fun h j hj => by
        rcases Nat.lt_or_ge j k with d | d
        · exact hno.out j d
        · obtain rfl : j = k := by omega
          exact h
      have HH : Hid (p k = true → IdxAt p ts.length k) := Lib.hid fun h => .inr ⟨k, rfl, hlt, h⟩
      clear hno hcall
      generalize tm ts k = y at hc hc1 hc2 hc3 HC
      cases hp : p k
      · have HT := Lib.hid (HN.out hp)
        rw [hp] at HC
        clear HN HH hp
        go_wp2_with fail
        refine HC.out.mono ?_
        rintro e w1 ⟨rfl, hb1⟩
        go_wp2_with fail
        go_roundw
        case rel => exact ⟨k + 1, by omega, by go_num, HT, bthen hb hb1⟩
        case measure => simp [intOf]; omega
      · have HT := Lib.hid (HH.out hp)
        rw [hp] at HC
        clear HN HH hp
        go_wp2_with fail
        refine HC.out.mono ?_
        rintro e w1 ⟨rfl, hb1⟩
        go_wp2_with fail
        go_ret
        exact ⟨_, rfl, HT, bthen hb hb1⟩
    · have HT : Hid (IdxAt p ts.length (-1)) := Lib.hid (.inl ⟨rfl, fun j hj => hno.out j (by omega)⟩)
      go_wp2_with fail
      go_ret
      exact ⟨_, rfl, HT, hb⟩
theorem containsFn_tm (F : FuncId) (caps : Array Value) (p : Nat → Bool) (A : Option Addr) (ts : List Tm) (c : Nat) (w : World) (hl : ts.length ≤ 35184372087808) (hL : Rd w w.heap.size A (tms ts))
    (hF : ∀ args w, (callFunc F args).run Tryd.prog w = .ok (.enter F args) w)
    (hcall : ∀ k, k < ts.length → ∀ (wr : World), Below w.heap.size w wr → Calls Tryd.prog F (#[.agg #[.string (tm ts k).var, .int .i64 (tm ts k).kind, .int .i64 (tm ts k).num, .string (tm ts k).text]] ++ caps) wr fun e w' => e = .returned (.bool (p k)) ∧ Below wr.heap.size wr w') :
    Calls Tryd.prog 55 #[.slice A ts.length c, .func (.func F) #[] caps] w fun e w' => e = .returned (.bool (anyTo p ts.length)) ∧ Below w.heap.size w w' := by
  have HI := Lib.hid (indexFn_tm F caps p A ts c w hl hL hF hcall)
  clear hcall hF hL
  go_enter Tryd.func55, Tryd.ntmps55
  go_wp2_with fail
  refine HI.out.mono ?_
  rintro e w1 ⟨r, rfl, hr, hb⟩
  have HR := Lib.hid (anyTo_of hr.out)
  go_wp2_with fail
  go_ret
  exact ⟨congrArg (fun z => Ending.returned (.bool z)) HR.out, hb⟩

theorem indexFn_am (F : FuncId) (caps : Array Value) (p : Nat → Bool) (A : Option Addr) (xs : List Am) (c : Nat) (w : World) (hl : xs.length ≤ 35184372087808) (hL : Ats w w.heap.size A xs)
    (hF : ∀ args w, (callFunc F args).run Tryd.prog w = .ok (.enter F args) w)
    (hcall : ∀ k, k < xs.length → ∀ (T : Option Addr) (c1 : Nat) (wr : World), Below w.heap.size w wr → Rd wr wr.heap.size T (tms (am xs k).terms) → Calls Tryd.prog F (#[.agg #[.string (am xs k).rel, .slice T (am xs k).terms.length c1]] ++ caps) wr fun e w' => e = .returned (.bool (p k)) ∧ Below wr.heap.size wr w') :
    Calls Tryd.prog 68 #[.slice A xs.length c, .func (.func F) #[] caps] w fun e w' => ∃ r : Int, e = .returned (.int .i64 r) ∧ Hid (IdxAt p xs.length r) ∧ Below w.heap.size w w' := by
  go_enter Tryd.func68, Tryd.ntmps68
  go_wp2_with fail
  go_loopw [5, 8] (fun _ i wr => ∃ k : Nat, k ≤ xs.length ∧ i = .int .i64 k ∧ Hid (∀ j, j < k → p j = false) ∧ Below w.heap.size w wr) (fun _ i _ => xs.length - (intOf i).toNat)
  case atStart => exact ⟨0, Nat.zero_le _, rfl, Lib.hid fun j hj => absurd hj (Nat.not_lt_zero _), Below.refl _ _⟩
  case round =>
    obtain ⟨k, hk, rfl, hno, hb⟩ := hrel
    by_cases hlt : k < xs.length
    · obtain ⟨ad, hA, _, hc, T, c1, hc1, hT, _⟩ := (hL.later hb) k hlt
      subst hA
      have b1 : (0 : Int) ≤ k := by omega
      have b2 : (k : Int) < xs.length := by omega
      have HC := Lib.hid (hcall k hlt T c1 wr hb hT)
      have HN : Hid (p k = false → ∀ j, j < k + 1 → p j = false) := Lib.hid fun h j hj => by
        rcases Nat.lt_or_ge j k with d | d
        · exact hno.out j d
        · obtain rfl : j = k := by omega
          exact h
      have HH : Hid (p k = true → IdxAt p xs.length k) := Lib.hid fun h => .inr ⟨k, rfl, hlt, h⟩
      clear hno hcall hT
      generalize am xs k = y at hc hc1 HC
      cases hp : p k
      · have HT := Lib.hid (HN.out hp)
        rw [hp] at HC
        clear HN HH hp
        go_wp2_with fail
        refine HC.out.mono ?_
        rintro e w1 ⟨rfl, hb1⟩
        go_wp2_with fail
        go_roundw
        case rel => exact ⟨k + 1, by omega, by go_num, HT, bthen hb hb1⟩
        case measure => simp [intOf]; omega
      · have HT := Lib.hid (HH.out hp)
        rw [hp] at HC
        clear HN HH hp
        go_wp2_with fail
        refine HC.out.mono ?_
        rintro e w1 ⟨rfl, hb1⟩
        go_wp2_with fail
        go_ret
        exact ⟨_, rfl, HT, bthen hb hb1⟩
    · have HT : Hid (IdxAt p xs.length (-1)) := Lib.hid (.inl ⟨rfl, fun j hj => hno.out j (by omega)⟩)
      go_wp2_with fail
      go_ret
      exact ⟨_, rfl, HT, hb⟩
theorem containsFn_am (F : FuncId) (caps : Array Value) (p : Nat → Bool) (A : Option Addr) (xs : List Am) (c : Nat) (w : World) (hl : xs.length ≤ 35184372087808) (hL : Ats w w.heap.size A xs)
    (hF : ∀ args w, (callFunc F args).run Tryd.prog w = .ok (.enter F args) w)
    (hcall : ∀ k, k < xs.length → ∀ (T : Option Addr) (c1 : Nat) (wr : World), Below w.heap.size w wr → Rd wr wr.heap.size T (tms (am xs k).terms) → Calls Tryd.prog F (#[.agg #[.string (am xs k).rel, .slice T (am xs k).terms.length c1]] ++ caps) wr fun e w' => e = .returned (.bool (p k)) ∧ Below wr.heap.size wr w') :
    Calls Tryd.prog 52 #[.slice A xs.length c, .func (.func F) #[] caps] w fun e w' => e = .returned (.bool (anyTo p xs.length)) ∧ Below w.heap.size w w' := by
  have HI := Lib.hid (indexFn_am F caps p A xs c w hl hL hF hcall)
  clear hcall hF hL
  go_enter Tryd.func52, Tryd.ntmps52
  go_wp2_with fail
  refine HI.out.mono ?_
  rintro e w1 ⟨r, rfl, hr, hb⟩
  have HR := Lib.hid (anyTo_of hr.out)
  go_wp2_with fail
  go_ret
  exact ⟨congrArg (fun z => Ending.returned (.bool z)) HR.out, hb⟩
end Go.Proofs.YtdemmjofggemhaaDoor
