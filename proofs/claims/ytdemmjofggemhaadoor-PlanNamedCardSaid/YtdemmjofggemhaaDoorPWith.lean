/- plan.within: is every set that is left part of the head? -/
import Derived.Test.YtdemmjofggemhaaDoorQFn
import Derived.Test.YtdemmjofggemhaaDoorBD
namespace Go.Proofs.YtdemmjofggemhaaDoor
open Go.RowKit

theorem indexFn_lf (F : FuncId) (caps : Array Value) (p : Nat → Bool) (A : Option Addr) (ts : Lt) (c : Nat) (w : World) (hl : ts.length ≤ 35184372087808) (hL : Rd w w.heap.size A (lfs ts))
    (hF : ∀ args w, (callFunc F args).run Tryd.prog w = .ok (.enter F args) w)
    (hcall : ∀ k, k < ts.length → ∀ (wr : World), Below w.heap.size w wr → Calls Tryd.prog F (#[.agg #[.int .i64 ((lft ts k).1 : Nat), .int .u32 (uz (lft ts k).2)]] ++ caps) wr fun e w' => e = .returned (.bool (p k)) ∧ Below wr.heap.size wr w') :
    Calls Tryd.prog 78 #[.slice A ts.length c, .func (.func F) #[] caps] w fun e w' => ∃ r : Int, e = .returned (.int .i64 r) ∧ Hid (IdxAt p ts.length r) ∧ Below w.heap.size w w' := by
  go_enter Tryd.func78, Tryd.ntmps78
  go_wp2_with fail
  go_loopw [5, 8] (fun _ i wr => ∃ k : Nat, k ≤ ts.length ∧ i = .int .i64 k ∧ Hid (∀ j, j < k → p j = false) ∧ Below w.heap.size w wr) (fun _ i _ => ts.length - (intOf i).toNat)
  case atStart => exact ⟨0, Nat.zero_le _, rfl, Lib.hid fun j hj => absurd hj (Nat.not_lt_zero _), Below.refl _ _⟩
  case round =>
    obtain ⟨k, hk, rfl, hno, hb⟩ := hrel
    by_cases hlt : k < ts.length
    · obtain ⟨ad, hA, _, hc, hc1⟩ := (hL.later hb).lf_cells hlt
      subst hA
      have b1 : (0 : Int) ≤ k := by omega
      have b2 : (k : Int) < ts.length := by omega
      have HC := Lib.hid (hcall k hlt wr hb)
      have HN : Hid (p k = false → ∀ j, j < k + 1 → p j = false) := Lib.hid fun h j hj => by
        rcases Nat.lt_or_ge j k with d | d
        · exact hno.out j d
        · obtain rfl : j = k := by omega
          exact h
      have HH : Hid (p k = true → IdxAt p ts.length k) := Lib.hid fun h => .inr ⟨k, rfl, hlt, h⟩
      clear hno hcall
      generalize lft ts k = y at hc hc1 HC
      cases hp : p k
      · have HT := Lib.hid (HN.out hp)
        rw [hp] at HC
        clear HN HH hp
        go_wp2_with fail
        refine HC.out.mono ?_
        rintro e w1 ⟨rfl, hb1⟩
        go_wp2_with fail
        go_roundw
        case rel => exact ⟨k + 1, by omega, by go_num, HT, bthen hb hb1⟩
        case measure => simp [intOf]; omega
      · have HT := Lib.hid (HH.out hp)
        rw [hp] at HC
        clear HN HH hp
        go_wp2_with fail
        refine HC.out.mono ?_
        rintro e w1 ⟨rfl, hb1⟩
        go_wp2_with fail
        go_ret
        exact ⟨_, rfl, HT, bthen hb hb1⟩
    · have HT : Hid (IdxAt p ts.length (-1)) := Lib.hid (.inl ⟨rfl, fun j hj => hno.out j (by omega)⟩)
      go_wp2_with fail
      go_ret
      exact ⟨_, rfl, HT, hb⟩
theorem containsFn_lf (F : FuncId) (caps : Array Value) (p : Nat → Bool) (A : Option Addr) (ts : Lt) (c : Nat) (w : World) (hl : ts.length ≤ 35184372087808) (hL : Rd w w.heap.size A (lfs ts))
    (hF : ∀ args w, (callFunc F args).run Tryd.prog w = .ok (.enter F args) w)
    (hcall : ∀ k, k < ts.length → ∀ (wr : World), Below w.heap.size w wr → Calls Tryd.prog F (#[.agg #[.int .i64 ((lft ts k).1 : Nat), .int .u32 (uz (lft ts k).2)]] ++ caps) wr fun e w' => e = .returned (.bool (p k)) ∧ Below wr.heap.size wr w') :
    Calls Tryd.prog 61 #[.slice A ts.length c, .func (.func F) #[] caps] w fun e w' => e = .returned (.bool (anyTo p ts.length)) ∧ Below w.heap.size w w' := by
  have HI := Lib.hid (indexFn_lf F caps p A ts c w hl hL hF hcall)
  clear hcall hF hL
  go_enter Tryd.func61, Tryd.ntmps61
  go_wp2_with fail
  refine HI.out.mono ?_
  rintro e w1 ⟨r, rfl, hr, hb⟩
  have HR := Lib.hid (anyTo_of hr.out)
  go_wp2_with fail
  go_ret
  exact ⟨congrArg (fun z => Ending.returned (.bool z)) HR.out, hb⟩
def allIn (L : Lt) (head : BitVec 32) : Bool := !anyTo (fun k => (lft L k).2 &&& ~~~head != 0#32) L.length
attribute [local go_sem ↓] uz_andNot uz_beq_zero uz_bne_zero
theorem within1_any (x : Nat × BitVec 32) (head : BitVec 32) (b : Nat) (w : World) (hc : w.cell? ⟨b, 0, none⟩ = some (.int .u32 (uz head))) :
    Calls Tryd.prog 62 #[.agg #[.int .i64 (x.1 : Nat), .int .u32 (uz x.2)], .pointer (some ⟨b, 0, none⟩)] w fun e w' => e = .returned (.bool (x.2 &&& ~~~head != 0#32)) ∧ Below w.heap.size w w' := by
  go_enter Tryd.func62, Tryd.ntmps62
  have hb0 := below_alloc w (.cells #[.int .i64 (x.1 : Nat), .int .u32 (uz x.2)] 77)
  have hR0 : Row (w.alloc (.cells #[.int .i64 (x.1 : Nat), .int .u32 (uz x.2)] 77)) w.heap.size 77 [.int .i64 (x.1 : Nat), .int .u32 (uz x.2)] := Row.new _ _ _
  have hc0 : (w.alloc (.cells #[.int .i64 (x.1 : Nat), .int .u32 (uz x.2)] 77)).cell? ⟨b, 0, none⟩ = some (.int .u32 (uz head)) := Tab_cell hb0 hc
  go_upto_region 1 with fail
  generalize w.heap.size = g at hR0 ⊢
  generalize w.alloc _ = w0 at hb0 hR0 hc0 ⊢
  have c1 : w0.cell? ⟨g, 1, none⟩ = some (.int .u32 (uz x.2)) := hR0.cell 1
  go_wp2_with fail
  go_ret
  exact ⟨rfl, hb0⟩
theorem enter_within1 (args : Array Value) (w : World) : (callFunc 62 args).run Tryd.prog w = .ok (.enter 62 args) w := by go_simp
set_option maxRecDepth 100000 in
theorem plan_within_any (A : Option Addr) (L : Lt) (c : Nat) (head : BitVec 32) (w : World) (hl : L.length ≤ 35184372087808) (hL : Rd w w.heap.size A (lfs L)) :
    Calls Tryd.prog 43 #[.slice A L.length c, .int .u32 (uz head)] w fun e w' => e = .returned (.bool (allIn L head)) ∧ Below w.heap.size w w' := by
  go_enter Tryd.func43, Tryd.ntmps43
  have hb0 := below_alloc w (.cells #[.int .u32 (uz head)] 62)
  have hR0 : Row (w.alloc (.cells #[.int .u32 (uz head)] 62)) w.heap.size 62 [.int .u32 (uz head)] := Row.new_ (xs := [.int .u32 (uz head)]) (by simp)
  have HC := Lib.hid (containsFn_lf 62 #[.pointer (some ⟨w.heap.size, 0, none⟩)] (fun k => (lft L k).2 &&& ~~~head != 0#32) A L c _ hl (hL.later hb0) enter_within1 fun k hk wr hb => within1_any (lft L k) head w.heap.size wr ((hR0.later hb).cell 0))
  go_upto_region 1 with fail
  generalize w.alloc _ = w0 at hb0 HC ⊢
  go_wp2_with fail
  refine HC.out.mono ?_
  rintro e w1 ⟨rfl, hb1⟩
  go_wp2_with fail
  go_ret
  exact ⟨rfl, bthen hb0 hb1⟩
end Go.Proofs.YtdemmjofggemhaaDoor
