/- Several texts in one: HeldK R18Upd R18In R18Part R18One. -/
import Derived.Deep.RegionHeld3
import Derived.Lib.Hide
import Derived.Test.YtdemmjofggemhaaGreatDoorBL
import Derived.Test.YtdemmjofggemhaaGreatDoorBR
import Derived.BigQuiet
import Derived.Deep.QuietTactic
import Derived.Test.YtdemmjofggemhaaGreatDoorBU
/- Short forms of the moves through a drawn region that only reads and calls (wip/tools/mkreg.py prints them). -/
namespace Go.Proofs.YtdemmjofggemhaaGreatDoor
section
variable {P : Program} {ops : Array Oper} {Q : Exit → Act → World → Prop} {md : Region.Mode} {S : World → Prop}
def fitH (md : Region.Mode) (ops : Array Oper) (listed : Array Bool) (i : Nat) : Bool := Region.noSelect ops && (Region.free md ops listed i && (Region.ready md ops listed).contains i)
theorem nth_of {i : Nat} {oi : Oper} {rest : List Oper} (hi : ops.toList.drop i = oi :: rest) : ops[i]? = some oi := by
 rw [← Array.getElem?_toList, ← List.head?_drop, hi]; rfl
theorem kY (i : Nat) {oi : Oper} {rest : List Oper} {v : Value} {fuel : Nat} {listed : Array Bool} {a : Act} {w : World} (hS : S w)
  (h : wpAnyH P md ops Q S fuel (listed.setIfInBounds i true) (a.put oi.dst v) w)
  (hi : ops.toList.drop i = oi :: rest := by rfl) (hc : fitH md ops listed i = true := by kernel_rfl)
  (hQ : ∀ c a w, Q (.panic c) (a.put oi.dst v) w → Q (.panic c) a w := by exact fun _ _ _ h => h) (hw : Region.wanted oi (yielded ops a.tmps) = true := by rfl)
  (hy : ∀ w, S w → (execOp a.eval oi).run P w = .ok (.value v) w := by (intro w h; (try dsimp only at h); go_simp; try with_reducible rfl)) : wpAnyH P md ops Q S (fuel + 1) listed a w := by
 unfold fitH at hc
 simp only [Bool.and_eq_true] at hc
 exact wpAnyH_take (nth_of hi) hc.1 hc.2.1 hc.2.2 hQ (.inl ⟨hw, hy⟩) hS h
def fitN (md : Region.Mode) (ops : Array Oper) : List (Nat × Nat) → Array Bool → Act → Bool
 | [], _, _ => true
 | p :: l, listed, a => fitH md ops listed p.1 && ((ops[p.1]?.any fun o => decide (o.dst = some p.2) && !Region.wanted o (yielded ops a.tmps)) && fitN md ops l (listed.setIfInBounds p.1 true) (a.put (some p.2) undef))
theorem kN (n : Nat) (l : List (Nat × Nat)) {fuel : Nat} {listed : Array Bool} {a : Act} {w : World} (hf : fuel = n + l.length) (hc : fitN md ops l listed a = true)
  (hQ : ∀ d c a w, Q (.panic c) (a.put (some d) undef) w → Q (.panic c) a w) (hS : S w)
  (h : wpAnyH P md ops Q S n (l.foldl (fun x p => x.setIfInBounds p.1 true) listed) (l.foldl (fun a p => a.put (some p.2) undef) a) w) : wpAnyH P md ops Q S fuel listed a w := by
 subst hf
 induction l generalizing listed a with
 | nil => exact h
 | cons p l ih =>
  unfold fitN fitH at hc
  simp only [Bool.and_eq_true] at hc
  obtain ⟨⟨h1, h2, h3⟩, h4, h5⟩ := hc
  obtain ⟨o, ho, hd⟩ : ∃ o, ops[p.1]? = some o ∧ (o.dst = some p.2 ∧ Region.wanted o (yielded ops a.tmps) = false) := by
   cases e : ops[p.1]? with
   | none => rw [e] at h4; cases h4
   | some o =>
    rw [e] at h4
    simp only [Option.any_some, Bool.and_eq_true, decide_eq_true_eq, Bool.not_eq_true'] at h4
    exact ⟨o, rfl, h4⟩
  refine wpAnyH_take ho h1 h2 h3 (by rw [hd.1]; exact hQ p.2) (.inr ⟨hd.2, rfl⟩) hS ?_
  rw [hd.1]
  exact ih h5 h
theorem kC (i : Nat) {oi : Oper} {rest : List Oper} {fuel : Nat} {listed : Array Bool} {a : Act} {w : World} (hi : ops.toList.drop i = oi :: rest) (hr : Region.ready md ops listed = [i])
  (h : ∀ K' : Act → World → Prop, Shut (∀ a w, S w → (S w → wpAnyH P md ops Q S fuel (listed.setIfInBounds i true) a w) → K' a w) → if Region.wanted oi (yielded ops a.tmps) = true then Oper.wp P oi a w K' Q else K' (a.put oi.dst undef) w) :
  wpAnyH P md ops Q S (fuel + 1) listed a w := wpAnyH_ready hr (by simp) (AllReadyH.cons (nth_of hi) h AllReadyH.nil)
end
theorem k0 {α : Type} {l : List α} {i : Nat} {a : α} : l.toArray.setIfInBounds i a = (l.set i a).toArray := List.setIfInBounds_toArray ..
theorem k1 {α : Type} {x a : α} {l : List α} : (x :: l).set 0 a = a :: l := rfl
theorem k2 {α : Type} {x a : α} {l : List α} {n : Nat} : (x :: l).set (n + 1) a = x :: l.set n a := rfl
theorem k3 {α β : Type} {f : α → β → α} {a : α} {b : β} {l : List β} : (b :: l).foldl f a = l.foldl f (f a b) := rfl
theorem k4 {α β : Type} {f : α → β → α} {a : α} : ([] : List β).foldl f a = a := rfl
theorem hidT {X : Prop} (h : RowKit.Hid (true = true ↔ X)) : RowKit.Hid X := Lib.hid (h.out.1 rfl)
theorem hidF {X : Prop} (h : RowKit.Hid (false = true ↔ X)) : RowKit.Hid (¬ X) := Lib.hid fun x => Bool.noConfusion (h.out.2 x)
theorem ceT {α : Type} [DecidableEq α] {a b : α} (h : a = b) : decide (a = b) = true ∧ (a == b) = true ∧ (a != b) = false := by subst h; simp
theorem ceF {α : Type} [DecidableEq α] {a b : α} (h : ¬ a = b) : decide (a = b) = false ∧ (a == b) = false ∧ (a != b) = true := by simp [h]
end Go.Proofs.YtdemmjofggemhaaGreatDoor
/- osierref18.Update: the contract. -/
namespace Go.Proofs.YtdemmjofggemhaaGreatDoor
open Go.RowKit
theorem r18is_any (Av Ah A At : Option Addr) (nv cv nh ch n c nt ct : Nat) (root u : Int) (w : World) :
  Calls Tryz.prog 40 #[.agg #[.slice Av nv cv, .slice Ah nh ch, .slice A n c, .int .i64 root, .slice At nt ct], .int .i64 u] w fun e w' => e = .returned (.bool (decide (0 ≤ u) && decide (u < n))) ∧ Below w.heap.size w w' := by
 go_enter Tryz.func40, Tryz.ntmps40
 cases h : decide (0 ≤ u)
 ·go_wp2_with fail
  go_ret
  exact ⟨rfl, below_alloc _ _⟩
 ·cases k : decide (u < n) <;> (go_wp2_with fail; go_ret; exact ⟨rfl, below_alloc _ _⟩)
end Go.Proofs.YtdemmjofggemhaaGreatDoor
/- osierref18.In: does a number stand in a list? -/
namespace Go.Proofs.YtdemmjofggemhaaGreatDoor
open Go.RowKit
theorem mem_take_next {Z : List Int} {k : Nat} (h : k < Z.length) (x : Int) : x ∉ Z.take k → Z[k] ≠ x → x ∉ Z.take (k + 1) := fun a b c => by
 rw [List.take_add_one, List.getElem?_eq_getElem h] at c
 rcases List.mem_append.1 c with c | c
 ·exact a c
 ·exact b (List.mem_singleton.1 c).symm
theorem r18in_any (A : Option Addr) (Z : List Int) (c : Nat) (x : Int) (w : World) (hl : Z.length ≤ 35184372087808) (hZ : Rd w w.heap.size A (is Z)) :
  Calls Tryz.prog 77 #[.slice A Z.length c, .int .i64 x] w fun e w' => e = .returned (.bool (decide (x ∈ Z))) ∧ w = w' := by
 go_enter Tryz.func77, Tryz.ntmps77
 go_wp2_with fail
 go_loop [5] (fun i => ∃ k : Nat, k ≤ Z.length ∧ i = .int .i64 k ∧ Hid (x ∉ Z.take k)) (fun i => Z.length - (intOf i).toNat)
 case atStart => exact ⟨0, Nat.zero_le _, rfl, Lib.hid (by simp)⟩
 case round =>
  obtain ⟨k, hk, rfl, hno⟩ := hrel
  by_cases hlt : k < Z.length
  ·obtain ⟨ad, hA, _, hc⟩ := hZ.i_at hlt
   subst hA
   have b1 : (0 : Int) ≤ k := by omega
   have b2 : (k : Int) < Z.length := by omega
   have HY : Hid (Z[k] = x → decide (x ∈ Z) = true) := Lib.hid fun h => decide_eq_true (h ▸ List.getElem_mem hlt)
   have HN := Lib.hid (mem_take_next hlt x hno.out)
   generalize Z[k] = y at hc HY HN
   by_cases hx : y = x
   ·have HT := Lib.hid (HY.out hx)
    have hb : (y == x) = true := by simpa using hx
    have hb' : decide (y = x) = true := by simpa using hx
    clear HN HY hx
    go_wp2_with fail
    go_ret
    exact ⟨congrArg (fun z => Ending.returned (.bool z)) HT.out.symm, by first | rfl | trivial⟩
   ·have HT := Lib.hid (HN.out hx)
    have hb : (y == x) = false := by simpa using hx
    have hb' : decide (y = x) = false := by simpa using hx
    clear HN HY hx
    go_wp2_with fail
    go_round
    case rel => exact ⟨k + 1, by omega, by go_num, HT⟩
    case measure => simp [intOf]; omega
  ·obtain rfl : k = Z.length := by omega
   have HT : Hid (decide (x ∈ Z) = false) := Lib.hid (decide_eq_false (by have := hno.out; rwa [List.take_length] at this))
   go_wp2_with fail
   go_ret
   exact ⟨congrArg (fun z => Ending.returned (.bool z)) HT.out.symm, by first | rfl | trivial⟩
end Go.Proofs.YtdemmjofggemhaaGreatDoor
/- osierref18.Part: do a list's numbers rise, and are they all in another one? -/
namespace Go.Proofs.YtdemmjofggemhaaGreatDoor
open Go.RowKit
theorem part_next {a b : List Int} {k : Nat} (h : ∀ j, j < k → partAt a b j = true) (hk : partAt a b k = true) : ∀ j, j < k + 1 → partAt a b j = true := fun j hj => by
 rcases Nat.lt_or_ge j k with d | d
 ·exact h j d
 ·obtain rfl : j = k := by omega
  exact hk
theorem partAt_iff (a b : List Int) (k : Nat) : partAt a b k = true ↔ (0 < k → pz a (k - 1) < pz a k) ∧ pz a k ∈ b := by
 unfold partAt
 simp only [Bool.and_eq_true, Bool.or_eq_true, decide_eq_true_eq]
 constructor
 ·rintro ⟨h | h, h2⟩
  ·exact ⟨fun c => by omega, h2⟩
  ·exact ⟨fun _ => h, h2⟩
 ·rintro ⟨h, h2⟩
  refine ⟨?_, h2⟩
  rcases Nat.eq_zero_or_pos k with c | c
  ·exact .inl c
  ·exact .inr (h c)
set_option maxRecDepth 100000 in
set_option maxHeartbeats 4000000 in
theorem r18part_any (A A' : Option Addr) (a b : List Int) (c c' : Nat) (w : World) (ha : a.length ≤ 35184372087808) (hb : b.length ≤ 35184372087808) (hA : Rd w w.heap.size A (is a)) (hB : Rd w w.heap.size A' (is b)) :
  Calls Tryz.prog 75 #[.slice A a.length c, .slice A' b.length c'] w fun e w' => e = .returned (.bool (partB a b)) ∧ Below w.heap.size w w' := by
 have HIN := Lib.hid (fun (x : Int) (y : World) (hy : Below w.heap.size w y) => r18in_any A' b c' x y hb (hB.later hy))
 go_enter Tryz.func75, Tryz.ntmps75
 go_wp2_with fail
 go_loopw [5] (fun i wr => ∃ k : Nat, k ≤ a.length ∧ i = .int .i64 k ∧ Hid (∀ j, j < k → partAt a b j = true) ∧ Below w.heap.size w wr) (fun i _ => a.length - (intOf i).toNat)
 case atStart => exact ⟨0, Nat.zero_le _, rfl, Lib.hid (fun j hj => absurd hj (Nat.not_lt_zero _)), Below.refl _ _⟩
 case round =>
  obtain ⟨k, hk, rfl, HY, hw⟩ := hrel
  by_cases hlt : k < a.length
  ·obtain ⟨ad, e1, hal, hc⟩ := hA.p_at hlt
   obtain ⟨ad', e1', _, hz⟩ := hA.p_at (k := k - 1) (by omega)
   obtain rfl : ad = ad' := by rw [e1] at e1'; injection e1'
   subst e1
   clear e1'
   have b1 : (0 : Int) ≤ k := by omega
   have b2 : (k : Int) < a.length := by omega
   have HNX := Lib.hid (part_next (b := b) HY.out)
   have HNO := Lib.hid (partB_no (b := b) hlt)
   have HINk := Lib.hid (HIN.out (pz a k))
   have HP := Lib.hid (partAt_iff a b k)
   clear HY HIN
   generalize pz a k = x at hc HINk HP
   generalize pz a (k - 1) = z at hz HP
   generalize partAt a b k = B at HP HNX HNO
   have hwd : Below w.heap.size w wr.drew ∧ wr.drew.cell? (ad.add k) = some (.int .i64 x) ∧ wr.drew.cell? (ad.add (k - 1)) = some (.int .i64 z) := ⟨hw.drew, (hw.drew.cell (by rw [block_add]; exact hal)).trans hc, (hw.drew.cell (by rw [block_add]; exact hal)).trans hz⟩
   clear hc hz
   go_upto_region 4 with fail
   refine wp_region_held_drew (S := (fun y : World => Below w.heap.size w y ∧ y.cell? (ad.add k) = some (.int .i64 x) ∧ y.cell? (ad.add (k - 1)) = some (.int .i64 z))) (by kernel_rfl) hwd (fun hHeld => ?_)
   refine kY 0 hHeld ?_
   simp only [Act.put, k0, k1, k2]
   refine kY 1 hHeld ?_
   simp only [Act.put, k0, k1, k2]
   by_cases q13 : 0 < k
   ·have d13 := decide_eq_true q13
    have H13 := Lib.hid q13; clear q13; try simp only [d13]
    have w1 : IntKind.i64.wrap ((k : Int) - 1) = ((k - 1 : Nat) : Int) := by rw [show (k : Int) - 1 = ((k - 1 : Nat) : Int) by have := H13.out; omega]; exact IntWalk.i64_in _ (by omega)
    have b3 : (0 : Int) ≤ ((k - 1 : Nat) : Int) := by omega
    have b4 : ((k - 1 : Nat) : Int) < a.length := by omega
    refine kY 2 hHeld ?_
    simp only [Act.put, k0, k1, k2]
    refine kY 3 hHeld ?_
    simp only [Act.put, k0, k1, k2]
    refine kY 4 hHeld ?_
    simp only [Act.put, k0, k1, k2]
    refine kY 5 hHeld ?_
    simp only [Act.put, k0, k1, k2]
    refine kY 6 hHeld ?_
    simp only [Act.put, k0, k1, k2]
    refine kY 7 hHeld ?_
    simp only [Act.put, k0, k1, k2]
    refine kY 8 hHeld ?_
    simp only [Act.put, k0, k1, k2]
    refine kY 9 hHeld ?_
    simp only [Act.put, k0, k1, k2]
    refine kY 10 hHeld ?_
    simp only [Act.put, k0, k1, k2]
    refine kY 11 hHeld ?_
    simp only [Act.put, k0, k1, k2]
    refine kY 12 hHeld ?_
    simp only [Act.put, k0, k1, k2]
    by_cases q24 : x ≤ z
    ·have d24 := decide_eq_true q24
     have H24 := Lib.hid q24; clear q24; try simp only [d24]
     refine kY 13 hHeld ?_
     simp only [Act.put, k0, k1, k2]
     refine kY 14 hHeld ?_
     simp only [Act.put, k0, k1, k2]
     refine kN 1 [(15, 27), (16, 28), (17, 29), (18, 30), (19, 31), (20, 32), (21, 33)] rfl (by kernel_rfl) (fun _ _ _ _ h => h) hHeld ?_
     simp only [k3, k4, Act.put, k0, k1, k2]
     refine kY 22 hHeld ?_
     simp only [Act.put, k0, k1, k2]
     refine wpAnyH_done (by kernel_rfl) ?_ _
     have HT : B = false := by rw [Bool.eq_false_iff]; intro c; obtain ⟨c1, c2⟩ := HP.out.1 c; first | exact H32.out c2 | (have := H24.out; have := c1 H13.out; omega)
     have HR := HNO.out HT
     clear HT HP HNX HNO HINk
     go_wp2_with fail
     go_ret
     exact ⟨congrArg (fun z => Ending.returned (.bool z)) HR.symm, hHeld.1⟩
    ·have d24 := decide_eq_false q24
     have H24 := Lib.hid q24; clear q24; try simp only [d24]
     refine kY 13 hHeld ?_
     simp only [Act.put, k0, k1, k2]
     refine kY 14 hHeld ?_
     simp only [Act.put, k0, k1, k2]
     refine kY 15 hHeld ?_
     simp only [Act.put, k0, k1, k2]
     refine kY 16 hHeld ?_
     simp only [Act.put, k0, k1, k2]
     refine kY 17 hHeld ?_
     simp only [Act.put, k0, k1, k2]
     refine kY 18 hHeld ?_
     simp only [Act.put, k0, k1, k2]
     refine kY 19 hHeld ?_
     simp only [Act.put, k0, k1, k2]
     refine kC 20 rfl (by kernel_rfl) (fun K hK => ?_)
     go_simp
     go_at_call 77
     refine (HINk.out _ hHeld.1).mono ?_
     rintro e wq ⟨rfl, rfl⟩
     go_wp2_with fail
     refine hK.out _ _ hHeld (fun hNew => ?_)
     clear hK K hHeld; have hHeld := hNew; clear hNew
     try simp only [Act.put, k0, k1, k2]
     by_cases q32 : x ∈ b
     ·have d32 := decide_eq_true q32
      have H32 := Lib.hid q32; clear q32; try simp only [d32]
      refine kY 21 hHeld ?_
      simp only [Act.put, k0, k1, k2]
      refine kY 22 hHeld ?_
      simp only [Act.put, k0, k1, k2]
      refine wpAnyH_done (by kernel_rfl) ?_ _
      have HR := Lib.hid (HNX.out (HP.out.2 ⟨fun _ => by have := H24.out; omega, H32.out⟩))
      clear HP HNX HNO HINk
      go_wp2_with fail
      go_roundw
      case rel => exact ⟨k + 1, by omega, by go_num, HR, hHeld.1⟩
      case measure => simp [intOf]; omega
     ·have d32 := decide_eq_false q32
      have H32 := Lib.hid q32; clear q32; try simp only [d32]
      refine kY 21 hHeld ?_
      simp only [Act.put, k0, k1, k2]
      refine kY 22 hHeld ?_
      simp only [Act.put, k0, k1, k2]
      refine wpAnyH_done (by kernel_rfl) ?_ _
      have HT : B = false := by rw [Bool.eq_false_iff]; intro c; obtain ⟨c1, c2⟩ := HP.out.1 c; first | exact H32.out c2 | (have := H24.out; have := c1 H13.out; omega)
      have HR := HNO.out HT
      clear HT HP HNX HNO HINk
      go_wp2_with fail
      go_ret
      exact ⟨congrArg (fun z => Ending.returned (.bool z)) HR.symm, hHeld.1⟩
   ·have d13 := decide_eq_false q13
    have H13 := Lib.hid q13; clear q13; try simp only [d13]
    refine kY 2 hHeld ?_
    simp only [Act.put, k0, k1, k2]
    refine kN 10 [(3, 15), (4, 16), (5, 17), (6, 18), (7, 19), (8, 20), (9, 21), (10, 22), (11, 23), (12, 24)] rfl (by kernel_rfl) (fun _ _ _ _ h => h) hHeld ?_
    simp only [k3, k4, Act.put, k0, k1, k2]
    refine kY 13 hHeld ?_
    simp only [Act.put, k0, k1, k2]
    refine kY 14 hHeld ?_
    simp only [Act.put, k0, k1, k2]
    refine kY 15 hHeld ?_
    simp only [Act.put, k0, k1, k2]
    refine kY 16 hHeld ?_
    simp only [Act.put, k0, k1, k2]
    refine kY 17 hHeld ?_
    simp only [Act.put, k0, k1, k2]
    refine kY 18 hHeld ?_
    simp only [Act.put, k0, k1, k2]
    refine kY 19 hHeld ?_
    simp only [Act.put, k0, k1, k2]
    refine kC 20 rfl (by kernel_rfl) (fun K hK => ?_)
    go_simp
    go_at_call 77
    refine (HINk.out _ hHeld.1).mono ?_
    rintro e wq ⟨rfl, rfl⟩
    go_wp2_with fail
    refine hK.out _ _ hHeld (fun hNew => ?_)
    clear hK K hHeld; have hHeld := hNew; clear hNew
    try simp only [Act.put, k0, k1, k2]
    by_cases q32 : x ∈ b
    ·have d32 := decide_eq_true q32
     have H32 := Lib.hid q32; clear q32; try simp only [d32]
     refine kY 21 hHeld ?_
     simp only [Act.put, k0, k1, k2]
     refine kY 22 hHeld ?_
     simp only [Act.put, k0, k1, k2]
     refine wpAnyH_done (by kernel_rfl) ?_ _
     have HR := Lib.hid (HNX.out (HP.out.2 ⟨fun h => absurd h H13.out, H32.out⟩))
     clear HP HNX HNO HINk
     go_wp2_with fail
     go_roundw
     case rel => exact ⟨k + 1, by omega, by go_num, HR, hHeld.1⟩
     case measure => simp [intOf]; omega
    ·have d32 := decide_eq_false q32
     have H32 := Lib.hid q32; clear q32; try simp only [d32]
     refine kY 21 hHeld ?_
     simp only [Act.put, k0, k1, k2]
     refine kY 22 hHeld ?_
     simp only [Act.put, k0, k1, k2]
     refine wpAnyH_done (by kernel_rfl) ?_ _
     have HT : B = false := by rw [Bool.eq_false_iff]; intro c; obtain ⟨c1, c2⟩ := HP.out.1 c; first | exact H32.out c2 | (have := H24.out; have := c1 H13.out; omega)
     have HR := HNO.out HT
     clear HT HP HNX HNO HINk
     go_wp2_with fail
     go_ret
     exact ⟨congrArg (fun z => Ending.returned (.bool z)) HR.symm, hHeld.1⟩
  ·obtain rfl : k = a.length := by omega
   have HT := Lib.hid (partB_yes HY.out)
   go_wp2_with fail
   go_ret
   exact ⟨congrArg (fun z => Ending.returned (.bool z)) HT.out.symm, hw⟩
end Go.Proofs.YtdemmjofggemhaaGreatDoor
/- osierref18.one: properties 2 and 3 of one node. -/
set_option linter.unusedSimpArgs false
namespace Go.Proofs.YtdemmjofggemhaaGreatDoor
open Go.RowKit
theorem sameInts_dec (A A' : Option Addr) (Z Y : List Int) (c c' : Nat) (w : World) (hl : Z.length ≤ 35184372087808) (hl' : Y.length ≤ 35184372087808) (hZ : Rd w w.heap.size A (is Z)) (hY : Rd w w.heap.size A' (is Y)) :
  Calls Tryz.prog 13 #[.slice A Z.length c, .slice A' Y.length c'] w fun e w' => e = .returned (.bool (decide (Z = Y))) ∧ ∃ n, w' = w.drewN n := by
 have h := sameInts_any A A' Z Y c c' w hl hl' hZ hY
 rwa [show (Z == Y) = decide (Z = Y) by rw [Bool.eq_iff_iff]; simp] at h
set_option maxRecDepth 100000 in
set_option maxHeartbeats 8000000 in
theorem r18one_any (AV AH AN AT : Option Addr) (nv cv nh ch cN nt ct : Nat) (N : List PNd) (rt : Int) (V : Int) (AE : Option Addr) (E : List (BitVec 32)) (cE : Nat) (i : Nat) (w : World) (hi : i < N.length) (hz : ∀ m ∈ N, m.vars.length ≤ 35184372087808)
  (hN : NdR w w.heap.size AN N) (hE : Rd w w.heap.size AE (us E)) :
  Calls Tryz.prog 42 #[.agg #[.slice AV nv cv, .slice AH nh ch, .slice AN N.length cN, .int .i64 rt, .slice AT nt ct], .agg #[.int .i64 V, .slice AE E.length cE], .int .i64 i] w fun e w' => ∃ b, e = .returned (.bool b) ∧ Hid (b = true ↔ OneOk E N i) ∧ Below w.heap.size w w' := by
 have HZ : Hid (∀ k, k < N.length → (nd N k).vars.length ≤ 35184372087808) := Lib.hid fun k hk => hz _ (by rw [← nd_eq N k hk]; exact List.getElem_mem _)
 have HP : Hid (OneOk E N i ↔ (i < E.length → LeafOk E (nd N i) i) ∧ (E.length ≤ i → TrimOk N (nd N i) ∨ MeetOk N (nd N i))) := Lib.hid Iff.rfl
 generalize OneOk E N i = PP at HP ⊢
 clear hz
 go_enter Tryz.func42, Tryz.ntmps42
 go_upto_region 1 with fail
 have hb0 : Below w.heap.size w ((w.alloc (.cells #[.slice AV nv cv, .slice AH nh ch, .slice AN N.length cN, .int .i64 rt, .slice AT nt ct] 46)).alloc (.cells #[.int .i64 V, .slice AE E.length cE] 36)) := (below_alloc w _).alloc (by simp) _
 have hP0 : RRow ((w.alloc (.cells #[.slice AV nv cv, .slice AH nh ch, .slice AN N.length cN, .int .i64 rt, .slice AT nt ct] 46)).alloc (.cells #[.int .i64 V, .slice AE E.length cE] 36)) w.heap.size AV AH AN AT nv cv nh ch N.length cN nt ct rt := (Row.new w _ _).alloc _
 have hG0 : Row ((w.alloc (.cells #[.slice AV nv cv, .slice AH nh ch, .slice AN N.length cN, .int .i64 rt, .slice AT nt ct] 46)).alloc (.cells #[.int .i64 V, .slice AE E.length cE] 36)) (w.heap.size + 1) 36 [.int .i64 V, .slice AE E.length cE] := Row.new_ (by simp)
 have hN0 := hN.later hb0
 have hE0 := hE.later hb0
 generalize (w.alloc _).alloc _ = w0 at hb0 hP0 hG0 hN0 hE0 ⊢
 generalize w.heap.size + 1 = gg at hG0 ⊢
 obtain ⟨ad, hA, _, T, cT, hvT, c0, c1, c2, c3, c4, c5, c6⟩ := hN0.cells hi
 subst hA
 have q2 : w0.cell? ⟨w.heap.size, 2, none⟩ = some (.slice (some ad) N.length cN) := Row.cell hP0 2
 have a1 : (0 : Int) ≤ i := by omega
 have a2 : (i : Int) < N.length := by omega
 have hzi := HZ.out i hi
 generalize nd N i = x at c0 c1 c2 c3 c4 c5 c6 HP hzi hvT
 obtain ⟨K, at_, vs, sr, sd, pr, tp⟩ := x
 dsimp only at c0 c1 c2 c3 c4 c5 c6 HP hzi hvT
 go_upto_region 2 with fail
 have hb1 := below_alloc w0 (.cells #[.int .i64 K, .int .i64 at_, .slice T vs.length cT, .int .i64 sr, .int .i64 sd, .int .i64 pr, .bool tp] 106)
 have hX1 : Row (w0.alloc (.cells #[.int .i64 K, .int .i64 at_, .slice T vs.length cT, .int .i64 sr, .int .i64 sd, .int .i64 pr, .bool tp] 106)) w0.heap.size 106 [.int .i64 K, .int .i64 at_, .slice T vs.length cT, .int .i64 sr, .int .i64 sd, .int .i64 pr, .bool tp] := Row.new _ _ _
 have hB1 := bthen hb0 hb1
 have hP1 := Row.later hP0 hb1
 have hG1 := hG0.later hb1
 have hN1 := hN0.later hb1
 have hE1 := hE0.later hb1
 have hvT1 := hvT.later hb1
 generalize w0.heap.size = g at hX1 ⊢
 generalize w0.alloc _ = w1 at hB1 hX1 hP1 hG1 hN1 hE1 hvT1 ⊢
 clear c0 c1 c2 c3 c4 c5 c6 q2 hb1 hb0 hP0 hG0 hN0 hE0 hvT hN hE
 have x0 : w1.cell? ⟨g, 0, none⟩ = some (.int .i64 K) := hX1.cell 0
 have x1 : w1.cell? ⟨g, 1, none⟩ = some (.int .i64 at_) := hX1.cell 1
 have x2 : w1.cell? ⟨g, 2, none⟩ = some (.slice T vs.length cT) := hX1.cell 2
 have x3 : w1.cell? ⟨g, 3, none⟩ = some (.int .i64 sr) := hX1.cell 3
 have x4 : w1.cell? ⟨g, 4, none⟩ = some (.int .i64 sd) := hX1.cell 4
 have y1 : w1.cell? ⟨gg, 1, none⟩ = some (.slice AE E.length cE) := hG1.cell 1
 have p0 : w1.cell? ⟨w.heap.size, 0, none⟩ = some (.slice AV nv cv) := Row.cell hP1 0
 have p1 : w1.cell? ⟨w.heap.size, 1, none⟩ = some (.slice AH nh ch) := Row.cell hP1 1
 have p2 : w1.cell? ⟨w.heap.size, 2, none⟩ = some (.slice (some ad) N.length cN) := Row.cell hP1 2
 have p3 : w1.cell? ⟨w.heap.size, 3, none⟩ = some (.int .i64 rt) := Row.cell hP1 3
 have p4 : w1.cell? ⟨w.heap.size, 4, none⟩ = some (.slice AT nt ct) := Row.cell hP1 4
 by_cases hle : i < E.length
 ·have HL : Hid (PP ↔ K = 1 ∧ at_ = i ∧ vs = lst (ed E i) ∧ sr = 0 ∧ sd = 0) := Lib.hid (by rw [HP.out]; exact ⟨fun h => h.1 hle, fun h => ⟨fun _ => h, fun c => absurd c (by omega)⟩⟩)
  obtain ⟨ae, hAE, hael, ce⟩ := hE1.e_at hle
  subst hAE
  have b2 : (i : Int) < E.length := by omega
  have HLI := Lib.hid (fun (y : World) => r18list_any (ed E i) y)
  have hll := lst_len (ed E i)
  generalize ed E i = e at ce HL HLI hll
  have HK : Hid (∀ y, Below w1.heap.size w1 y → Below w1.heap.size w1 y ∧ y.cell? ⟨g, 0, none⟩ = some (.int .i64 K) ∧ y.cell? ⟨g, 1, none⟩ = some (.int .i64 at_) ∧ y.cell? ⟨g, 2, none⟩ = some (.slice T vs.length cT) ∧ y.cell? ⟨g, 3, none⟩ = some (.int .i64 sr) ∧ y.cell? ⟨g, 4, none⟩ = some (.int .i64 sd) ∧ y.cell? ⟨gg, 1, none⟩ = some (.slice (some ae) E.length cE) ∧ y.cell? (ae.add i) = some (.int .u32 (uz e))) := Lib.hid fun y hy => ⟨hy, (hX1.later hy).cell 0, (hX1.later hy).cell 1, (hX1.later hy).cell 2, (hX1.later hy).cell 3, (hX1.later hy).cell 4, (hG1.later hy).cell 1, (hy.cell (by rw [block_add]; exact hael)).trans ce⟩
  have HSI := Lib.hid (fun (y : World) (A2 : Option Addr) (n2 : Nat) hy (h2 : Rd y y.heap.size A2 (is (lst e))) => sameInts_dec T A2 vs (lst e) cT n2 y hzi (by omega) (hvT1.later hy) h2)
  clear HP hX1 hG1 hE1 hP1 hN1 HZ ce hvT1 p0 p1 p2 p3 p4
  go_upto_region 3 with fail
  refine wp_region_held_drew (S := (fun y : World => Below w1.heap.size w1 y ∧ y.cell? ⟨g, 0, none⟩ = some (.int .i64 K) ∧ y.cell? ⟨g, 1, none⟩ = some (.int .i64 at_) ∧ y.cell? ⟨g, 2, none⟩ = some (.slice T vs.length cT) ∧ y.cell? ⟨g, 3, none⟩ = some (.int .i64 sr) ∧ y.cell? ⟨g, 4, none⟩ = some (.int .i64 sd) ∧ y.cell? ⟨gg, 1, none⟩ = some (.slice (some ae) E.length cE) ∧ y.cell? (ae.add i) = some (.int .u32 (uz e)))) (by kernel_rfl) (HK.out _ (Below.refl _ _).drew) (fun hHeld => ?_)
  refine kY 0 hHeld ?_
  simp only [Act.put, k0, k1, k2]
  refine kY 1 hHeld ?_
  simp only [Act.put, k0, k1, k2]
  refine kY 2 hHeld ?_
  simp only [Act.put, k0, k1, k2]
  by_cases q21 : K = 1
  ·obtain ⟨d21, e21, f21⟩ := ceT q21
   have H21 := Lib.hid q21; clear q21; try simp only [d21, e21, f21]
   refine kY 3 hHeld ?_
   simp only [Act.put, k0, k1, k2]
   refine kY 4 hHeld ?_
   simp only [Act.put, k0, k1, k2]
   refine kY 5 hHeld ?_
   simp only [Act.put, k0, k1, k2]
   refine kY 6 hHeld ?_
   simp only [Act.put, k0, k1, k2]
   refine kY 7 hHeld ?_
   simp only [Act.put, k0, k1, k2]
   by_cases q26 : at_ = (i : Int)
   ·obtain ⟨d26, e26, f26⟩ := ceT q26
    have H26 := Lib.hid q26; clear q26; try simp only [d26, e26, f26]
    refine kY 8 hHeld ?_
    simp only [Act.put, k0, k1, k2]
    refine kY 9 hHeld ?_
    simp only [Act.put, k0, k1, k2]
    refine kY 10 hHeld ?_
    simp only [Act.put, k0, k1, k2]
    refine kY 11 hHeld ?_
    simp only [Act.put, k0, k1, k2]
    refine kY 12 hHeld ?_
    simp only [Act.put, k0, k1, k2]
    by_cases q31 : sr = 0
    ·obtain ⟨d31, e31, f31⟩ := ceT q31
     have H31 := Lib.hid q31; clear q31; try simp only [d31, e31, f31]
     refine kY 13 hHeld ?_
     simp only [Act.put, k0, k1, k2]
     refine kY 14 hHeld ?_
     simp only [Act.put, k0, k1, k2]
     refine kY 15 hHeld ?_
     simp only [Act.put, k0, k1, k2]
     refine kY 16 hHeld ?_
     simp only [Act.put, k0, k1, k2]
     refine kY 17 hHeld ?_
     simp only [Act.put, k0, k1, k2]
     by_cases q36 : sd = 0
     ·obtain ⟨d36, e36, f36⟩ := ceT q36
      have H36 := Lib.hid q36; clear q36; try simp only [d36, e36, f36]
      refine kY 18 hHeld ?_
      simp only [Act.put, k0, k1, k2]
      refine kY 19 hHeld ?_
      simp only [Act.put, k0, k1, k2]
      refine kY 20 hHeld ?_
      simp only [Act.put, k0, k1, k2]
      refine kY 21 hHeld ?_
      simp only [Act.put, k0, k1, k2]
      refine kY 22 hHeld ?_
      simp only [Act.put, k0, k1, k2]
      refine kY 23 hHeld ?_
      simp only [Act.put, k0, k1, k2]
      refine kY 24 hHeld ?_
      simp only [Act.put, k0, k1, k2]
      refine kY 25 hHeld ?_
      simp only [Act.put, k0, k1, k2]
      refine kY 26 hHeld ?_
      simp only [Act.put, k0, k1, k2]
      refine kC 27 rfl (by kernel_rfl) (fun K hK => ?_)
      go_simp
      go_at_call 74
      refine (HLI.out _).mono ?_
      rintro e2 wq ⟨v2, rfl, ho2, hbq⟩
      have hbq2 := bthen hHeld.1 hbq
      obtain ⟨A2, n2, rfl, _, _, hR2, _⟩ := Rd.of_own ho2
      clear ho2
      go_wp2_with fail
      refine hK.out _ _ (HK.out _ hbq2) (fun hNew => ?_)
      clear hK K hHeld; have hHeld := hNew; clear hNew
      try simp only [Act.put, k0, k1, k2]
      refine kC 28 rfl (by kernel_rfl) (fun K hK => ?_)
      go_simp
      go_at_call 13
      refine (HSI.out _ A2 n2 hHeld.1 hR2).mono ?_
      rintro e2 wq ⟨rfl, n3, rfl⟩
      have hbq3 := below_drewN hHeld.1 n3
      go_wp2_with fail
      refine hK.out _ _ (HK.out _ hbq3) (fun hNew => ?_)
      clear hK K hHeld; have hHeld := hNew; clear hNew
      try simp only [Act.put, k0, k1, k2]
      by_cases q47 : vs = lst e
      ·obtain ⟨d47, e47, f47⟩ := ceT q47
       have H47 := Lib.hid q47; clear q47; try simp only [d47, e47, f47]
       refine kY 29 hHeld ?_
       simp only [Act.put, k0, k1, k2]
       refine kY 30 hHeld ?_
       simp only [Act.put, k0, k1, k2]
       refine wpAnyH_done (by kernel_rfl) ?_ _
       have HR := Lib.hid HL.out
       go_wp2_with fail
       go_ret
       exact ⟨_, rfl, Lib.hid (by rw [HR.out]; simp [eq_true H21.out, eq_true H26.out, eq_true H31.out, eq_true H36.out, eq_true H47.out]), bthen hB1 hHeld.1⟩
      ·obtain ⟨d47, e47, f47⟩ := ceF q47
       have H47 := Lib.hid q47; clear q47; try simp only [d47, e47, f47]
       refine kY 29 hHeld ?_
       simp only [Act.put, k0, k1, k2]
       refine kY 30 hHeld ?_
       simp only [Act.put, k0, k1, k2]
       refine wpAnyH_done (by kernel_rfl) ?_ _
       have HR := Lib.hid HL.out
       go_wp2_with fail
       go_ret
       exact ⟨_, rfl, Lib.hid (by rw [HR.out]; simp [eq_true H21.out, eq_true H26.out, eq_true H31.out, eq_true H36.out, eq_false H47.out]), bthen hB1 hHeld.1⟩
     ·obtain ⟨d36, e36, f36⟩ := ceF q36
      have H36 := Lib.hid q36; clear q36; try simp only [d36, e36, f36]
      refine kY 18 hHeld ?_
      simp only [Act.put, k0, k1, k2]
      refine kY 19 hHeld ?_
      simp only [Act.put, k0, k1, k2]
      refine kN 2 [(20, 39), (21, 40), (22, 41), (23, 42), (24, 43), (25, 44), (26, 45), (27, 46), (28, 47)] rfl (by kernel_rfl) (fun _ _ _ _ h => h) hHeld ?_
      simp only [k3, k4, Act.put, k0, k1, k2]
      refine kY 29 hHeld ?_
      simp only [Act.put, k0, k1, k2]
      refine kY 30 hHeld ?_
      simp only [Act.put, k0, k1, k2]
      refine wpAnyH_done (by kernel_rfl) ?_ _
      have HR := Lib.hid HL.out
      go_wp2_with fail
      go_ret
      exact ⟨_, rfl, Lib.hid (by rw [HR.out]; simp [eq_true H21.out, eq_true H26.out, eq_true H31.out, eq_false H36.out]), bthen hB1 hHeld.1⟩
    ·obtain ⟨d31, e31, f31⟩ := ceF q31
     have H31 := Lib.hid q31; clear q31; try simp only [d31, e31, f31]
     refine kY 13 hHeld ?_
     simp only [Act.put, k0, k1, k2]
     refine kY 14 hHeld ?_
     simp only [Act.put, k0, k1, k2]
     refine kN 13 [(15, 34), (16, 35), (17, 36)] rfl (by kernel_rfl) (fun _ _ _ _ h => h) hHeld ?_
     simp only [k3, k4, Act.put, k0, k1, k2]
     refine kY 18 hHeld ?_
     simp only [Act.put, k0, k1, k2]
     refine kY 19 hHeld ?_
     simp only [Act.put, k0, k1, k2]
     refine kN 2 [(20, 39), (21, 40), (22, 41), (23, 42), (24, 43), (25, 44), (26, 45), (27, 46), (28, 47)] rfl (by kernel_rfl) (fun _ _ _ _ h => h) hHeld ?_
     simp only [k3, k4, Act.put, k0, k1, k2]
     refine kY 29 hHeld ?_
     simp only [Act.put, k0, k1, k2]
     refine kY 30 hHeld ?_
     simp only [Act.put, k0, k1, k2]
     refine wpAnyH_done (by kernel_rfl) ?_ _
     have HR := Lib.hid HL.out
     go_wp2_with fail
     go_ret
     exact ⟨_, rfl, Lib.hid (by rw [HR.out]; simp [eq_true H21.out, eq_true H26.out, eq_false H31.out]), bthen hB1 hHeld.1⟩
   ·obtain ⟨d26, e26, f26⟩ := ceF q26
    have H26 := Lib.hid q26; clear q26; try simp only [d26, e26, f26]
    refine kY 8 hHeld ?_
    simp only [Act.put, k0, k1, k2]
    refine kY 9 hHeld ?_
    simp only [Act.put, k0, k1, k2]
    refine kN 18 [(10, 29), (11, 30), (12, 31)] rfl (by kernel_rfl) (fun _ _ _ _ h => h) hHeld ?_
    simp only [k3, k4, Act.put, k0, k1, k2]
    refine kY 13 hHeld ?_
    simp only [Act.put, k0, k1, k2]
    refine kY 14 hHeld ?_
    simp only [Act.put, k0, k1, k2]
    refine kN 13 [(15, 34), (16, 35), (17, 36)] rfl (by kernel_rfl) (fun _ _ _ _ h => h) hHeld ?_
    simp only [k3, k4, Act.put, k0, k1, k2]
    refine kY 18 hHeld ?_
    simp only [Act.put, k0, k1, k2]
    refine kY 19 hHeld ?_
    simp only [Act.put, k0, k1, k2]
    refine kN 2 [(20, 39), (21, 40), (22, 41), (23, 42), (24, 43), (25, 44), (26, 45), (27, 46), (28, 47)] rfl (by kernel_rfl) (fun _ _ _ _ h => h) hHeld ?_
    simp only [k3, k4, Act.put, k0, k1, k2]
    refine kY 29 hHeld ?_
    simp only [Act.put, k0, k1, k2]
    refine kY 30 hHeld ?_
    simp only [Act.put, k0, k1, k2]
    refine wpAnyH_done (by kernel_rfl) ?_ _
    have HR := Lib.hid HL.out
    go_wp2_with fail
    go_ret
    exact ⟨_, rfl, Lib.hid (by rw [HR.out]; simp [eq_true H21.out, eq_false H26.out]), bthen hB1 hHeld.1⟩
  ·obtain ⟨d21, e21, f21⟩ := ceF q21
   have H21 := Lib.hid q21; clear q21; try simp only [d21, e21, f21]
   refine kY 3 hHeld ?_
   simp only [Act.put, k0, k1, k2]
   refine kN 23 [(4, 23), (5, 24), (6, 25), (7, 26)] rfl (by kernel_rfl) (fun _ _ _ _ h => h) hHeld ?_
   simp only [k3, k4, Act.put, k0, k1, k2]
   refine kY 8 hHeld ?_
   simp only [Act.put, k0, k1, k2]
   refine kY 9 hHeld ?_
   simp only [Act.put, k0, k1, k2]
   refine kN 18 [(10, 29), (11, 30), (12, 31)] rfl (by kernel_rfl) (fun _ _ _ _ h => h) hHeld ?_
   simp only [k3, k4, Act.put, k0, k1, k2]
   refine kY 13 hHeld ?_
   simp only [Act.put, k0, k1, k2]
   refine kY 14 hHeld ?_
   simp only [Act.put, k0, k1, k2]
   refine kN 13 [(15, 34), (16, 35), (17, 36)] rfl (by kernel_rfl) (fun _ _ _ _ h => h) hHeld ?_
   simp only [k3, k4, Act.put, k0, k1, k2]
   refine kY 18 hHeld ?_
   simp only [Act.put, k0, k1, k2]
   refine kY 19 hHeld ?_
   simp only [Act.put, k0, k1, k2]
   refine kN 2 [(20, 39), (21, 40), (22, 41), (23, 42), (24, 43), (25, 44), (26, 45), (27, 46), (28, 47)] rfl (by kernel_rfl) (fun _ _ _ _ h => h) hHeld ?_
   simp only [k3, k4, Act.put, k0, k1, k2]
   refine kY 29 hHeld ?_
   simp only [Act.put, k0, k1, k2]
   refine kY 30 hHeld ?_
   simp only [Act.put, k0, k1, k2]
   refine wpAnyH_done (by kernel_rfl) ?_ _
   have HR := Lib.hid HL.out
   go_wp2_with fail
   go_ret
   exact ⟨_, rfl, Lib.hid (by rw [HR.out]; simp [eq_false H21.out]), bthen hB1 hHeld.1⟩
 ·have HM : Hid (PP ↔ TrimOk N ⟨K, at_, vs, sr, sd, pr, tp⟩ ∨ MeetOk N ⟨K, at_, vs, sr, sd, pr, tp⟩) := Lib.hid (by rw [HP.out]; exact ⟨fun h => h.2 (by omega), fun h => ⟨fun c => absurd c hle, fun _ => h⟩⟩)
  have b2 : decide ((i : Int) < E.length) = false := decide_eq_false (by omega)
  have b2n : decide (i < E.length) = false := decide_eq_false hle
  clear HP hE1
  have NO : Hid (K ≠ 2 → K ≠ 3 → ¬ PP) := Lib.hid fun h1 h2 h => by
   rcases HM.out.1 h with q | q
   ·exact h1 q.1
   ·exact h2 q.1
  have NO2 : Hid (at_ ≠ 0 ∨ inN N sr = false → ¬ PP) := Lib.hid fun h c => by
   rcases HM.out.1 c with q | q <;> rcases h with h | h
   ·exact h q.2.1
   ·have := q.2.2.1; rw [show (⟨K, at_, vs, sr, sd, pr, tp⟩ : PNd).source = sr from rfl, h] at this; cases this
   ·exact h q.2.1
   ·have := q.2.2.1; rw [show (⟨K, at_, vs, sr, sd, pr, tp⟩ : PNd).source = sr from rfl, h] at this; cases this
  by_cases h23 : K = 2 ∨ K = 3
  ·by_cases hat : at_ = 0
   ·have HIS := Lib.hid (r18is_any AV AH (some ad) AT nv cv nh ch N.length cN nt ct rt sr w1)
    cases hin : inN N sr
    ·have HQ := NO2.out (.inr hin)
     rw [show (decide (0 ≤ sr) && decide (sr < (N.length : Int))) = false from hin] at HIS
     clear NO NO2 HM HZ hin hN1
     rcases h23 with h | h <;> subst h <;> subst hat
     all_goals
      go_wp2_with fail
      refine HIS.out.mono ?_
      rintro e2 w2 ⟨rfl, hb2⟩
      go_wp2_with fail
      go_ret
      exact ⟨_, rfl, Lib.hid ⟨fun c => Bool.noConfusion c, fun c => absurd c HQ⟩, bthen hB1 hb2⟩
    ·obtain ⟨s, hs, hsN⟩ := inN_iff.1 hin
     subst hs
     subst hat
     rw [show (decide (0 ≤ (s : Int)) && decide ((s : Int) < (N.length : Int))) = true from hin] at HIS
     obtain ⟨u, hu⟩ : ∃ u, (nd N s).vars = u := ⟨_, rfl⟩
     have hvr : vrs N (s : Int) = u := by unfold vrs; rw [Int.toNat_natCast]; exact hu
     have hzu : u.length ≤ 35184372087808 := by rw [← hu]; exact HZ.out s hsN
     have s1 : (0 : Int) ≤ s := by omega
     have s2 : (s : Int) < N.length := by omega
     clear NO NO2
     rcases h23 with h | h <;> subst h
     ·have HT : Hid (PP ↔ sd = 0 ∧ partB vs u = true ∧ vs.length < u.length) := Lib.hid (by
       rw [HM.out]
       constructor
       ·rintro (⟨_, _, _, q1, q2, q3⟩ | q)
        ·exact ⟨q1, hvr ▸ q2, hvr ▸ q3⟩
        ·exact absurd (show (2 : Int) = 3 from q.1) (by decide)
       ·rintro ⟨q1, q2, q3⟩
        exact .inl ⟨rfl, rfl, hin, q1, hvr.symm ▸ q2, hvr.symm ▸ q3⟩)
      clear HM hin
      go_wp2_with fail
      refine HIS.out.mono ?_
      rintro e2 w2 ⟨rfl, hb2⟩
      have hB2 := bthen hB1 hb2
      obtain ⟨ad2, hA2, _, T2, cT2, hvu, _, _, d2, _⟩ := (hN1.later hb2).cells hsN
      injection hA2 with hA2
      subst hA2
      rw [hu] at d2 hvu
      have z0 : w2.cell? ⟨g, 0, none⟩ = some (.int .i64 2) := (hX1.later hb2).cell 0
      have z2 : w2.cell? ⟨g, 2, none⟩ = some (.slice T vs.length cT) := (hX1.later hb2).cell 2
      have z3 : w2.cell? ⟨g, 3, none⟩ = some (.int .i64 s) := (hX1.later hb2).cell 3
      have z4 : w2.cell? ⟨g, 4, none⟩ = some (.int .i64 sd) := (hX1.later hb2).cell 4
      have r2 : w2.cell? ⟨w.heap.size, 2, none⟩ = some (.slice (some ad) N.length cN) := Row.cell (Row.later hP1 hb2) 2
      have HPA := Lib.hid (r18part_any T T2 vs u cT cT2 w2 hzi hzu (hvT1.later hb2) hvu)
      clear HIS x0 x1 x2 x3 x4 y1 p0 p1 p2 p3 p4 hN1 hX1 hG1 hP1 hvT1 hb2 hB1 HZ hu hvr hvu
      by_cases hsd : sd = 0
      ·subst hsd
       cases hpb : partB vs u
       ·have HQ : Hid (¬ PP) := Lib.hid fun c => by have := (HT.out.1 c).2.1; rw [hpb] at this; cases this
        rw [hpb] at HPA
        clear HT hpb
        go_wp2_with fail
        refine HPA.out.mono ?_
        rintro e3 w3 ⟨rfl, hb3⟩
        go_wp2_with fail
        go_ret
        exact ⟨_, rfl, Lib.hid ⟨fun c => Bool.noConfusion c, fun c => absurd c HQ.out⟩, bthen hB2 hb3⟩
       ·have HQ : Hid (PP ↔ vs.length < u.length) := Lib.hid (by rw [HT.out, hpb]; simp)
        rw [hpb] at HPA
        clear HT hpb
        go_wp2_with fail
        refine HPA.out.mono ?_
        rintro e3 w3 ⟨rfl, hb3⟩
        have z2' : w3.cell? ⟨g, 2, none⟩ = some (.slice T vs.length cT) := (hb3.cell (World.block_lt_of_cell? _ _ z2)).trans z2
        by_cases hlu : vs.length < u.length
        ·have g1 : decide ((vs.length : Int) < u.length) = true := decide_eq_true (by omega)
         have g2 : decide (vs.length < u.length) = true := decide_eq_true hlu
         have HR := Lib.hid (HQ.out.2 hlu)
         clear HQ hlu
         go_wp2_with fail
         go_ret
         exact ⟨_, rfl, Lib.hid ⟨fun _ => HR.out, fun _ => by first | rfl | simp [g2]⟩, bthen hB2 hb3⟩
        ·have g1 : decide ((vs.length : Int) < u.length) = false := decide_eq_false (by omega)
         have g2 : decide (vs.length < u.length) = false := decide_eq_false hlu
         have HR : Hid (¬ PP) := Lib.hid fun c => hlu (HQ.out.1 c)
         clear HQ hlu
         go_wp2_with fail
         go_ret
         exact ⟨_, rfl, Lib.hid ⟨fun c => by first | exact Bool.noConfusion c | simp [g2] at c, fun c => absurd c HR.out⟩, bthen hB2 hb3⟩
      ·have HQ : Hid (¬ PP) := Lib.hid fun c => hsd (HT.out.1 c).1
       obtain ⟨f1, f2, f3⟩ := ceF hsd
       clear HT HPA hsd
       go_wp2_with fail
       go_ret
       exact ⟨_, rfl, Lib.hid ⟨fun c => Bool.noConfusion c, fun c => absurd c HQ.out⟩, hB2⟩
     ·have HT : Hid (PP ↔ inN N sd = true ∧ vs = u ∧ partB vs vs = true ∧ partB (vrs N sd) vs = true) := Lib.hid (by
       rw [HM.out]
       constructor
       ·rintro (q | ⟨_, _, _, q1, q2, q3, q4⟩)
        ·exact absurd (show (3 : Int) = 2 from q.1) (by decide)
        ·exact ⟨q1, (show vs = vrs N (s : Int) from q2).trans hvr, q3, q4⟩
       ·rintro ⟨q1, q2, q3, q4⟩
        exact .inr ⟨rfl, rfl, hin, q1, q2.trans hvr.symm, q3, q4⟩)
      clear HM hin
      go_wp2_with fail
      refine HIS.out.mono ?_
      rintro e2 w2 ⟨rfl, hb2⟩
      have hB2 := bthen hB1 hb2
      have hN2 := hN1.later hb2
      obtain ⟨ad2, hA2, hal2, T2, cT2, hvu, _, _, d2, _⟩ := hN2.cells hsN
      injection hA2 with hA2
      subst hA2
      rw [hu] at d2 hvu
      have hX2 := hX1.later hb2
      have hP2 := Row.later hP1 hb2
      have z0 : w2.cell? ⟨g, 0, none⟩ = some (.int .i64 3) := hX2.cell 0
      have z3 : w2.cell? ⟨g, 3, none⟩ = some (.int .i64 s) := hX2.cell 3
      have r2 : w2.cell? ⟨w.heap.size, 2, none⟩ = some (.slice (some ad) N.length cN) := Row.cell hP2 2
      have HSI := Lib.hid (fun (y : World) hy => sameInts_dec T T2 vs u cT cT2 y hzi hzu ((hvT1.later hb2).later hy) (hvu.later hy))
      obtain ⟨b1, hb1⟩ : ∃ b, partB vs vs = b := ⟨_, rfl⟩
      have HB1 : Hid (b1 = true ↔ partB vs vs = true) := Lib.hid (by rw [hb1])
      have HPV := Lib.hid (fun (y : World) hy => r18part_any T T vs vs cT cT y hzi hzi ((hvT1.later hb2).later hy) ((hvT1.later hb2).later hy))
      rw [hb1] at HPV
      have HI2 := Lib.hid (fun (y : World) => r18is_any AV AH (some ad) AT nv cv nh ch N.length cN nt ct rt sd y)
      have hvT2 := hvT1.later hb2
      clear HIS x0 x1 x2 x3 x4 y1 p0 p1 p2 p3 p4 hN1 hX1 hG1 hP1 hvT1 hb2 hB1 hu hvr hvu hb1
      cases hin2 : inN N sd
      ·have HQ : Hid (¬ PP) := Lib.hid fun c => by have := (HT.out.1 c).1; rw [hin2] at this; cases this
       have HI3 : Hid (∀ y : World, Calls Tryz.prog 40 #[.agg #[.slice AV nv cv, .slice AH nh ch, .slice (some ad) N.length cN, .int .i64 rt, .slice AT nt ct], .int .i64 sd] y fun e w' => e = .returned (.bool false) ∧ Below y.heap.size y w') := Lib.hid fun y => by
        have := HI2.out y
        rwa [show (decide (0 ≤ sd) && decide (sd < (N.length : Int))) = false from hin2] at this
       have HK : Hid (∀ y, Below w2.heap.size w2 y → Below w2.heap.size w2 y ∧ y.cell? ⟨g, 4, none⟩ = some (.int .i64 sd) ∧ y.cell? ⟨w.heap.size, 0, none⟩ = some (.slice AV nv cv) ∧ y.cell? ⟨w.heap.size, 1, none⟩ = some (.slice AH nh ch) ∧ y.cell? ⟨w.heap.size, 2, none⟩ = some (.slice (some ad) N.length cN) ∧ y.cell? ⟨w.heap.size, 3, none⟩ = some (.int .i64 rt) ∧ y.cell? ⟨w.heap.size, 4, none⟩ = some (.slice AT nt ct)) := Lib.hid fun y hy => ⟨hy, (hX2.later hy).cell 4, Row.cell (Row.later hP2 hy) 0, Row.cell (Row.later hP2 hy) 1, Row.cell (Row.later hP2 hy) 2, Row.cell (Row.later hP2 hy) 3, Row.cell (Row.later hP2 hy) 4⟩
       clear HT HI2 HSI HPV HB1 hX2 hP2 hN2 hin2 hvT2 HZ
       go_upto_region 9 with fail
       refine wp_region_held_drew (S := (fun y : World => Below w2.heap.size w2 y ∧ y.cell? ⟨g, 4, none⟩ = some (.int .i64 sd) ∧ y.cell? ⟨w.heap.size, 0, none⟩ = some (.slice AV nv cv) ∧ y.cell? ⟨w.heap.size, 1, none⟩ = some (.slice AH nh ch) ∧ y.cell? ⟨w.heap.size, 2, none⟩ = some (.slice (some ad) N.length cN) ∧ y.cell? ⟨w.heap.size, 3, none⟩ = some (.int .i64 rt) ∧ y.cell? ⟨w.heap.size, 4, none⟩ = some (.slice AT nt ct))) (by kernel_rfl) (HK.out _ (Below.refl _ _).drew) (fun hHeld => ?_)
       refine kY 0 hHeld ?_
       simp only [Act.put, k0, k1, k2]
       refine kY 1 hHeld ?_
       simp only [Act.put, k0, k1, k2]
       refine kY 2 hHeld ?_
       simp only [Act.put, k0, k1, k2]
       refine kC 3 rfl (by kernel_rfl) (fun K hK => ?_)
       go_simp
       go_at_call 40
       refine (HI3.out _).mono ?_
       rintro e2 wq ⟨rfl, hbq⟩
       have hbq2 := bthen hHeld.1 hbq
       go_wp2_with fail
       refine hK.out _ _ (HK.out _ hbq2) (fun hNew => ?_)
       clear hK K hHeld; have hHeld := hNew; clear hNew
       try simp only [Act.put, k0, k1, k2]
       refine kY 4 hHeld ?_
       simp only [Act.put, k0, k1, k2]
       refine kN 21 [(5, 101), (6, 102), (7, 103), (8, 104)] rfl (by kernel_rfl) (fun _ _ _ _ h => h) hHeld ?_
       simp only [k3, k4, Act.put, k0, k1, k2]
       refine kY 9 hHeld ?_
       simp only [Act.put, k0, k1, k2]
       refine kY 10 hHeld ?_
       simp only [Act.put, k0, k1, k2]
       refine kN 14 [(11, 107), (12, 108), (13, 109), (14, 110), (15, 111)] rfl (by kernel_rfl) (fun _ _ _ _ h => h) hHeld ?_
       simp only [k3, k4, Act.put, k0, k1, k2]
       refine kY 16 hHeld ?_
       simp only [Act.put, k0, k1, k2]
       refine kY 17 hHeld ?_
       simp only [Act.put, k0, k1, k2]
       refine kN 2 [(18, 114), (19, 115), (20, 116), (21, 117), (22, 118), (23, 119), (24, 120), (25, 121), (26, 122), (27, 123)] rfl (by kernel_rfl) (fun _ _ _ _ h => h) hHeld ?_
       simp only [k3, k4, Act.put, k0, k1, k2]
       refine kY 28 hHeld ?_
       simp only [Act.put, k0, k1, k2]
       refine kY 29 hHeld ?_
       simp only [Act.put, k0, k1, k2]
       refine wpAnyH_done (by kernel_rfl) ?_ _
       go_wp2_with fail
       go_ret
       exact ⟨_, rfl, Lib.hid ⟨fun c => Bool.noConfusion c, fun c => absurd c HQ.out⟩, bthen hB2 hHeld.1⟩
      ·obtain ⟨m, hm, hmN⟩ := inN_iff.1 hin2
       subst hm
       have HI3 : Hid (∀ y : World, Calls Tryz.prog 40 #[.agg #[.slice AV nv cv, .slice AH nh ch, .slice (some ad) N.length cN, .int .i64 rt, .slice AT nt ct], .int .i64 m] y fun e w' => e = .returned (.bool true) ∧ Below y.heap.size y w') := Lib.hid fun y => by
        have := HI2.out y
        rwa [show (decide (0 ≤ (m : Int)) && decide ((m : Int) < (N.length : Int))) = true from hin2] at this
       obtain ⟨ad3, hA3, hal3, T3, cT3, hv3, _, _, e2', _⟩ := hN2.cells hmN
       injection hA3 with hA3
       subst hA3
       have hz3 := HZ.out m hmN
       have HQ : Hid (PP ↔ vs = u ∧ partB vs vs = true ∧ partB (nd N m).vars vs = true) := Lib.hid (by
        rw [HT.out, hin2]
        unfold vrs
        rw [Int.toNat_natCast]; simp)
       generalize (nd N m).vars = um at e2' hv3 hz3 HQ
       obtain ⟨b2, hb2⟩ : ∃ b, partB um vs = b := ⟨_, rfl⟩
       have HB2 : Hid (b2 = true ↔ partB um vs = true) := Lib.hid (by rw [hb2])
       have HPU := Lib.hid (fun (y : World) hy => r18part_any T3 T um vs cT3 cT y hz3 hzi (hv3.later hy) (hvT2.later hy))
       rw [hb2] at HPU
       have HK : Hid (∀ y, Below w2.heap.size w2 y → Below w2.heap.size w2 y ∧ y.cell? ⟨g, 2, none⟩ = some (.slice T vs.length cT) ∧ y.cell? ⟨g, 4, none⟩ = some (.int .i64 m) ∧ y.cell? ⟨w.heap.size, 0, none⟩ = some (.slice AV nv cv) ∧ y.cell? ⟨w.heap.size, 1, none⟩ = some (.slice AH nh ch) ∧ y.cell? ⟨w.heap.size, 2, none⟩ = some (.slice (some ad) N.length cN) ∧ y.cell? ⟨w.heap.size, 3, none⟩ = some (.int .i64 rt) ∧ y.cell? ⟨w.heap.size, 4, none⟩ = some (.slice AT nt ct) ∧ y.cell? ⟨(ad.add (m * 7)).block, (ad.add (m * 7)).off + 2, none⟩ = some (.slice T3 um.length cT3)) := Lib.hid fun y hy => ⟨hy, (hX2.later hy).cell 2, (hX2.later hy).cell 4, Row.cell (Row.later hP2 hy) 0, Row.cell (Row.later hP2 hy) 1, Row.cell (Row.later hP2 hy) 2, Row.cell (Row.later hP2 hy) 3, Row.cell (Row.later hP2 hy) 4, (hy.cell (by rw [block_add]; exact hal3)).trans e2'⟩
       have m1 : (0 : Int) ≤ m := by omega
       have m2 : (m : Int) < N.length := by omega
       clear HT HI2 hX2 hP2 hN2 hin2 hvT2 HZ e2' hv3 hz3 hb2
       go_upto_region 9 with fail
       refine wp_region_held_drew (S := (fun y : World => Below w2.heap.size w2 y ∧ y.cell? ⟨g, 2, none⟩ = some (.slice T vs.length cT) ∧ y.cell? ⟨g, 4, none⟩ = some (.int .i64 m) ∧ y.cell? ⟨w.heap.size, 0, none⟩ = some (.slice AV nv cv) ∧ y.cell? ⟨w.heap.size, 1, none⟩ = some (.slice AH nh ch) ∧ y.cell? ⟨w.heap.size, 2, none⟩ = some (.slice (some ad) N.length cN) ∧ y.cell? ⟨w.heap.size, 3, none⟩ = some (.int .i64 rt) ∧ y.cell? ⟨w.heap.size, 4, none⟩ = some (.slice AT nt ct) ∧ y.cell? ⟨(ad.add (m * 7)).block, (ad.add (m * 7)).off + 2, none⟩ = some (.slice T3 um.length cT3))) (by kernel_rfl) (HK.out _ (Below.refl _ _).drew) (fun hHeld => ?_)
       refine kY 0 hHeld ?_
       simp only [Act.put, k0, k1, k2]
       refine kY 1 hHeld ?_
       simp only [Act.put, k0, k1, k2]
       refine kY 2 hHeld ?_
       simp only [Act.put, k0, k1, k2]
       refine kC 3 rfl (by kernel_rfl) (fun K hK => ?_)
       go_simp
       go_at_call 40
       refine (HI3.out _).mono ?_
       rintro e2 wq ⟨rfl, hbq⟩
       have hbq2 := bthen hHeld.1 hbq
       go_wp2_with fail
       refine hK.out _ _ (HK.out _ hbq2) (fun hNew => ?_)
       clear hK K hHeld; have hHeld := hNew; clear hNew
       try simp only [Act.put, k0, k1, k2]
       refine kY 4 hHeld ?_
       simp only [Act.put, k0, k1, k2]
       refine kY 5 hHeld ?_
       simp only [Act.put, k0, k1, k2]
       refine kY 6 hHeld ?_
       simp only [Act.put, k0, k1, k2]
       refine kY 7 hHeld ?_
       simp only [Act.put, k0, k1, k2]
       refine kC 8 rfl (by kernel_rfl) (fun K hK => ?_)
       go_simp
       go_at_call 13
       refine (HSI.out _ hHeld.1).mono ?_
       rintro e2 wq ⟨rfl, n3, rfl⟩
       have hbq3 := below_drewN hHeld.1 n3
       go_wp2_with fail
       refine hK.out _ _ (HK.out _ hbq3) (fun hNew => ?_)
       clear hK K hHeld; have hHeld := hNew; clear hNew
       try simp only [Act.put, k0, k1, k2]
       by_cases q104 : vs = u
       ·obtain ⟨d104, e104, f104⟩ := ceT q104
        have H104 := Lib.hid q104; clear q104; try simp only [d104, e104, f104]
        refine kY 9 hHeld ?_
        simp only [Act.put, k0, k1, k2]
        refine kY 10 hHeld ?_
        simp only [Act.put, k0, k1, k2]
        refine kY 11 hHeld ?_
        simp only [Act.put, k0, k1, k2]
        refine kY 12 hHeld ?_
        simp only [Act.put, k0, k1, k2]
        refine kY 13 hHeld ?_
        simp only [Act.put, k0, k1, k2]
        refine kY 14 hHeld ?_
        simp only [Act.put, k0, k1, k2]
        refine kC 15 rfl (by kernel_rfl) (fun K hK => ?_)
        go_simp
        go_at_call 75
        refine (HPV.out _ hHeld.1).mono ?_
        rintro e2 wq ⟨rfl, hbq⟩
        have hbq4 := bthen hHeld.1 hbq
        go_wp2_with fail
        refine hK.out _ _ (HK.out _ hbq4) (fun hNew => ?_)
        clear hK K hHeld; have hHeld := hNew; clear hNew
        try simp only [Act.put, k0, k1, k2]
        cases b1
        ·have H111 := hidF HB1; clear HB1
         refine kY 16 hHeld ?_
         simp only [Act.put, k0, k1, k2]
         refine kY 17 hHeld ?_
         simp only [Act.put, k0, k1, k2]
         refine kN 2 [(18, 114), (19, 115), (20, 116), (21, 117), (22, 118), (23, 119), (24, 120), (25, 121), (26, 122), (27, 123)] rfl (by kernel_rfl) (fun _ _ _ _ h => h) hHeld ?_
         simp only [k3, k4, Act.put, k0, k1, k2]
         refine kY 28 hHeld ?_
         simp only [Act.put, k0, k1, k2]
         refine kY 29 hHeld ?_
         simp only [Act.put, k0, k1, k2]
         refine wpAnyH_done (by kernel_rfl) ?_ _
         have HR := Lib.hid HQ.out
         go_wp2_with fail
         go_ret
         exact ⟨_, rfl, Lib.hid (by rw [HR.out]; simp [eq_true H104.out, eq_false H111.out]), bthen hB2 hHeld.1⟩
        ·have H111 := hidT HB1; clear HB1
         refine kY 16 hHeld ?_
         simp only [Act.put, k0, k1, k2]
         refine kY 17 hHeld ?_
         simp only [Act.put, k0, k1, k2]
         refine kY 18 hHeld ?_
         simp only [Act.put, k0, k1, k2]
         refine kY 19 hHeld ?_
         simp only [Act.put, k0, k1, k2]
         refine kY 20 hHeld ?_
         simp only [Act.put, k0, k1, k2]
         refine kY 21 hHeld ?_
         simp only [Act.put, k0, k1, k2]
         refine kY 22 hHeld ?_
         simp only [Act.put, k0, k1, k2]
         refine kY 23 hHeld ?_
         simp only [Act.put, k0, k1, k2]
         refine kY 24 hHeld ?_
         simp only [Act.put, k0, k1, k2]
         refine kY 25 hHeld ?_
         simp only [Act.put, k0, k1, k2]
         refine kY 26 hHeld ?_
         simp only [Act.put, k0, k1, k2]
         refine kC 27 rfl (by kernel_rfl) (fun K hK => ?_)
         go_simp
         go_at_call 75
         refine (HPU.out _ hHeld.1).mono ?_
         rintro e2 wq ⟨rfl, hbq⟩
         have hbq5 := bthen hHeld.1 hbq
         go_wp2_with fail
         refine hK.out _ _ (HK.out _ hbq5) (fun hNew => ?_)
         clear hK K hHeld; have hHeld := hNew; clear hNew
         try simp only [Act.put, k0, k1, k2]
         cases b2
         ·have H123 := hidF HB2; clear HB2
          refine kY 28 hHeld ?_
          simp only [Act.put, k0, k1, k2]
          refine kY 29 hHeld ?_
          simp only [Act.put, k0, k1, k2]
          refine wpAnyH_done (by kernel_rfl) ?_ _
          have HR := Lib.hid HQ.out
          go_wp2_with fail
          go_ret
          exact ⟨_, rfl, Lib.hid (by rw [HR.out]; simp [eq_true H104.out, eq_true H111.out, eq_false H123.out]), bthen hB2 hHeld.1⟩
         ·have H123 := hidT HB2; clear HB2
          refine kY 28 hHeld ?_
          simp only [Act.put, k0, k1, k2]
          refine kY 29 hHeld ?_
          simp only [Act.put, k0, k1, k2]
          refine wpAnyH_done (by kernel_rfl) ?_ _
          have HR := Lib.hid HQ.out
          go_wp2_with fail
          go_ret
          exact ⟨_, rfl, Lib.hid (by rw [HR.out]; simp [eq_true H104.out, eq_true H111.out, eq_true H123.out]), bthen hB2 hHeld.1⟩
       ·obtain ⟨d104, e104, f104⟩ := ceF q104
        have H104 := Lib.hid q104; clear q104; try simp only [d104, e104, f104]
        refine kY 9 hHeld ?_
        simp only [Act.put, k0, k1, k2]
        refine kY 10 hHeld ?_
        simp only [Act.put, k0, k1, k2]
        refine kN 14 [(11, 107), (12, 108), (13, 109), (14, 110), (15, 111)] rfl (by kernel_rfl) (fun _ _ _ _ h => h) hHeld ?_
        simp only [k3, k4, Act.put, k0, k1, k2]
        refine kY 16 hHeld ?_
        simp only [Act.put, k0, k1, k2]
        refine kY 17 hHeld ?_
        simp only [Act.put, k0, k1, k2]
        refine kN 2 [(18, 114), (19, 115), (20, 116), (21, 117), (22, 118), (23, 119), (24, 120), (25, 121), (26, 122), (27, 123)] rfl (by kernel_rfl) (fun _ _ _ _ h => h) hHeld ?_
        simp only [k3, k4, Act.put, k0, k1, k2]
        refine kY 28 hHeld ?_
        simp only [Act.put, k0, k1, k2]
        refine kY 29 hHeld ?_
        simp only [Act.put, k0, k1, k2]
        refine wpAnyH_done (by kernel_rfl) ?_ _
        have HR := Lib.hid HQ.out
        go_wp2_with fail
        go_ret
        exact ⟨_, rfl, Lib.hid (by rw [HR.out]; simp [eq_false H104.out]), bthen hB2 hHeld.1⟩
   ·have HQ := NO2.out (.inl hat)
    obtain ⟨d1, d2, d3⟩ := ceF hat
    clear NO NO2 HM HZ hat hN1
    rcases h23 with h | h <;> subst h
    all_goals
     go_wp2_with fail
     go_ret
     exact ⟨_, rfl, Lib.hid ⟨fun c => Bool.noConfusion c, fun c => absurd c HQ⟩, hB1⟩
  ·have HQ := NO.out (fun c => h23 (.inl c)) fun c => h23 (.inr c)
   obtain ⟨d1, d2, d3⟩ := ceF (fun c => h23 (.inl c) : ¬ K = 2)
   obtain ⟨e1, e2, e3⟩ := ceF (fun c => h23 (.inr c) : ¬ K = 3)
   clear NO NO2 HM HZ h23 hN1
   go_wp2_with fail
   go_ret
   exact ⟨_, rfl, Lib.hid ⟨fun c => Bool.noConfusion c, fun c => absurd c HQ⟩, hB1⟩
end Go.Proofs.YtdemmjofggemhaaGreatDoor
