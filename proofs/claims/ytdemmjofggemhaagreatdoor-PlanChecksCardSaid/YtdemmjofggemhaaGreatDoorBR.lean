/- Several texts in one: R18List R18Step R18Law R18Mem R18StepQ R18Order. -/
import Derived.Test.YtdemmjofggemhaaGreatDoorPList
import Derived.Test.YtdemmjofggemhaaGreatDoorPWith
import Derived.Test.YtdemmjofggemhaaGreatDoorBO
import Derived.Test.YtdemmjofggemhaaGreatDoorPPlan
import Derived.Test.YtdemmjofggemhaaGreatDoorBK
import Derived.Test.YtdemmjofggemhaaGreatDoorBG
import Derived.Test.YtdemmjofggemhaaGreatDoorPOrder
/- osierref18.List and all: the contracts. -/
namespace Go.Proofs.YtdemmjofggemhaaGreatDoor
open Go.RowKit

def lstTo (x : BitVec 32) (k : Nat) : List Int := ((List.range k).filter fun v => x.getLsbD v).map Int.ofNat
theorem lstTo_yes {x : BitVec 32} {k : Nat} (h : x.getLsbD k = true) : lstTo x (k + 1) = lstTo x k ++ [(k : Int)] := by
  unfold lstTo
  rw [List.range_succ, List.filter_append, List.map_append]
  simp [h]
theorem lstTo_no {x : BitVec 32} {k : Nat} (h : x.getLsbD k = false) : lstTo x (k + 1) = lstTo x k := by
  unfold lstTo
  rw [List.range_succ, List.filter_append, List.map_append]
  simp [h]
theorem lstTo_len (x : BitVec 32) (k : Nat) : (lstTo x k).length ≤ k := by
  unfold lstTo
  rw [List.length_map]
  have := List.length_filter_le (fun v => x.getLsbD v) (List.range k)
  rwa [List.length_range] at this
theorem lstTo_all (x : BitVec 32) : lstTo x 32 = lst x := rfl
set_option maxRecDepth 100000 in
theorem r18list_any (x : BitVec 32) (w : World) :
    Calls Tryz.prog 74 #[.int .u32 (uz x)] w fun e w' => ∃ v, e = .returned v ∧ w'.ownsRow w.heap.size 3 1 v (lst x).length (is (lst x)) ∧ Below w.heap.size w w' := by
  go_enter Tryz.func74, Tryz.ntmps74
  go_wp2_with fail
  go_loopw [3, 4] (fun v i wr => ∃ k : Nat, k ≤ 32 ∧ i = .int .i64 k ∧ wr.ownsRow w.heap.size 3 1 v (lstTo x k).length (is (lstTo x k)) ∧ Below w.heap.size w wr) (fun _ i _ => 32 - (intOf i).toNat)
  case atStart => exact ⟨0, Nat.zero_le _, rfl, World.ownsRow_nil _ _ _ _, Below.refl _ _⟩
  case round =>
    obtain ⟨k, hk, rfl, hown, hb⟩ := hrel
    by_cases hlt : k < 32
    · have g1 : decide ((k : Int) < 32) = true := decide_eq_true (by omega)
      have g1n : decide (k < 32) = true := decide_eq_true hlt
      have HI := Lib.hid (in_any x (k : Int) wr)
      rw [inB_nat] at HI
      have hl := lstTo_len x k
      have HY := Lib.hid (lstTo_yes (x := x) (k := k))
      have HN := Lib.hid (lstTo_no (x := x) (k := k))
      obtain ⟨R, hR⟩ : ∃ R, lstTo x (k + 1) = R := ⟨_, rfl⟩
      rw [hR] at HY HN
      have HR := Lib.hid hR
      clear hR
      generalize lstTo x k = Z at hown hl HY HN
      cases hx : x.getLsbD k
      · have hZ := HN.out hx
        rw [hx] at HI
        clear HY HN hx
        go_wp2_with fail
        refine HI.out.mono ?_
        rintro e w1 ⟨rfl, rfl⟩
        go_wp2_with fail
        go_roundw
        case rel => exact ⟨k + 1, by omega, by go_num, by rw [HR.out, hZ]; exact hown, hb⟩
        case measure => simp [intOf]; omega
      · have hZ := HY.out hx
        rw [hx] at HI
        clear HY HN hx
        go_wp2_with fail
        refine HI.out.mono ?_
        rintro e w1 ⟨rfl, rfl⟩
        go_wp2_with (at_builtin; refine app_int rfl (.tmp 12) (.tmp 14) rfl w.heap.size _ _ Z (k : Int) rfl rfl hown (by omega) hb.size ?_)
        intro v2 w2 hown2 hb2
        go_wp2_with fail
        go_roundw
        case rel => exact ⟨k + 1, by omega, by go_num, by rw [HR.out, hZ, List.length_append]; exact hown2, hb.trans hb2⟩
        case measure => simp [intOf]; omega
    · obtain rfl : k = 32 := by omega
      rw [lstTo_all] at hown
      go_wp2_with fail
      go_ret
      exact ⟨_, rfl, hown, hb⟩
end Go.Proofs.YtdemmjofggemhaaGreatDoor

/- osierref18.step: a node for a step; the contract. -/
namespace Go.Proofs.YtdemmjofggemhaaGreatDoor
open Go.RowKit

section
variable {wr : World} {ops : Array Oper} {rest : List Oper} {o : Oper} {a : Act} {Q : Exit → Act → World → Prop}
end
end Go.Proofs.YtdemmjofggemhaaGreatDoor

/- osierref18.Make, plain: the removal's steps one by one, the nodes that they make, and how their tops and parents are told. No program in sight. -/
namespace Go.Proofs.YtdemmjofggemhaaGreatDoor

/-- A node before the parents are told. -/
def zp (n : PNd) : PNd := { n with parent := 0 }
/-! ### Nodes told by a function -/
def tabN (n : Nat) (f : Nat → PNd) : List PNd := (List.range n).map f
@[simp] theorem tabN_length (n : Nat) (f : Nat → PNd) : (tabN n f).length = n := by simp [tabN]
theorem tabN_at {n : Nat} (f : Nat → PNd) {i : Nat} (h : i < n) : nd (tabN n f) i = f i := nd_map f h
theorem tabN_ext {n : Nat} {f g : Nat → PNd} (h : ∀ i, i < n → f i = g i) : tabN n f = tabN n g := List.map_congr_left fun i hi => h i (List.mem_range.1 hi)
theorem tabN_self (N : List PNd) : tabN N.length (nd N) = N := by
  apply List.ext_getElem
  · simp
  · intro i h1 h2
    simp only [tabN, List.getElem_map, List.getElem_range]
    exact (nd_eq N i h2).symm
theorem nd_map_zp (N : List PNd) {i : Nat} (h : i < N.length) : nd (N.map zp) i = zp (nd N i) := by simp [nd, h]
/-- The nodes with their tops so far, no parents yet. -/
def topz (N : List PNd) (T : List Int) : List PNd := tabN N.length fun j => { zp (nd N j) with top := decide ((j : Int) ∈ T) }
@[simp] theorem topz_length (N : List PNd) (T : List Int) : (topz N T).length = N.length := by simp [topz]
theorem topz_nil (N : List PNd) (h : ∀ i, i < N.length → (nd N i).top = false) : N.map zp = topz N [] := by
  rw [topz, ← tabN_self (N.map zp), List.length_map]
  refine tabN_ext fun i hi => ?_
  rw [nd_map_zp N hi]
  have := h i hi
  simp [zp, this]
/-! ### The tops and the parents -/
/-- A node when all is told. -/
def finN (N : List PNd) (tp : Nat → Bool) (m : Nat) : PNd := { nd N m with top := tp m, parent := parN N m N.length }
/-- The nodes when the first i have been told all, and the i-th's parent as far as j. -/
def hungTo (N : List PNd) (T : List Int) (tp : Nat → Bool) (i : Nat) : List PNd := tabN N.length fun m => if m < i then finN N tp m else { zp (nd N m) with top := decide ((m : Int) ∈ T) }
def hungAt (N : List PNd) (T : List Int) (tp : Nat → Bool) (i j : Nat) : List PNd := tabN N.length fun m => if m < i then finN N tp m else if m = i then { nd N m with top := tp m, parent := parN N m j } else { zp (nd N m) with top := decide ((m : Int) ∈ T) }
@[simp] theorem hungTo_length (N : List PNd) (T : List Int) (tp : Nat → Bool) (i : Nat) : (hungTo N T tp i).length = N.length := by simp [hungTo]
@[simp] theorem hungAt_length (N : List PNd) (T : List Int) (tp : Nat → Bool) (i j : Nat) : (hungAt N T tp i j).length = N.length := by simp [hungAt]
section
variable (N : List PNd) (T : List Int) (tp : Nat → Bool)
end
section
variable {E : List (BitVec 32)} {head : BitVec 32} {n : Nat}
end
end Go.Proofs.YtdemmjofggemhaaGreatDoor

/- osierref18.Make: its plan in memory, as it grows. -/
namespace Go.Proofs.YtdemmjofggemhaaGreatDoor
open Go.RowKit

theorem two_grown {w w' : World} {r : Option Nat} (gb : Nat) (hg : w.grownBy w' r) : Two gb r w w' := (Two.refl gb r w).grown hg
structure RQ (base bP gp : Nat) (H : List Int) (V : List ByteArray) (L : List Nd) (P : List Int) (vv vh : Value) (AN : Option Addr) (cN : Nat) (rt : Int) (vP : Value) (w : World) : Prop where
  row : Row w gp 46 [vv, vh, .slice AN L.length cN, .int .i64 rt, .slice none 0 0]
  strs : w.ownsRow base 9 1 vv V.length (ss V)
  head : w.ownsRow base 3 1 vh H.length (is H)
  nodes : w.ownsRow base 106 7 (.slice AN L.length cN) L.length (nds L)
  pres : w.ownsRow bP 3 1 vP P.length (is P)
  vars : ∀ n ∈ L, w.ownsRow base 3 1 (vb n) n.vars.length (is n.vars)
  apH : ∀ g, vh.ownBlock = some g → vP.ownBlock ≠ some g
  apV : ∀ n ∈ L, ∀ g, (vb n).ownBlock = some g → vP.ownBlock ≠ some g
section
variable {base bP gp : Nat} {H : List Int} {V : List ByteArray} {L : List Nd} {P : List Int} {vv vh : Value} {AN : Option Addr} {cN : Nat} {rt : Int} {vP : Value} {w w' : World}
theorem RQ.later (h : RQ base bP gp H V L P vv vh AN cN rt vP w) (hb : Below w.heap.size w w') : RQ base bP gp H V L P vv vh AN cN rt vP w' :=
  ⟨h.row.later hb, own_below h.strs hb, own_below h.head hb, own_below h.nodes hb, own_below h.pres hb, fun n hn => own_below (h.vars n hn) hb, h.apH, h.apV⟩
theorem RQ.drew (h : RQ base bP gp H V L P vv vh AN cN rt vP w) : RQ base bP gp H V L P vv vh AN cN rt vP w.drew := ⟨h.row, h.strs, h.head, h.nodes, h.pres, h.vars, h.apH, h.apV⟩
/-- One more node. -/
theorem RQ.node (h : RQ base bP gp H V L P vv vh AN cN rt vP w) (n : Nd) {AN' : Option Addr} {cN' : Nat} (hg : w.grownBy w' (Value.slice AN L.length cN).ownBlock)
    (ho : w'.ownsRow base 106 7 (.slice AN' (L.length + 1) cN') (L.length + 1) (nds (L ++ [n]))) (hv : w.ownsRow base 3 1 (vb n) n.vars.length (is n.vars)) (hf : ∀ g, (vb n).ownBlock = some g → vP.ownBlock ≠ some g) :
    RQ base bP gp H V (L ++ [n]) P vv vh AN' cN' rt vP (w'.setCell ⟨gp, 2, none⟩ (.slice AN' (L.length + 1) cN')) := by
  have hr := h.row.grown hg (own_row_ne h.nodes h.row (by decide))
  have t := (two_grown gp hg).set_ 2 (.slice AN' (L.length + 1) cN')
  have key : ∀ {b sz m : Nat} {e : TypeId} {v : Value} {xs : List Value}, w.ownsRow b e sz v m xs → e ≠ 46 → 106 ≠ e → (w'.setCell ⟨gp, 2, none⟩ (.slice AN' (L.length + 1) cN')).ownsRow b e sz v m xs := fun o h1 h2 => own_two o t (own_row_ne o h.row h1) fun g hg => own_own_ne h.nodes o h2 g hg
  refine ⟨by rw [List.length_append]; exact hr.set_ 2 _, key h.strs (by decide) (by decide), key h.head (by decide) (by decide), by rw [List.length_append]; exact own_set ho hr (by decide), key h.pres (by decide) (by decide), fun a ha => ?_, h.apH, fun a ha => ?_⟩
  · rcases List.mem_append.1 ha with ha | ha
    · exact key (h.vars a ha) (by decide) (by decide)
    · obtain rfl := List.mem_singleton.1 ha
      exact key hv (by decide) (by decide)
  · rcases List.mem_append.1 ha with ha | ha
    · exact h.apV a ha
    · obtain rfl := List.mem_singleton.1 ha
      exact hf
theorem RQ.setP {gP cP : Nat} (h : RQ base bP gp H V L P vv vh AN cN rt (.slice (some ⟨gP, 0, none⟩) P.length cP) w) (k : Nat) (x : Int) :
    RQ base bP gp H V L (P.set k x) vv vh AN cN rt (.slice (some ⟨gP, 0, none⟩) (P.set k x).length cP) (w.setCell ⟨gP, k, none⟩ (.int .i64 x)) := by
  have hne : gp ≠ gP := fun c => own_row_ne h.pres h.row (by decide) (by rw [c]; rfl)
  have hp := own_put h.pres (k := k) (.int .i64 x)
  rw [show (is P).set k (.int .i64 x) = is (P.set k x) by simp [is, List.map_set]] at hp
  have hl : (P.set k x).length = P.length := List.length_set
  refine ⟨h.row.far (p := ⟨gP, k, none⟩) hne _, own_other h.strs (fun c => own_own_ne h.strs h.pres (by decide) gP c rfl), own_other h.head (fun c => h.apH gP c rfl), own_other h.nodes (fun c => own_own_ne h.nodes h.pres (by decide) gP c rfl), by rw [hl]; exact hp, fun a ha => own_other (h.vars a ha) (fun c => h.apV a ha gP c rfl), by rw [hl]; exact h.apH, by rw [hl]; exact h.apV⟩
theorem RQ.appP (h : RQ base bP gp H V L P vv vh AN cN rt vP w) {vP' : Value} {x : Int} (hg : w.grownBy w' vP.ownBlock) (ho : w'.ownsRow bP 3 1 vP' (P.length + 1) (is (P ++ [x]))) (hat : vP'.ownBlock = vP.ownBlock ∨ ∃ g, vP'.ownBlock = some g ∧ w.heap.size ≤ g) :
    RQ base bP gp H V L (P ++ [x]) vv vh AN cN rt vP' w' := by
  have hr := h.row.grown hg (own_row_ne h.pres h.row (by decide))
  have ap : ∀ {v : Value} {m : Nat} {xs : List Value}, w.ownsRow base 3 1 v m xs → (∀ g, v.ownBlock = some g → vP.ownBlock ≠ some g) → ∀ g, v.ownBlock = some g → vP'.ownBlock ≠ some g := fun o ha g hg c => by
    rcases hat with e | ⟨z, e, hz⟩
    · rw [e] at c; exact ha g hg c
    · rw [e] at c
      injection c with c
      have := (o.lt g hg).2
      omega
  exact ⟨hr, own_grown h.strs hg fun g e c => own_own_ne h.strs h.pres (by decide) g c e, own_grown h.head hg fun g e c => h.apH g c e, own_grown h.nodes hg fun g e c => own_own_ne h.nodes h.pres (by decide) g c e, by rw [List.length_append]; exact ho, fun a ha => own_grown (h.vars a ha) hg fun g e c => h.apV a ha g c e, ap h.head h.apH, fun a ha => ap (h.vars a ha) (h.apV a ha)⟩
theorem RQ.nd (h : RQ base bP gp H V L P vv vh AN cN rt vP w) : NdR w w.heap.size AN (L.map pl) := NdR.of_ownE h.nodes h.vars
end
/-- A node's top or parent told anew. -/
def topAt (L : List Nd) (t : Nat) (b : Bool) : List Nd := L.set t { ndx L t with top := b }
def parAt (L : List Nd) (t : Nat) (v : Int) : List Nd := L.set t { ndx L t with parent := v }
@[simp] theorem topAt_length (L : List Nd) (t : Nat) (b : Bool) : (topAt L t b).length = L.length := by simp [topAt]
@[simp] theorem parAt_length (L : List Nd) (t : Nat) (v : Int) : (parAt L t v).length = L.length := by simp [parAt]
theorem mem_ndx {L : List Nd} {t : Nat} (h : t < L.length) : ndx L t ∈ L := by rw [← ndx_eq L t h]; exact List.getElem_mem _
/-- What is left, its first k with their places for numbers. -/
def renL (M : Lt) (k : Nat) : Lt := (List.range M.length).map fun j => (if j < k then j else (lft M j).1, (lft M j).2)
@[simp] theorem renL_length (M : Lt) (k : Nat) : (renL M k).length = M.length := by simp [renL]
theorem renL_at (M : Lt) (k : Nat) {j : Nat} (h : j < M.length) : lft (renL M k) j = (if j < k then j else (lft M j).1, (lft M j).2) := by simp [lft, renL, h]
/-- The plan in memory, the reference's. -/
structure PlanR (base : Nat) (vv vh : Value) (AN : Option Addr) (cN : Nat) (vt : Value) (p : PPlan) (L : List Nd) (w : World) : Prop where
  vars : w.ownsRow base 9 1 vv p.vars.length (ss p.vars)
  head : w.ownsRow base 3 1 vh p.head.length (is p.head)
  nodes : w.ownsRow base 106 7 (.slice AN L.length cN) L.length (nds L)
  tops : w.ownsRow base 3 1 vt p.tops.length (is p.tops)
  nv : ∀ n ∈ L, w.ownsRow base 3 1 (vb n) n.vars.length (is n.vars)
end Go.Proofs.YtdemmjofggemhaaGreatDoor

/- osierref18.step at the plan as it grows: a step of the removal makes the builder's next node. -/
namespace Go.Proofs.YtdemmjofggemhaaGreatDoor
open Go.RowKit

section
variable {wr : World} {ops : Array Oper} {rest : List Oper} {o : Oper} {a : Act} {Q : Exit → Act → World → Prop}
end
section
variable {base bP gp : Nat} {H : List Int} {V : List ByteArray} {L : List Nd} {P : List Int} {vv vh : Value} {AN : Option Addr} {cN : Nat} {rt : Int} {vP : Value} {w w' : World}
end
end Go.Proofs.YtdemmjofggemhaaGreatDoor

/- osierref18.Child and Order: what hangs right below a node; the Top nodes from a node on. -/
namespace Go.Proofs.YtdemmjofggemhaaGreatDoor
open Go.RowKit

/-- A plan's parameter, in memory. -/
def RRow (w : World) (gp : Nat) (AV AH AN AT : Option Addr) (nv cv nh ch n cN nt ct : Nat) (rt : Int) : Prop := Row w gp 46 [.slice AV nv cv, .slice AH nh ch, .slice AN n cN, .int .i64 rt, .slice AT nt ct]
set_option maxRecDepth 100000 in
set_option maxHeartbeats 4000000 in
theorem r18child_any (AV AH AN AT : Option Addr) (nv cv nh ch cN nt ct : Nat) (N : List PNd) (rt : Int) (j : Nat) (i : Int) (w : World) (hj : j < N.length) (hN : NdR w w.heap.size AN N) :
    Calls Tryz.prog 76 #[.agg #[.slice AV nv cv, .slice AH nh ch, .slice AN N.length cN, .int .i64 rt, .slice AT nt ct], .int .i64 j, .int .i64 i] w fun e w' => e = .returned (.bool (decide (i ∈ chl (nd N j)))) ∧ Below w.heap.size w w' := by
  have a1 : (0 : Int) ≤ j := by omega
  have a2 : (j : Int) < N.length := by omega
  obtain ⟨R, hR⟩ : ∃ R, decide (i ∈ chl (nd N j)) = R := ⟨_, rfl⟩
  rw [hR]
  have HR := Lib.hid hR
  clear hR
  go_enter Tryz.func76, Tryz.ntmps76
  go_upto_region 1 with fail
  have hb0 := below_alloc w (.cells #[.slice AV nv cv, .slice AH nh ch, .slice AN N.length cN, .int .i64 rt, .slice AT nt ct] 46)
  have hP0 : Row (w.alloc (.cells #[.slice AV nv cv, .slice AH nh ch, .slice AN N.length cN, .int .i64 rt, .slice AT nt ct] 46)) w.heap.size 46 [.slice AV nv cv, .slice AH nh ch, .slice AN N.length cN, .int .i64 rt, .slice AT nt ct] := Row.new _ _ _
  have hN0 := hN.later hb0
  generalize w.alloc _ = w0 at hb0 hP0 hN0 ⊢
  obtain ⟨ad, hA, _, T, cT, _, c0, c1, c2, c3, c4, c5, c6⟩ := hN0.cells hj
  subst hA
  have q2 : w0.cell? ⟨w.heap.size, 2, none⟩ = some (.slice (some ad) N.length cN) := hP0.cell 2
  have HC : Hid (chl (nd N j) = if (nd N j).kind = 2 then [(nd N j).source] else if (nd N j).kind = 3 then [(nd N j).source, (nd N j).side] else []) := Lib.hid rfl
  generalize chl (nd N j) = C at HC HR
  generalize nd N j = x at c0 c1 c2 c3 c4 c5 c6 HC
  go_upto_region 2 with fail
  have hb1 := below_alloc w0 (.cells #[.int .i64 x.kind, .int .i64 x.atom, .slice T x.vars.length cT, .int .i64 x.source, .int .i64 x.side, .int .i64 x.parent, .bool x.top] 106)
  have hR1 : Row (w0.alloc (.cells #[.int .i64 x.kind, .int .i64 x.atom, .slice T x.vars.length cT, .int .i64 x.source, .int .i64 x.side, .int .i64 x.parent, .bool x.top] 106)) w0.heap.size 106 [.int .i64 x.kind, .int .i64 x.atom, .slice T x.vars.length cT, .int .i64 x.source, .int .i64 x.side, .int .i64 x.parent, .bool x.top] := Row.new _ _ _
  have hB1 := bthen hb0 hb1
  generalize w0.heap.size = g at hR1 ⊢
  generalize w0.alloc _ = w1 at hB1 hR1 ⊢
  have d0 : w1.cell? ⟨g, 0, none⟩ = some (.int .i64 x.kind) := hR1.cell 0
  have d3 : w1.cell? ⟨g, 3, none⟩ = some (.int .i64 x.source) := hR1.cell 3
  have d4 : w1.cell? ⟨g, 4, none⟩ = some (.int .i64 x.side) := hR1.cell 4
  clear c0 c1 c2 c3 c4 c5 c6 hR1 hN hP0 hN0 q2 hb0 hb1
  generalize x.source = a at d3 HC ⊢
  generalize x.side = b at d4 HC ⊢
  generalize x.kind = k at d0 HC ⊢
  by_cases h2 : k = 2
  · have e : C = [a] := by rw [HC.out, if_pos h2]
    have hr : R = decide (a = i) := by rw [← HR.out, e]; simp [eq_comm]
    subst h2
    clear HC HR e
    cases h : decide (a = i)
    · have h' : (a == i) = false := by simpa using h
      rw [h] at hr
      have hne : a ≠ i := by simpa using h
      go_wp2_with fail
      go_ret
      exact ⟨by first | rfl | simp [hr] | (subst hr; simp [hne]), hB1⟩
    · have h' : (a == i) = true := by simpa using h
      rw [h] at hr
      have hne : a = i := by simpa using h
      go_wp2_with fail
      go_ret
      exact ⟨by first | rfl | simp [hr] | (subst hr; simp [hne]), hB1⟩
  · have b2 : (k == 2) = false := by simpa using h2
    have b2' : decide (k = 2) = false := by simpa using h2
    by_cases h3 : k = 3
    · have e : C = [a, b] := by rw [HC.out, if_neg h2, if_pos h3]
      have hr : R = (decide (a = i) || decide (b = i)) := by rw [← HR.out, e]; simp [eq_comm]
      subst h3
      clear HC HR e
      cases h : decide (a = i) <;> cases hh : decide (b = i) <;>
        (first | (have h' : (a == i) = false := by simpa using h) | (have h' : (a == i) = true := by simpa using h)) <;>
        (first | (have hh' : (b == i) = false := by simpa using hh) | (have hh' : (b == i) = true := by simpa using hh)) <;>
        (rw [h, hh] at hr; go_wp2_with fail; go_ret; exact ⟨by first | rfl | simp [hr] | (subst hr; simp_all), hB1⟩)
    · have b3 : (k == 3) = false := by simpa using h3
      have b3' : decide (k = 3) = false := by simpa using h3
      have e : C = [] := by rw [HC.out, if_neg h2, if_neg h3]
      have hr : R = false := by rw [← HR.out, e]; simp
      clear HC HR e h2 h3
      go_wp2_with fail
      go_ret
      exact ⟨by first | rfl | simp [hr], hB1⟩
section
variable {wr : World} {ops : Array Oper} {o : Oper} {a : Act} {K : Act → World → Prop} {Q : Exit → Act → World → Prop} {F : Prop}
set_option maxRecDepth 100000 in
theorem step_own2 (hgd : o.guard = none) (s x : Operand) (ho : o.op = .call { callee := .builtin .append, args := #[s, x], argTypes := #[26, 26] })
    (base base' : Nat) (v u : Value) (X Y : List Int) (hs : a.eval s = v) (hx : a.eval x = u) (hown : wr.ownsRow base 3 1 v X.length (is X)) (hsrc : wr.ownsRow base' 3 1 u Y.length (is Y))
    (hn : X.length + Y.length ≤ 1000) (hbase : base ≤ wr.heap.size)
    (h : ∀ v' w', w'.ownsRow base 3 1 v' (X ++ Y).length (is (X ++ Y)) → wr.grownBy w' v.ownBlock → Below base wr w' → (v'.ownBlock = v.ownBlock ∨ ∃ g, v'.ownBlock = some g ∧ wr.heap.size ≤ g) → K (a.put o.dst v') w') :
    if Region.wanted o (yielded ops a.tmps) = true then Oper.wp Tryz.prog o a wr K Q else F := by
  have hE : is X ++ is Y = is (X ++ Y) := by simp [is]
  obtain ⟨A, c, rfl, _, _, hR, _⟩ := Rd.of_own hsrc
  refine step_app_src Tryz.underlying26 Tryz.info_int rfl (by decide) hgd s x ho base v X.length (is X) A Y.length c (is Y) hs hx hown (by simp [is]) hR (fun z => ?_) (is_one Y) (by omega) (by omega) hbase ?_
  · subst z
    rcases hsrc.2 with ⟨e, _⟩ | ⟨_, _, _, e, _⟩
    · injection e
    · injection e with e; cases e
  · intro v' w' ho' hg hb hat
    exact h v' w' (by rw [List.length_append, ← hE]; exact ho') hg hb hat
end
theorem ref_order (N : List PNd) (f : Nat) (i : Nat) (hk : (nd N i).kind = 1 ∨ (nd N i).kind = 2 ∨ (nd N i).kind = 3) :
    ordF N (f + 1) i = if (nd N i).top = true then (i : Int) :: ((if (nd N i).kind = 1 then [] else ordF N f (nd N i).source) ++ (if (nd N i).kind = 3 then ordF N f (nd N i).side else [])) else [] := by
  show (if (nd N (i : Int).toNat).top = true then _ else _) = _
  rw [Int.toNat_natCast]
  by_cases h : (nd N i).top = true
  · rw [if_pos h, if_pos h]
    rcases hk with h1 | h1 | h1 <;> simp [chl, h1]
  · rw [if_neg h, if_neg h]
set_option maxRecDepth 100000 in
set_option maxHeartbeats 4000000 in
theorem r18order_any (AV AH AN AT : Option Addr) (nv cv nh ch cN nt ct : Nat) (N : List PNd) (rt : Int) (rank : Nat → Nat)
    (HK : ∀ i, i < N.length → (nd N i).kind = 1 ∨ (nd N i).kind = 2 ∨ (nd N i).kind = 3)
    (HW : ∀ i, i < N.length → (nd N i).top = true → ∀ x ∈ chl (nd N i), ∃ k : Nat, x = k ∧ k < N.length ∧ rank k < rank i) (HL : ∀ f i, (ordF N f i).length ≤ 450) :
    ∀ (f i : Nat) (w : World), i < N.length → rank i < f → NdR w w.heap.size AN N →
    Calls Tryz.prog 78 #[.agg #[.slice AV nv cv, .slice AH nh ch, .slice AN N.length cN, .int .i64 rt, .slice AT nt ct], .int .i64 i] w fun e w' => ∃ v, e = .returned v ∧ w'.ownsRow w.heap.size 3 1 v (ordF N f i).length (is (ordF N f i)) ∧ Below w.heap.size w w'
  | 0, i, w, _, hf, _ => absurd hf (Nat.not_lt_zero _)
  | f + 1, i, w, hi, hf, hN => by
    have ih := Lib.hid (r18order_any AV AH AN AT nv cv nh ch cN nt ct N rt rank HK HW HL f)
    have HW2 := Lib.hid (HW i hi)
    have hl2 := HL (f + 1) i
    have HL3 := Lib.hid (HL f)
    have hkd := HK i hi
    have HO := Lib.hid (ref_order N f i hkd)
    have HCH : Hid (((nd N i).kind ≠ 1 → (nd N i).source ∈ chl (nd N i)) ∧ ((nd N i).kind = 3 → (nd N i).side ∈ chl (nd N i))) := Lib.hid (by
      rcases hkd with h | h | h <;> simp [chl, h])
    clear HW HL HK
    generalize ordF N (f + 1) (i : Int) = R at HO hl2 ⊢
    generalize chl (nd N i) = C at HW2 HCH
    go_enter Tryz.func78, Tryz.ntmps78
    go_upto_region 1 with fail
    have hb0 := below_alloc w (.cells #[.slice AV nv cv, .slice AH nh ch, .slice AN N.length cN, .int .i64 rt, .slice AT nt ct] 46)
    have hP0 : RRow (w.alloc (.cells #[.slice AV nv cv, .slice AH nh ch, .slice AN N.length cN, .int .i64 rt, .slice AT nt ct] 46)) w.heap.size AV AH AN AT nv cv nh ch N.length cN nt ct rt := Row.new _ _ _
    have hN0 := hN.later hb0
    generalize w.alloc _ = w0 at hb0 hP0 hN0 ⊢
    obtain ⟨ad, hA, _, T, cT, _, c0, _, _, c3, c4, _, c6⟩ := hN0.cells hi
    subst hA
    have q2 : w0.cell? ⟨w.heap.size, 2, none⟩ = some (.slice (some ad) N.length cN) := Row.cell hP0 2
    have a1 : (0 : Int) ≤ i := by omega
    have a2 : (i : Int) < N.length := by omega
    obtain ⟨t, ht⟩ : ∃ t, (nd N i).top = t := ⟨_, rfl⟩
    rw [ht] at c6 HW2 HO
    clear ht
    cases t
    · have e : R = [] := by rw [HO.out]; rfl
      clear HO HCH HW2
      go_wp2_with fail
      go_ret
      subst e
      exact ⟨_, rfl, World.ownsRow_nil _ _ _ _, hb0⟩
    · have HW3 := Lib.hid (HW2.out rfl)
      have HO2 : Hid (R = (i : Int) :: ((if (nd N i).kind = 1 then [] else ordF N f (nd N i).source) ++ (if (nd N i).kind = 3 then ordF N f (nd N i).side else []))) := Lib.hid (by rw [HO.out, if_pos rfl])
      clear HO HW2
      go_upto_region 3 with fail
      go_upto_region 4 with fail
      have hb1 := below_alloc w0 (.cells #[.int .i64 i] 3)
      have hB1 := bthen hb0 hb1
      have ho1 : (w0.alloc (.cells #[.int .i64 i] 3)).ownsRow w.heap.size 3 1 (.slice (some ⟨w0.heap.size, 0, none⟩) 1 1) [(i : Int)].length (is [(i : Int)]) := Row.own (Row.new_ (xs := is [(i : Int)]) rfl) hb0.size (by simp [maxLen])
      have hP1 : RRow (w0.alloc (.cells #[.int .i64 i] 3)) w.heap.size AV AH (some ad) AT nv cv nh ch N.length cN nt ct rt := Row.later hP0 hb1
      have hN1 := hN0.later hb1
      generalize w0.alloc _ = w1 at hb1 hB1 ho1 hP1 hN1 ⊢
      generalize (⟨w0.heap.size, 0, none⟩ : Addr) = A1 at ho1 ⊢
      clear c0 c3 c4 c6 q2 hN0 hP0 hb1 hb0
      obtain ⟨ad2, hA2, _, T2, cT2, _, c0, _, _, c3, c4, _, c6⟩ := hN1.cells hi
      obtain rfl : ad = ad2 := by injection hA2
      clear hA2
      have q2 : w1.cell? ⟨w.heap.size, 2, none⟩ = some (.slice (some ad) N.length cN) := Row.cell hP1 2
      obtain ⟨K, hK⟩ : ∃ K, (nd N i).kind = K := ⟨_, rfl⟩
      obtain ⟨sr, hsr⟩ : ∃ K, (nd N i).source = K := ⟨_, rfl⟩
      obtain ⟨sd, hsd⟩ : ∃ K, (nd N i).side = K := ⟨_, rfl⟩
      rw [hK] at HO2 HCH c0 hkd
      rw [hsr] at HO2 HCH c3
      rw [hsd] at HO2 HCH c4
      have hK' := hK
      have hsd' := hsd
      clear hK hsr hsd
      by_cases h1 : K = 1
      · have g1 : (K != 1) = false := by simp [h1]
        have g3 : (K == 3) = false := by rw [h1]; rfl
        have e : R = [(i : Int)] := by rw [HO2.out, if_pos h1, if_neg (by omega)]; rfl
        clear HO2 HCH hkd h1
        go_wp2_with fail
        go_ret
        subst e
        exact ⟨_, rfl, ho1, hB1⟩
      · have g1 : (K != 1) = true := by simpa using h1
        obtain ⟨m, hm, hmN, hmr⟩ := HW3.out sr (HCH.out.1 h1)
        subst hm
        have e1 : Hid (R = ((i : Int) :: ordF N f (m : Int)) ++ (if K = 3 then ordF N f sd else [])) := Lib.hid (by rw [HO2.out, if_neg h1]; rfl)
        have hl3 := HL3.out (m : Int)
        clear HO2
        have p0 : w1.drew.cell? ⟨w.heap.size, 0, none⟩ = some (.slice AV nv cv) := Row.cell hP1 0
        have p1 : w1.drew.cell? ⟨w.heap.size, 1, none⟩ = some (.slice AH nh ch) := Row.cell hP1 1
        have p2 : w1.drew.cell? ⟨w.heap.size, 2, none⟩ = some (.slice (some ad) N.length cN) := q2
        have p3 : w1.drew.cell? ⟨w.heap.size, 3, none⟩ = some (.int .i64 rt) := Row.cell hP1 3
        have p4 : w1.drew.cell? ⟨w.heap.size, 4, none⟩ = some (.slice AT nt ct) := Row.cell hP1 4
        have d3 : w1.drew.cell? ⟨(ad.add (i * 7)).block, (ad.add (i * 7)).off + 3, none⟩ = some (.int .i64 (m : Int)) := c3
        have HIH := Lib.hid (ih.out m w1.drew hmN (by omega) (show NdR w1.drew w1.drew.heap.size (some ad) N from hN1))
        have ho1d : w1.drew.ownsRow w.heap.size 3 1 (.slice (some A1) 1 1) [(i : Int)].length (is [(i : Int)]) := ho1
        generalize ordF N f (m : Int) = Y at HIH e1 hl3
        go_upto_region 5 with fail
        go_region_law (first
          | (go_simp; go_at_call 78; refine HIH.out.mono ?_; rintro en w2 ⟨v, rfl, ho2, hb2⟩; have ho1' := own_below ho1d hb2; have hsz2 : w.heap.size ≤ w2.heap.size := Nat.le_trans hB1.size hb2.size)
          | (refine step_own2 (wr := w2) rfl (.tmp 22) (.tmp 30) rfl w.heap.size w1.drew.heap.size _ _ [(i : Int)] Y (by first | rfl | go_simp) (by first | rfl | go_simp) ho1' ho2 (by simp; omega) hsz2 ?_; intro v5 w5 ho5 hg5 hb5 hat5))
        all_goals
          have hP5 : RRow w5 w.heap.size AV AH (some ad) AT nv cv nh ch N.length cN nt ct rt := Row.grown (Row.later (show RRow w1.drew w.heap.size AV AH (some ad) AT nv cv nh ch N.length cN nt ct rt from hP1) hb2) hg5 (own_row_ne ho1' (Row.later (show RRow w1.drew w.heap.size AV AH (some ad) AT nv cv nh ch N.length cN nt ct rt from hP1) hb2) (by decide))
          have hB5 : Below w.heap.size w w5 := (hB1.drew.trans (hb2.mono hB1.size)).trans hb5
          have hN5 := hN.later hB5
          have hl1 : ([(i : Int)] ++ Y).length ≤ 451 := by simp; omega
          have e2 : Hid (R = ([(i : Int)] ++ Y) ++ (if K = 3 then ordF N f sd else [])) := Lib.hid e1.out
          clear e1 HIH ho1 ho1d ho1' ho2 hg5 hb5 hat5 hb2 hsz2 p0 p1 p2 p3 p4 d3 c0 c3 c4 c6 q2 hN1 hP1 hB1
          generalize [(i : Int)] ++ Y = X at ho5 e2 hl1
          obtain ⟨ad3, hA3, _, T3, cT3, _, c0, _, _, c3, c4, _, c6⟩ := hN5.cells hi
          obtain rfl : ad = ad3 := by injection hA3
          clear hA3
          rw [hK'] at c0
          rw [hsd'] at c4
          by_cases h3 : K = 3
          · have g3 : (K == 3) = true := by simp [h3]
            have g3' : decide (K = 3) = true := by simp [h3]
            obtain ⟨m3, hm3, hm3N, hm3r⟩ := HW3.out sd (HCH.out.2 h3)
            subst hm3
            have e3 : R = X ++ ordF N f (m3 : Int) := by rw [e2.out, if_pos h3]
            have hl4 := HL3.out (m3 : Int)
            have q2 : w5.cell? ⟨w.heap.size, 2, none⟩ = some (.slice (some ad) N.length cN) := Row.cell hP5 2
            have p0 : w5.drew.cell? ⟨w.heap.size, 0, none⟩ = some (.slice AV nv cv) := Row.cell hP5 0
            have p1 : w5.drew.cell? ⟨w.heap.size, 1, none⟩ = some (.slice AH nh ch) := Row.cell hP5 1
            have p2 : w5.drew.cell? ⟨w.heap.size, 2, none⟩ = some (.slice (some ad) N.length cN) := q2
            have p3 : w5.drew.cell? ⟨w.heap.size, 3, none⟩ = some (.int .i64 rt) := Row.cell hP5 3
            have p4 : w5.drew.cell? ⟨w.heap.size, 4, none⟩ = some (.slice AT nt ct) := Row.cell hP5 4
            have d4 : w5.drew.cell? ⟨(ad.add (i * 7)).block, (ad.add (i * 7)).off + 4, none⟩ = some (.int .i64 (m3 : Int)) := c4
            have HIH := Lib.hid (ih.out m3 w5.drew hm3N (by omega) (show NdR w5.drew w5.drew.heap.size (some ad) N from hN5))
            have ho5d : w5.drew.ownsRow w.heap.size 3 1 v5 X.length (is X) := ho5
            clear e2 HCH h3
            generalize ordF N f (m3 : Int) = Z at HIH e3 hl4
            go_upto_region 7 with fail
            go_region_law (first
              | (go_simp; go_at_call 78; refine HIH.out.mono ?_; rintro en w6 ⟨v6, rfl, ho6, hb6⟩; have ho5' := own_below ho5d hb6; have hsz6 : w.heap.size ≤ w6.heap.size := Nat.le_trans hB5.size hb6.size)
              | (refine step_own2 (wr := w6) rfl (.tmp 39) (.tmp 47) rfl w.heap.size w5.drew.heap.size _ _ X Z (by first | rfl | go_simp) (by first | rfl | go_simp) ho5' ho6 (by omega) hsz6 ?_; intro v7 w7 ho7 hg7 hb7 hat7))
            all_goals
              have hB7 : Below w.heap.size w w7 := (hB5.drew.trans (hb6.mono hB5.size)).trans hb7
              go_wp2_with fail
              go_ret
              subst e3
              exact ⟨_, rfl, ho7, hB7⟩
          · have g3 : (K == 3) = false := by simpa using h3
            have g3' : decide (K = 3) = false := by simpa using h3
            have e3 : R = X := by rw [e2.out, if_neg h3, List.append_nil]
            have q2 : w5.cell? ⟨w.heap.size, 2, none⟩ = some (.slice (some ad) N.length cN) := Row.cell hP5 2
            clear e2 HCH h3
            go_wp2_with fail
            go_ret
            subst e3
            exact ⟨_, rfl, ho5, hB5⟩
end Go.Proofs.YtdemmjofggemhaaGreatDoor
