/- A plan's nodes in memory, and the builder that makes them. -/
import Derived.Test.YtdemmjofggemhaaDoorPList
import Derived.Test.YtdemmjofggemhaaDoorBA
import Derived.Test.YtdemmjofggemhaaDoorBQ
import Derived.Test.YtdemmjofggemhaaDoorQOf
import Derived.Deep.RegionLaw
namespace Go.Proofs.YtdemmjofggemhaaDoor
open Go.RowKit

/-- A node: its vertices with where they lie. -/
structure Nd where
  kind : Int
  atom : Int
  adr : Option Addr
  cap : Nat
  vars : List Int
  source : Int
  side : Int
  parent : Int
  top : Bool
def vb (n : Nd) : Value := .slice n.adr n.vars.length n.cap
def ndC (n : Nd) : List Value := [.int .i64 n.kind, .int .i64 n.atom, vb n, .int .i64 n.source, .int .i64 n.side, .int .i64 n.parent, .bool n.top]
def nds (L : List Nd) : List Value := L.flatMap ndC
theorem nds_length (L : List Nd) : (nds L).length = L.length * 7 := by
  induction L with
  | nil => rfl
  | cons t ts ih => show (ndC t ++ nds ts).length = _; rw [List.length_append, ih]; simp [ndC]; omega
theorem nds_snoc (L : List Nd) (n : Nd) : nds (L ++ [n]) = nds L ++ ndC n := by simp [nds]
theorem ndC_one (n : Nd) : ∀ u ∈ ndC n, u.oneCell' = true := by
  intro u h
  simp only [ndC, vb, List.mem_cons, List.not_mem_nil, or_false] at h
  rcases h with rfl | rfl | rfl | rfl | rfl | rfl | rfl <;> rfl

/-- What a call may turn: a block and a row's block. -/
structure Two (gb : Nat) (r : Option Nat) (w w' : World) : Prop where
  os : w'.os = w.os
  tape : w'.tape = w.tape
  output : w'.output = w.output
  size : w.heap.size ≤ w'.heap.size
  block : ∀ k, k < w.heap.size → k ≠ gb → some k ≠ r → w'.heap[k]? = w.heap[k]?
section
variable {w w' w'' : World} {gb : Nat} {r : Option Nat}
theorem Two.refl (gb : Nat) (r : Option Nat) (w : World) : Two gb r w w := ⟨rfl, rfl, rfl, Nat.le_refl _, fun _ _ _ _ => rfl⟩
theorem Two.grown (h : Two gb r w w') (hg : w'.grownBy w'' r) : Two gb r w w'' :=
  ⟨hg.os.trans h.os, hg.tape.trans h.tape, hg.output.trans h.output, Nat.le_trans h.size hg.size, fun k hk h1 h2 => (hg.block k (Nat.lt_of_lt_of_le hk h.size) h2).trans (h.block k hk h1 h2)⟩
theorem Two.alloc (h : Two gb r w w') (o : Obj) : Two gb r w (w'.alloc o) :=
  ⟨h.os, h.tape, h.output, by have := h.size; simp; omega, fun k hk h1 h2 => (Below.heap_alloc w' o k (Nat.lt_of_lt_of_le hk h.size)).trans (h.block k hk h1 h2)⟩
theorem Two.drew (h : Two gb r w w') : Two gb r w w'.drew := ⟨h.os, h.tape, h.output, h.size, h.block⟩
theorem Two.set_ (h : Two gb r w w') (i : Nat) (u : Value) : Two gb r w (w'.setCell ⟨gb, i, none⟩ u) :=
  ⟨h.os, h.tape, h.output, by have := h.size; simpa using this, fun k hk h1 h2 => (Below.heap_setCell w' ⟨gb, i, none⟩ u k (fun e => h1 (by simpa using e))).trans (h.block k hk h1 h2)⟩
theorem Two.below (h : Two gb r w w') {B : Nat} (h1 : B ≤ gb) (h2 : ∀ k, r = some k → B ≤ k) (hB : B ≤ w.heap.size) : Below B w w' :=
  ⟨h.os, h.tape, h.output, h.size, fun k hk => h.block k (by omega) (by omega) fun e => by have := h2 k e.symm; omega⟩
theorem Row.two {g : Nat} {e : TypeId} {xs : List Value} (h : Row w g e xs) (t : Two gb r w w') (h1 : g ≠ gb) (h2 : r ≠ some g) : Row w' g e xs := (t.block g h.lt h1 fun e => h2 e.symm).trans h
theorem own_two {base : Nat} {e : TypeId} {size n : Nat} {v : Value} {xs : List Value} (h : w.ownsRow base e size v n xs) (t : Two gb r w w') (h1 : v.ownBlock ≠ some gb) (h2 : ∀ g, r = some g → v.ownBlock ≠ some g) : w'.ownsRow base e size v n xs := by
  refine ⟨h.1, ?_⟩
  rcases h.2 with h3 | ⟨g, cap, cur, hv, hg, hh, q⟩
  · exact .inl h3
  · subst hv
    have hne : ∀ k, k = g → Value.ownBlock (.slice (some ⟨g, 0, none⟩) n cap) = some k := fun k e => by subst e; simp [Value.ownBlock]
    refine .inr ⟨g, cap, cur, rfl, hg, (t.block g (Array.getElem?_eq_some_iff.1 hh).1 (fun e => h1 (hne gb e.symm)) fun e => h2 g e.symm (hne g rfl)).trans hh, q⟩
end

theorem Tryd.info_node : (Tryd.prog.info? 58).map (fun i => (i.zero, i.size, i.bytes)) = some (some (.agg #[.int .i64 0, .int .i64 0, .slice none 0 0, .int .i64 0, .int .i64 0, .int .i64 0, .bool false]), 7, 72) := by kernel_rfl
section
variable {wr : World} {ops : Array Oper} {o : Oper} {ac : Act} {K : Act → World → Prop} {Q : Exit → Act → World → Prop} {F : Prop}
set_option maxRecDepth 100000 in
theorem step_node (hgd : o.guard = none) (s x : Operand) (ho : o.op = .call { callee := .builtin .append, args := #[s, x], argTypes := #[29, 29] })
    (base : Nat) (v : Value) (L : List Nd) (n : Nd) (hs : ac.eval s = v) (hx : ac.eval x = .slice (some ⟨wr.heap.size, 0, none⟩) 1 1) (hown : wr.ownsRow base 58 7 v L.length (nds L))
    (hn : L.length ≤ 1000) (hbase : base ≤ wr.heap.size)
    (h : ∀ A' c' w', w'.ownsRow base 58 7 (.slice A' (L.length + 1) c') (L.length + 1) (nds (L ++ [n])) → wr.grownBy w' v.ownBlock → Below base wr w' → K (ac.put o.dst (.slice A' (L.length + 1) c')) w') :
    if Region.wanted o (yielded ops ac.tmps) = true then Oper.wp Tryd.prog o ac (wr.alloc (.cells #[.int .i64 n.kind, .int .i64 n.atom, .slice n.adr n.vars.length n.cap, .int .i64 n.source, .int .i64 n.side, .int .i64 n.parent, .bool n.top] 58)) K Q else F := by
  refine step_app_src Tryd.underlying29 Tryd.info_node rfl (by decide) hgd s x ho base v L.length (nds L) (some ⟨wr.heap.size, 0, none⟩) 1 1 (ndC n) hs hx (hown.alloc _) rfl (Row.rd (Row.new wr 58 (ndC n))) (fun z => by cases z) (ndC_one n) (by omega) (by omega) (by simp; omega) ?_
  intro v' w' hown' hgr hb' _
  obtain ⟨A', c', rfl, -⟩ := Rd.of_ownS hown'
  exact h A' c' w' (by rw [nds_snoc]; exact hown') (grown_alloc9' hgr) (((Below.refl _ _).alloc hbase _).trans hb')
end

set_option maxRecDepth 100000 in
set_option maxHeartbeats 4000000 in
/-- builder.add: a node behind the others. -/
theorem add_any (base gb : Nat) (vn vs vp : Value) (L : List Nd) (n : Nd) (w : World) (hbase : base ≤ w.heap.size) (hR : Row w gb 69 [vn, vs, vp]) (ho : w.ownsRow base 58 7 vn L.length (nds L)) (hl : L.length ≤ 1000) :
    Calls Tryd.prog 19 #[.pointer (some ⟨gb, 0, none⟩), .agg #[.int .i64 n.kind, .int .i64 n.atom, .slice n.adr n.vars.length n.cap, .int .i64 n.source, .int .i64 n.side, .int .i64 n.parent, .bool n.top]] w fun e w' =>
      e = .returned (.int .i64 (L.length : Int)) ∧ ∃ A' c', Row w' gb 69 [.slice A' (L.length + 1) c', vs, vp] ∧ w'.ownsRow base 58 7 (.slice A' (L.length + 1) c') (L.length + 1) (nds (L ++ [{ n with parent := -1 }])) ∧ Two gb vn.ownBlock w w' := by
  obtain ⟨A, c, rfl, -⟩ := Rd.of_ownS ho
  go_enter Tryd.func19, Tryd.ntmps19
  go_wp2_with fail
  have hN : Row (w.alloc (.cells #[.int .i64 n.kind, .int .i64 n.atom, .slice n.adr n.vars.length n.cap, .int .i64 n.source, .int .i64 n.side, .int .i64 (-1), .bool n.top] 58)) w.heap.size 58 (ndC { n with parent := -1 }) := Row.new w _ _
  have hR1 := hR.alloc (.cells #[.int .i64 n.kind, .int .i64 n.atom, .slice n.adr n.vars.length n.cap, .int .i64 n.source, .int .i64 n.side, .int .i64 (-1), .bool n.top] 58)
  have ho1 := ho.alloc (.cells #[.int .i64 n.kind, .int .i64 n.atom, .slice n.adr n.vars.length n.cap, .int .i64 n.source, .int .i64 n.side, .int .i64 (-1), .bool n.top] 58)
  have ht1 := (Two.refl gb (Value.slice A L.length c).ownBlock w).alloc (.cells #[.int .i64 n.kind, .int .i64 n.atom, .slice n.adr n.vars.length n.cap, .int .i64 n.source, .int .i64 n.side, .int .i64 (-1), .bool n.top] 58)
  have hb1 : base ≤ (w.alloc (.cells #[.int .i64 n.kind, .int .i64 n.atom, .slice n.adr n.vars.length n.cap, .int .i64 n.source, .int .i64 n.side, .int .i64 (-1), .bool n.top] 58)).heap.size := by simp; omega
  generalize w.heap.size = gn at hN ⊢
  generalize w.alloc _ = w1 at hN hR1 ho1 ht1 hb1 ⊢
  have n0 : w1.cell? ⟨gn, 0, none⟩ = some (.int .i64 n.kind) := hN.cell 0
  have n1 : w1.cell? ⟨gn, 1, none⟩ = some (.int .i64 n.atom) := hN.cell 1
  have n2 : w1.cell? ⟨gn, 2, none⟩ = some (.slice n.adr n.vars.length n.cap) := hN.cell 2
  have n3 : w1.cell? ⟨gn, 3, none⟩ = some (.int .i64 n.source) := hN.cell 3
  have n4 : w1.cell? ⟨gn, 4, none⟩ = some (.int .i64 n.side) := hN.cell 4
  have n5 : w1.cell? ⟨gn, 5, none⟩ = some (.int .i64 (-1)) := hN.cell 5
  have n6 : w1.cell? ⟨gn, 6, none⟩ = some (.bool n.top) := hN.cell 6
  have r0 : w1.cell? ⟨gb, 0, none⟩ = some (.slice A L.length c) := hR1.cell 0
  have r1 := hR1.lt
  have nl := hN.lt
  have hRd : Row w1.drew gb 69 [.slice A L.length c, vs, vp] := hR1
  have hod : w1.drew.ownsRow base 58 7 (.slice A L.length c) L.length (nds L) := ho1
  go_region_law (first
    | (refine step_node (wr := w1.drew) rfl (.tmp 10) (.tmp 12) rfl base (.slice A L.length c) L { n with parent := -1 } (by first | rfl | go_simp) (by first | rfl | go_simp) hod (by omega) hb1 ?_; intro A' c' w2 ho2 hgr2 hb2; have hR2 := hRd.grown hgr2 (own_row_ne hod hRd (by decide)); have s0 : w2.cell? ⟨gb, 0, none⟩ = some (.slice A L.length c) := hR2.cell 0; have s1 := hR2.frozen 0; have s2 := hR2.lt))
  all_goals
    have ht2 := ht1.drew.grown hgr2
    have hR3 := hR2.set_ 0 (.slice A' (L.length + 1) c')
    have ht3 := ht2.set_ 0 (.slice A' (L.length + 1) c')
    have ho3 := own_two ho2 ((Two.refl gb none w2).set_ 0 (.slice A' (L.length + 1) c')) (own_row_ne ho2 hR2 (by decide)) (fun g h => by cases h)
    clear n0 n1 n2 n3 n4 n5 n6 nl r0 r1 s0 s1 s2 hR2 ho2 hgr2 hb2 ht2
    generalize w2.setCell _ _ = w3 at hR3 ht3 ho3 ⊢
    have t0 : w3.cell? ⟨gb, 0, none⟩ = some (.slice A' (L.length + 1) c') := hR3.cell 0
    go_wp2_with fail
    go_ret
    exact ⟨by first | rfl | simp, A', c', hR3, ho3, ht3⟩
end Go.Proofs.YtdemmjofggemhaaDoor
