/- A builder whose rows may still be nil: what the appends to it do; the map of the Top nodes' numbers. -/
import Derived.Test.YtdemmjofggemhaaDoorPStep2
import Derived.Test.YtdemmjofggemhaaDoorPPlan
import Derived.Test.YtdemmjofggemhaaDoorPHang
import Derived.Test.YtdemmjofggemhaaDoorQFn
import Derived.Test.YtdemmjofggemhaaDoorBE
import Derived.Maps.OwnSet
namespace Go.Proofs.YtdemmjofggemhaaDoor
open Go.RowKit

/-- A builder: its nodes lie from block bn on, its other rows from base on. -/
structure BQ (bn base gb : Nat) (L : List Nd) (S : List (BitVec 32)) (P : List Int) (AN : Option Addr) (cN : Nat) (vS vP : Value) (w : World) : Prop where
  row : Row w gb 69 [.slice AN L.length cN, vS, vP]
  nodes : w.ownsRow bn 58 7 (.slice AN L.length cN) L.length (nds L)
  sets : w.ownsRow base 62 1 vS S.length (us S)
  pres : w.ownsRow base 3 1 vP P.length (is P)
  vars : ∀ n ∈ L, w.ownsRow bn 3 1 (vb n) n.vars.length (is n.vars)
  apart : ∀ n ∈ L, ∀ g, (vb n).ownBlock = some g → vP.ownBlock ≠ some g
  dist : L.Pairwise fun a b => ∀ g, (vb a).ownBlock = some g → (vb b).ownBlock ≠ some g
section
variable {bn base gb : Nat} {L : List Nd} {S : List (BitVec 32)} {P : List Int} {AN : Option Addr} {cN : Nat} {vS vP : Value} {w w' : World}
theorem BQ.later (h : BQ bn base gb L S P AN cN vS vP w) (hb : Below w.heap.size w w') : BQ bn base gb L S P AN cN vS vP w' :=
  ⟨h.row.later hb, own_below h.nodes hb, own_below h.sets hb, own_below h.pres hb, fun n hn => own_below (h.vars n hn) hb, h.apart, h.dist⟩
theorem BQ.drew (h : BQ bn base gb L S P AN cN vS vP w) : BQ bn base gb L S P AN cN vS vP w.drew := ⟨h.row, h.nodes, h.sets, h.pres, h.vars, h.apart, h.dist⟩
theorem BQ.appS (h : BQ bn base gb L S P AN cN vS vP w) {vS' : Value} {x : BitVec 32} (hg : w.grownBy w' vS.ownBlock) (ho : w'.ownsRow base 62 1 vS' (S.length + 1) (us (S ++ [x]))) :
    BQ bn base gb L (S ++ [x]) P AN cN vS' vP (w'.setCell ⟨gb, 1, none⟩ vS') := by
  have hr := Row.grown h.row hg (own_row_ne h.sets h.row (by decide))
  have key : ∀ {b sz m : Nat} {e : TypeId} {v : Value} {xs : List Value}, w'.ownsRow b e sz v m xs → e ≠ 69 → (w'.setCell ⟨gb, 1, none⟩ vS').ownsRow b e sz v m xs := fun o hne => own_other o (own_row_ne o hr hne)
  exact ⟨hr.set_ 1 vS', key (own_grown h.nodes hg fun g e c => own_own_ne h.nodes h.sets (by decide) g c e) (by decide), by rw [List.length_append]; exact key ho (by decide), key (own_grown h.pres hg fun g e c => own_own_ne h.pres h.sets (by decide) g c e) (by decide),
    fun n hn => key (own_grown (h.vars n hn) hg fun g e c => own_own_ne (h.vars n hn) h.sets (by decide) g c e) (by decide), h.apart, h.dist⟩
theorem BQ.appP (h : BQ bn base gb L S P AN cN vS vP w) {vP' : Value} {x : Int} (hg : w.grownBy w' vP.ownBlock) (ho : w'.ownsRow base 3 1 vP' (P.length + 1) (is (P ++ [x]))) (hat : vP'.ownBlock = vP.ownBlock ∨ ∃ g, vP'.ownBlock = some g ∧ w.heap.size ≤ g) :
    BQ bn base gb L S (P ++ [x]) AN cN vS vP' (w'.setCell ⟨gb, 2, none⟩ vP') := by
  have hr := Row.grown h.row hg (own_row_ne h.pres h.row (by decide))
  have key : ∀ {b sz m : Nat} {e : TypeId} {v : Value} {xs : List Value}, w'.ownsRow b e sz v m xs → e ≠ 69 → (w'.setCell ⟨gb, 2, none⟩ vP').ownsRow b e sz v m xs := fun o hne => own_other o (own_row_ne o hr hne)
  refine ⟨hr.set_ 2 vP', key (own_grown h.nodes hg fun g e c => own_own_ne h.nodes h.pres (by decide) g c e) (by decide), key (own_grown h.sets hg fun g e c => own_own_ne h.sets h.pres (by decide) g c e) (by decide), by rw [List.length_append]; exact key ho (by decide),
    fun n hn => key (own_grown (h.vars n hn) hg fun g e c => h.apart n hn g c e) (by decide), fun n hn g hgn c => ?_, h.dist⟩
  rcases hat with e | ⟨z, e, hz⟩
  · rw [e] at c; exact h.apart n hn g hgn c
  · rw [e] at c
    injection c with c
    have := ((h.vars n hn).lt g hgn).2
    omega
theorem BQ.add (h : BQ bn base gb L S P AN cN vS vP w) (n : Nd) {AN' : Option Addr} {cN' : Nat} (t : Two gb (Value.slice AN L.length cN).ownBlock w w')
    (hr : Row w' gb 69 [.slice AN' (L.length + 1) cN', vS, vP]) (ho : w'.ownsRow bn 58 7 (.slice AN' (L.length + 1) cN') (L.length + 1) (nds (L ++ [n])))
    (hv : w.ownsRow bn 3 1 (vb n) n.vars.length (is n.vars)) (hf : ∀ g, (vb n).ownBlock = some g → vP.ownBlock ≠ some g ∧ ∀ a ∈ L, (vb a).ownBlock ≠ some g) : BQ bn base gb (L ++ [n]) S P AN' cN' vS vP w' := by
  refine ⟨by rw [List.length_append]; exact hr, by rw [List.length_append]; exact ho, own_two h.sets t (own_row_ne h.sets h.row (by decide)) (fun g hg => own_own_ne h.nodes h.sets (by decide) g hg),
    own_two h.pres t (own_row_ne h.pres h.row (by decide)) (fun g hg => own_own_ne h.nodes h.pres (by decide) g hg), fun a ha => ?_, fun a ha => ?_, ?_⟩
  · rcases List.mem_append.1 ha with ha | ha
    · exact own_two (h.vars a ha) t (own_row_ne (h.vars a ha) h.row (by decide)) (fun g hg => own_own_ne h.nodes (h.vars a ha) (by decide) g hg)
    · obtain rfl := List.mem_singleton.1 ha
      exact own_two hv t (own_row_ne hv h.row (by decide)) (fun g hg => own_own_ne h.nodes hv (by decide) g hg)
  · rcases List.mem_append.1 ha with ha | ha
    · exact h.apart a ha
    · obtain rfl := List.mem_singleton.1 ha
      exact fun g hg => (hf g hg).1
  · rw [List.pairwise_append]
    refine ⟨h.dist, List.pairwise_singleton _ _, fun a ha b hb g hg c => ?_⟩
    obtain rfl := List.mem_singleton.1 hb
    exact (hf g c).2 a ha hg
theorem own_some {e : TypeId} {size n : Nat} {v : Value} {xs : List Value} (h : w.ownsRow base e size v n xs) (hn : 0 < n) : ∃ g c, v = .slice (some ⟨g, 0, none⟩) n c := by
  rcases h.2 with ⟨_, e2⟩ | ⟨g, cap, _, hv, _⟩
  · omega
  · exact ⟨g, cap, hv⟩
theorem BQ.bs (h : BQ bn base gb L S P AN cN vS vP w) (hb : bn ≤ base) (hS : 0 < S.length) (hP : 0 < P.length) : ∃ gS cS gP cP, vS = .slice (some ⟨gS, 0, none⟩) S.length cS ∧ vP = .slice (some ⟨gP, 0, none⟩) P.length cP ∧ BS bn gb L S P AN cN gS cS gP cP w := by
  obtain ⟨gS, cS, rfl⟩ := own_some h.sets hS
  obtain ⟨gP, cP, rfl⟩ := own_some h.pres hP
  exact ⟨gS, cS, gP, cP, rfl, rfl, h.row, h.nodes, own_less h.sets hb, own_less h.pres hb, h.vars, fun n hn c => h.apart n hn gP c rfl, h.dist⟩
theorem BQ.start (h : Row w gb 69 [.slice none 0 0, .slice none 0 0, .slice none 0 0]) : BQ bn base gb [] [] [] none 0 (.slice none 0 0) (.slice none 0 0) w :=
  ⟨h, World.ownsRow_nil _ _ _ _, World.ownsRow_nil _ _ _ _, World.ownsRow_nil _ _ _ _, (fun n hn => by cases hn), (fun n hn => by cases hn), List.Pairwise.nil⟩
theorem BS.second {gS cS gP cP gb' : Nat} (h : BS bn gb L S P AN cN gS cS gP cP w) (hr : Row w gb' 69 [.slice AN L.length cN, .slice none 0 0, .slice none 0 0]) : BQ bn base gb' L [] [] AN cN (.slice none 0 0) (.slice none 0 0) w :=
  ⟨hr, h.nodes, World.ownsRow_nil _ _ _ _, World.ownsRow_nil _ _ _ _, h.vars, fun n _ g _ c => by simp [Value.ownBlock] at c, h.dist⟩
end
/-- The nodes of the first k edges, in memory. -/
def LeafL (E : List (BitVec 32)) (k : Nat) (L : List Nd) : Prop := L.length = k ∧ L.map pl = ((leafG E).take k).map GN.p
theorem leaf_next {E : List (BitVec 32)} {k : Nat} {L : List Nd} (h : LeafL E k L) (hk : k < E.length) (A : Option Addr) (c : Nat) : LeafL E (k + 1) (L ++ [⟨1, k, A, c, lst (ed E k), 0, 0, -1, false⟩]) := by
  refine ⟨by rw [List.length_append, h.1]; rfl, ?_⟩
  have hl := leafG_length E
  rw [List.map_append, h.2, List.take_add_one, List.map_append]
  congr 1
  have : (leafG E)[k]? = some (gn (leafG E) k) := by rw [← gn_eq _ k (by omega)]; exact List.getElem?_eq_getElem _
  rw [this, leafG_at hk]; rfl
theorem leaf_end {E : List (BitVec 32)} {L : List Nd} (h : LeafL E E.length L) : (startPB E).nodes = L.map pl := by
  rw [h.2, List.take_of_length_le (by rw [leafG_length]; exact Nat.le_refl _)]; rfl
theorem us_take_next (E : List (BitVec 32)) {k : Nat} (h : k < E.length) : E.take (k + 1) = E.take k ++ [ed E k] := by
  rw [List.take_add_one, List.getElem?_eq_getElem h, ed_eq E k h]; rfl
theorem range_next (k : Nat) : (List.range (k + 1)).map Int.ofNat = (List.range k).map Int.ofNat ++ [(k : Int)] := by rw [List.range_succ, List.map_append]; rfl
/-- How often each number stands in the map. -/
def CntD (D : DataW Unit) (c : Int → Nat) : Prop := ∀ k : Int, D.atKey (.int .i64 k) (.lit (.int .i64 0)) = .lit (.int .i64 (c k))
theorem cntD_nil : CntD (.map []) fun _ => 0 := fun _ => rfl
/-- The nodes where the first k have been told whether they are Top nodes. -/
def topTo (L : List Nd) (f : Nat → Bool) (k : Nat) : List Nd := (List.range L.length).map fun j => { ndx L j with top := if j < k then f j else (ndx L j).top }
@[simp] theorem topTo_length (L : List Nd) (f : Nat → Bool) (k : Nat) : (topTo L f k).length = L.length := by simp [topTo]
theorem topTo_at (L : List Nd) (f : Nat → Bool) (k : Nat) {j : Nat} (h : j < L.length) : (topTo L f k)[j]'(by simpa using h) = { ndx L j with top := if j < k then f j else (ndx L j).top } := by simp [topTo]
theorem topTo_zero (L : List Nd) (f : Nat → Bool) : topTo L f 0 = L := by
  apply List.ext_getElem
  · simp
  · intro k h1 h2
    rw [topTo_at L f 0 h2, ← ndx_eq L k h2]
    simp
theorem topTo_vb {L : List Nd} {f : Nat → Bool} {k : Nat} {n : Nd} (h : n ∈ topTo L f k) : ∃ m ∈ L, vb n = vb m ∧ n.vars = m.vars ∧ n.parent = m.parent := by
  unfold topTo at h
  obtain ⟨j, hj, rfl⟩ := List.mem_map.1 h
  have hj' := List.mem_range.1 hj
  exact ⟨ndx L j, by rw [← ndx_eq L j hj']; exact List.getElem_mem _, rfl, rfl, rfl⟩
theorem nds_top (L : List Nd) (f : Nat → Bool) {k : Nat} (hk : k < L.length) : (nds (topTo L f k)).set (k * 7 + 6) (.bool (f k)) = nds (topTo L f (k + 1)) := by
  rw [nds_set (topTo L f k) k 6 { ndx L k with top := f k } _ (by simpa using hk) (by rw [topTo_at L f k hk]; rfl) (by decide)]
  congr 1
  apply List.ext_getElem
  · simp
  · intro j h1 h2
    have hj : j < L.length := by simpa using h2
    have r := topTo_at L f (k + 1) hj
    rw [r, List.getElem_set]
    by_cases e : k = j
    · subst e; rw [if_pos rfl]; simp
    · have r2 := topTo_at L f k hj
      rw [if_neg e, r2]
      by_cases c : j < k
      · simp [c, Nat.lt_succ_of_lt c]
      · have : ¬ j < k + 1 := by omega
        simp [c, this]
theorem topTo_pl (L : List Nd) (f : Nat → Bool) : (topTo L f L.length).map pl = withTop (L.map pl) f := by
  apply List.ext_getElem
  · simp
  · intro j h1 h2
    have hj : j < L.length := by simpa using h2
    have r := topTo_at L f L.length hj
    rw [List.getElem_map, r]
    simp only [withTop, List.getElem_map, List.getElem_range]
    rw [nd_pl L hj, ndx_eq L j hj]
    simp [pl, hj]
theorem withPar_pl (L : List Nd) : (withPar L fun j => parN (L.map pl) j L.length).map pl = hung (L.map pl) := by
  apply List.ext_getElem
  · simp
  · intro j h1 h2
    have hj : j < L.length := by simpa using h2
    have r := withPar_at L (fun j => parN (L.map pl) j L.length) hj
    rw [List.getElem_map, r]
    simp only [hung, List.getElem_map, List.getElem_range]
    rw [nd_pl L hj, ndx_eq L j hj]
    simp [pl]
theorem dist_of {L M : List Nd} (hl : M.length = L.length) (hv : ∀ j (h : j < L.length), vb (M[j]'(by omega)) = vb L[j]) (h : L.Pairwise fun a b => ∀ g, (vb a).ownBlock = some g → (vb b).ownBlock ≠ some g) : M.Pairwise fun a b => ∀ g, (vb a).ownBlock = some g → (vb b).ownBlock ≠ some g := by
  rw [List.pairwise_iff_getElem] at h ⊢
  intro i j hi hj hij g
  rw [hv i (by omega), hv j (by omega)]
  exact h i j (by omega) (by omega) hij g
/-- The plan in memory, as it is handed back. -/
structure PlanM (base : Nat) (vv vh : Value) (AN : Option Addr) (cN : Nat) (vt : Value) (p : PPlan) (L : List Nd) (w : World) : Prop where
  vars : w.ownsRow base 9 1 vv p.vars.length (ss p.vars)
  head : w.ownsRow base 3 1 vh p.head.length (is p.head)
  nodes : w.ownsRow base 58 7 (.slice AN L.length cN) L.length (nds L)
  tops : w.ownsRow base 3 1 vt p.tops.length (is p.tops)
  nv : ∀ n ∈ L, w.ownsRow base 3 1 (vb n) n.vars.length (is n.vars)
  dist : L.Pairwise fun a b => ∀ g, (vb a).ownBlock = some g → (vb b).ownBlock ≠ some g
def MakeM (base : Nat) (q : Qy) (w : World) (e : Ending) (w' : World) : Prop :=
  ∃ (p : PPlan) (code : Int) (vv vh : Value) (AN : Option Addr) (cN : Nat) (vt : Value) (L : List Nd), e = .returned (.tuple #[.agg #[vv, vh, .slice AN L.length cN, .int .i64 p.root, vt], .int .i64 code]) ∧ Hid (MakeIs q p code) ∧ p.nodes = L.map pl ∧ PlanM base vv vh AN cN vt p L w' ∧ Below w.heap.size w w'
theorem noPlanM (base : Nat) (w : World) : PlanM base (.slice none 0 0) (.slice none 0 0) none 0 (.slice none 0 0) noPlan [] w :=
  ⟨World.ownsRow_nil _ _ _ _, World.ownsRow_nil _ _ _ _, World.ownsRow_nil _ _ _ _, World.ownsRow_nil _ _ _ _, (fun n hn => by cases hn), List.Pairwise.nil⟩
theorem KeptT.grown {w w' w'' : World} {r : Option Nat} (h : KeptT w w') (hg : w'.grownBy w'' r) (hr : ∀ g, r = some g → ∃ c t f, w'.heap[g]? = some (.cells c t f) ∧ NearT t) : KeptT w w'' :=
  ⟨Nat.le_trans h.size hg.size, fun k o h1 h2 => by
    have h3 := h.block k o h1 h2
    refine (hg.block k (Array.getElem?_eq_some_iff.1 h3).1 ?_).trans h3
    intro e
    obtain ⟨c, t, f, q, q2⟩ := hr k e.symm
    rw [q] at h3
    injection h3 with h3
    subst h3
    exact far_near q2 h2⟩
theorem Tab.lt {w : World} (h : Tab w) : 0 < w.heap.size := World.block_lt_of_cell? _ _ (h 0 (by decide))
section
variable {wr : World} {ops : Array Oper} {rest : List Oper} {o : Oper} {a : Act} {K : Act → World → Prop} {Q : Exit → Act → World → Prop} {F : Prop}
theorem app_u32G (hgd : o.guard = none) (s x : Operand) (ho : o.op = .call { callee := .builtin .append, args := #[s, x], argTypes := #[59, 59] })
    (base : Nat) (v : Value) (n : Nat) (E : List (BitVec 32)) (u : BitVec 32) (hs : a.eval s = v) (hx : a.eval x = .slice (some ⟨wr.heap.size, 0, none⟩) 1 1) (hown : wr.ownsRow base 62 1 v n (us E))
    (hn : n + 1 ≤ 2199023255552) (hbase : base ≤ wr.heap.size)
    (h : ∀ v' w', w'.ownsRow base 62 1 v' (n + 1) (us (E ++ [u])) → wr.grownBy w' v.ownBlock → Below base wr w' → (v'.ownBlock = v.ownBlock ∨ ∃ g, v'.ownBlock = some g ∧ wr.heap.size ≤ g) → wpList Tryd.prog ops Q rest (a.put o.dst v') w') : wpList Tryd.prog ops Q (o :: rest) a (wr.alloc (.cells #[.int .u32 (uz u)] 62)) :=
  app_row Tryd.underlying59 Tryd.info_u32 rfl (by decide) (by decide) hgd s x ho base v n (us E) _ hs hx hown rfl (by simp [Value.oneCell']) hn hbase fun v' w' h1 h2 h3 h4 => h v' w' (by rw [us_snoc]; exact h1) h2 h3 h4
set_option maxRecDepth 100000 in
theorem step_u32G (hgd : o.guard = none) (s x : Operand) (ho : o.op = .call { callee := .builtin .append, args := #[s, x], argTypes := #[59, 59] })
    (base : Nat) (v : Value) (n : Nat) (E : List (BitVec 32)) (y : BitVec 32) (hs : a.eval s = v) (hx : a.eval x = .slice (some ⟨wr.heap.size, 0, none⟩) 1 1) (hown : wr.ownsRow base 62 1 v n (us E))
    (hn : n ≤ 1000) (hbase : base ≤ wr.heap.size)
    (h : ∀ v' w', w'.ownsRow base 62 1 v' (n + 1) (us (E ++ [y])) → wr.grownBy w' v.ownBlock → Below base wr w' → (v'.ownBlock = v.ownBlock ∨ ∃ g, v'.ownBlock = some g ∧ wr.heap.size ≤ g) → K (a.put o.dst v') w') :
    if Region.wanted o (yielded ops a.tmps) = true then Oper.wp Tryd.prog o a (wr.alloc (.cells #[.int .u32 (uz y)] 62)) K Q else F := by
  refine step_app_src Tryd.underlying59 Tryd.info_u32 rfl (by decide) hgd s x ho base v n (us E) (some ⟨wr.heap.size, 0, none⟩) 1 1 [.int .u32 (uz y)] hs hx (hown.alloc _) rfl (Row.rd (Row.new wr 62 [.int .u32 (uz y)])) (fun z => by cases z) (by simp [Value.oneCell']) (by omega) (by omega) (by simp; omega) ?_
  intro v' w' hown' hgr hb' hat
  exact h v' w' (by rw [us_snoc]; exact hown') (grown_alloc9' hgr) (((Below.refl _ _).alloc hbase _).trans hb') (hat.imp id fun ⟨g, e, hg⟩ => ⟨g, e, by simp at hg; omega⟩)
set_option maxRecDepth 100000 in
theorem step_intG (hgd : o.guard = none) (s x : Operand) (ho : o.op = .call { callee := .builtin .append, args := #[s, x], argTypes := #[28, 28] })
    (base : Nat) (v : Value) (n : Nat) (Z : List Int) (y : Int) (hs : a.eval s = v) (hx : a.eval x = .slice (some ⟨wr.heap.size, 0, none⟩) 1 1) (hown : wr.ownsRow base 3 1 v n (is Z))
    (hn : n ≤ 8796093022208) (hbase : base ≤ wr.heap.size)
    (h : ∀ v' w', w'.ownsRow base 3 1 v' (n + 1) (is (Z ++ [y])) → wr.grownBy w' v.ownBlock → Below base wr w' → (v'.ownBlock = v.ownBlock ∨ ∃ g, v'.ownBlock = some g ∧ wr.heap.size ≤ g) → K (a.put o.dst v') w') :
    if Region.wanted o (yielded ops a.tmps) = true then Oper.wp Tryd.prog o a (wr.alloc (.cells #[.int .i64 y] 3)) K Q else F := by
  refine step_app_src Tryd.underlying28 Tryd.info_int rfl (by decide) hgd s x ho base v n (is Z) (some ⟨wr.heap.size, 0, none⟩) 1 1 [.int .i64 y] hs hx (hown.alloc _) rfl (Row.rd (Row.new wr 3 [.int .i64 y])) (fun z => by cases z) (by simp [Value.oneCell']) (by omega) (by omega) (by simp; omega) ?_
  intro v' w' hown' hgr hb' hat
  exact h v' w' (by rw [is_snoc]; exact hown') (grown_alloc9' hgr) (((Below.refl _ _).alloc hbase _).trans hb') (hat.imp id fun ⟨g, e, hg⟩ => ⟨g, e, by simp at hg; omega⟩)
end
theorem law_int : Go.Maps.Keyed Tryd.prog 3 := Go.Maps.int_keyed Tryd.underlying3
theorem zero_int (w : World) : (zeroValue 3).run Tryd.prog w = .ok (.int .i64 0) w := by kernel_rfl
def OwnsCnt (w : World) (b n : Nat) (c : Int → Nat) : Prop := ∃ D : DataW Unit, w.ownsMap Tryd.prog 3 (plainElem Tryd.prog 3) b n D ∧ CntD D c
section
variable {w w' : World} {b n : Nat} {c : Int → Nat}
theorem own_not_map {base : Nat} {e : TypeId} {size m : Nat} {v : Value} {xs : List Value} (h : OwnsCnt w b n c) (ho : w.ownsRow base e size v m xs) : v.ownBlock ≠ some b := by
  obtain ⟨D, ⟨es, clock, hb, _⟩, _⟩ := h
  rcases ho.2 with ⟨rfl, _⟩ | ⟨g', cap, cur, rfl, _, hh, _⟩
  · simp [Value.ownBlock]
  · intro he
    have : g' = b := by simpa [Value.ownBlock] using he
    subst this
    rw [hb] at hh
    cases hh
theorem OwnsCnt.kept {r : Option Nat} (h : OwnsCnt w b n c) (hg : w.grownBy w' r) (hne : r ≠ some b) : OwnsCnt w' b n c := by
  obtain ⟨D, h1, h2⟩ := h
  exact ⟨D, h1.kept hg (fun e => hne e.symm), h2⟩
theorem OwnsCnt.later (h : OwnsCnt w b n c) (hb : Below w.heap.size w w') : OwnsCnt w' b n c := h.kept (r := none) ⟨hb.os, hb.tape, hb.output, hb.size, fun k hk _ => hb.block k hk⟩ (by simp)
theorem OwnsCnt.drew (h : OwnsCnt w b n c) : OwnsCnt w.drew b n c := h
theorem OwnsCnt.set_ (h : OwnsCnt w b n c) {g i : Nat} (hg : b ≠ g) (u : Value) : OwnsCnt (w.setCell ⟨g, i, none⟩ u) b n c := by
  obtain ⟨D, h1, h2⟩ := h
  exact ⟨D, h1.setCell (a := ⟨g, i, none⟩) hg u, h2⟩
theorem OwnsCnt.row_ne {g : Nat} {e : TypeId} {xs : List Value} (h : OwnsCnt w b n c) (hr : Row w g e xs) : b ≠ g := by
  obtain ⟨D, ⟨es, clock, hb, _⟩, _⟩ := h
  rintro rfl
  unfold Row at hr
  rw [hb] at hr
  cases hr
theorem OwnsCnt.keptT (h : OwnsCnt w b n c) (hk : KeptT w w') : OwnsCnt w' b n c := by
  obtain ⟨D, ⟨es, clock, hb, q⟩, h2⟩ := h
  exact ⟨D, ⟨es, clock, hk.block b _ hb (fun _ _ _ e => by cases e), q⟩, h2⟩
theorem OwnsCnt.made (w : World) : OwnsCnt (w.alloc (.map #[] 0)) w.heap.size 0 fun _ => 0 := ⟨_, World.ownsMap_made w _ _ _, cntD_nil⟩
set_option maxRecDepth 100000 in
theorem OwnsCnt.look (h : OwnsCnt w b n c) (x : Int) (hx : (Lit.int .i64 x).wf = true) : (Instr.lookup 75 (.map (some b)) (.int .i64 x) false).run Tryd.prog w = .ok (.int .i64 (c x : Nat)) w := by
  obtain ⟨D, h1, h2⟩ := h
  obtain ⟨z, hrun, hat, _⟩ := h1.lookup_int law_int Tryd.underlying75 Tryd.underlying3 (zero_int _) (Go.Maps.keyOf_int_mk Tryd.underlying3 hx)
  rw [h2 x] at hat
  injection hat with hat
  injection hat with _ hat
  rw [hrun, hat]
set_option maxRecDepth 100000 in
theorem OwnsCnt.put (h : OwnsCnt w b n c) (x : Int) (hx : (Lit.int .i64 x).wf = true) (hn : n ≤ 1000) (hc : c x ≤ 1000) :
    ∃ w', (Instr.mapUpdate 75 (.map (some b)) (.int .i64 x) (.int .i64 ((c x : Nat) + 1))).run Tryd.prog w = .ok () w' ∧ OwnsCnt w' b (n + 1) (fun y => if y = x then c x + 1 else c y) ∧ w.grownBy w' (some b) := by
  obtain ⟨D, h1, h2⟩ := h
  obtain ⟨w', hrun, h3, h4⟩ := h1.update law_int Tryd.underlying75 (by unfold maxLen; omega) (Go.Maps.keyOf_int_mk Tryd.underlying3 hx) (plainElem_int Tryd.underlying3 (WalkArith.wf_i64 (n := ((c x : Nat) + 1 : Int)) (by omega)))
  refine ⟨w', hrun, ⟨_, h3, fun y => ?_⟩, h4⟩
  by_cases e : y = x
  · subst e
    rw [Maps.atKey_put_same h1.isMap (by simp [WideAt.IsKeyLit])]; simp
  · rw [Maps.atKey_put_other (fun q => e (by injection q)), h2 y]; simp [e]
end
theorem count_snoc (P : List Int) (x y : Int) : (P ++ [x]).count y = if y = x then P.count x + 1 else P.count y := by
  rw [List.count_append]
  by_cases e : y = x
  · subst e; simp
  · rw [if_neg e, List.count_singleton]; simp [Ne.symm e]
set_option maxRecDepth 100000 in
theorem run2_any {T1 : List Stp} {T2 : Lt} (V : Int) (A : Option Addr) (S : List (BitVec 32)) (c : Nat) (w y : World) (h1 : T1 = (runE S 0#32).1) (h2 : T2 = (runE S 0#32).2) (hv : validB V S = true) (hl : S.length ≤ 35184372087808) (hy : Below w.heap.size w y) (hR : Rd y y.heap.size A (us S)) :
    Calls Tryd.prog 22 #[.agg #[.int .i64 V, .slice A S.length c], .int .u32 (uz 0#32)] y fun e w' => ∃ A1 c1 A2 c2, e = .returned (.tuple #[.slice A1 T1.length c1, .slice A2 T2.length c2, .int .i64 0]) ∧ w'.ownsRow w.heap.size 84 4 (.slice A1 T1.length c1) T1.length (sts T1) ∧ w'.ownsRow w.heap.size 77 2 (.slice A2 T2.length c2) T2.length (lfs T2) ∧ Below w.heap.size w w' := by
  refine (run_any V A S c 0#32 y hl hR).mono ?_
  rintro e w' ⟨v1, v2, tt, M2, code, rfl, ho1, ho2, hRI, hb⟩
  rcases hRI.out with ⟨a, _⟩ | ⟨_, a, b, c⟩
  · rw [hv] at a; cases a
  · have e1 : tt = T1 := a.trans h1.symm
    have e2 : M2 = T2 := b.trans h2.symm
    clear a b h1 h2 hRI
    subst e1 e2 c
    obtain ⟨A1, c1, rfl, _, _, _, _⟩ := Rd.of_ownS ho1
    obtain ⟨A2, c2, rfl, _, _, _, _⟩ := Rd.of_ownS ho2
    exact ⟨A1, c1, A2, c2, rfl, own_less ho1 hy.size, own_less ho2 hy.size, bthen hy hb⟩
section
variable {P : Program} {ops : Array Oper} {Q : Exit → Act → World → Prop} {md : Region.Mode} {S : World → Prop} {l : Nat}
/-- Two operations may come up. -/
theorem wpAnyU_two {i j : Nat} {oi oj : Oper} {fuel : Nat} {listed : Array Bool} {a : Act} {w : World} (hr : Region.ready md ops listed = [i, j]) (hi : ops[i]? = some oi) (hj : ops[j]? = some oj)
    (h1 : ∀ K' : Act → World → Prop, Shut (∀ a w, S w → (S w → wpAnyU P md ops Q l S fuel (listed.setIfInBounds i true) a w) → K' a w) → if Region.wanted oi (yielded ops a.tmps) = true then Oper.wp P oi a w K' Q else K' (a.put oi.dst undef) w)
    (h2 : ∀ K' : Act → World → Prop, Shut (∀ a w, S w → (S w → wpAnyU P md ops Q l S fuel (listed.setIfInBounds j true) a w) → K' a w) → if Region.wanted oj (yielded ops a.tmps) = true then Oper.wp P oj a w K' Q else K' (a.put oj.dst undef) w) :
    wpAnyU P md ops Q l S (fuel + 1) listed a w :=
  ⟨fun h0 => absurd h0 (by rw [hr]; simp), fun k hk => by
    rw [hr] at hk
    rcases List.mem_cons.1 hk with rfl | hk
    · exact wpOp_step hi fun K' hK => h1 K' fun a w hS hW => hK a w ⟨fun _ => hS, hW hS⟩
    · obtain rfl := List.mem_singleton.1 hk
      exact wpOp_step hj fun K' hK => h2 K' fun a w hS hW => hK a w ⟨fun _ => hS, hW hS⟩⟩
end
theorem own_set {w : World} {base size n g i : Nat} {e t : TypeId} {v u : Value} {xs cs : List Value} (h : w.ownsRow base e size v n xs) (hr : Row w g t cs) (hne : e ≠ t) : (w.setCell ⟨g, i, none⟩ u).ownsRow base e size v n xs := own_other h (own_row_ne h hr hne)
theorem heads_next (vars hd : List ByteArray) {k : Nat} (h : k < hd.length) : (hd.take (k + 1)).map (fun x => atI vars x) = (hd.take k).map (fun x => atI vars x) ++ [atI vars (nm hd k)] := by
  rw [List.take_add_one, List.getElem?_eq_getElem h, nm_eq hd k h, List.map_append]; rfl
theorem own_set5 {w : World} {base size n g : Nat} {e t : TypeId} {v : Value} {xs cs : List Value} (h : w.ownsRow base e size v n xs) (hr : Row w g t cs) (hne : e ≠ t) (a b c d f : Value) :
    (((((w.setCell ⟨g, 0, none⟩ a).setCell ⟨g, 1, none⟩ b).setCell ⟨g, 2, none⟩ c).setCell ⟨g, 3, none⟩ d).setCell ⟨g, 4, none⟩ f).ownsRow base e size v n xs :=
  own_set (own_set (own_set (own_set (own_set h hr hne) (hr.set_ 0 a) hne) ((hr.set_ 0 a).set_ 1 b) hne) (((hr.set_ 0 a).set_ 1 b).set_ 2 c) hne) ((((hr.set_ 0 a).set_ 1 b).set_ 2 c).set_ 3 d) hne
theorem grown_put {w w' : World} {g i : Nat} {u : Value} (h : w.grownBy w' (some g)) : w.grownBy (w'.setCell ⟨g, i, none⟩ u) (some g) :=
  ⟨h.os, h.tape, h.output, by have := h.size; simpa using this, fun q hq hne => (Below.heap_setCell w' ⟨g, i, none⟩ _ q (fun e => hne (by subst e; rfl))).trans (h.block q hq hne)⟩
end Go.Proofs.YtdemmjofggemhaaDoor
