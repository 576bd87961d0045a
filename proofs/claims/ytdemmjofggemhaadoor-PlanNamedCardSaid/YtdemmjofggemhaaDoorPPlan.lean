/- The plan that the two phases make, plain: how it is built, and how great it is. -/
import Derived.Test.YtdemmjofggemhaaDoorPFirst
import Derived.Test.YtdemmjofggemhaaDoorBK
namespace Go.Proofs.YtdemmjofggemhaaDoor

def withTop (N : List PNd) (f : Nat → Bool) : List PNd := (List.range N.length).map fun j => { nd N j with top := f j }
def hung (N : List PNd) : List PNd := (List.range N.length).map fun j => { nd N j with parent := parN N j N.length }
@[simp] theorem withTop_length (N : List PNd) (f : Nat → Bool) : (withTop N f).length = N.length := by simp [withTop]
@[simp] theorem hung_length (N : List PNd) : (hung N).length = N.length := by simp [hung]
theorem nd_map (f : Nat → PNd) {n i : Nat} (h : i < n) : nd ((List.range n).map f) i = f i := by simp [nd, h]
theorem withTop_at (N : List PNd) (f : Nat → Bool) {i : Nat} (h : i < N.length) : nd (withTop N f) i = { nd N i with top := f i } := nd_map _ h
theorem hung_at (N : List PNd) {i : Nat} (h : i < N.length) : nd (hung N) i = { nd N i with parent := parN N i N.length } := nd_map _ h
section
variable (E : List (BitVec 32)) (head : BitVec 32) (n : Nat)
/-- What is left behind the first n steps; the builder then; the second one at its start and at its end. -/
def leftL : Lt := mkTo (beginE E) (runE E head).1 n
def midPB : PB := afterPB (startPB E) (runE E head).1 n
def secPB : PB := ⟨(midPB E head n).nodes, setsL (leftL E head n), pres2 (leftL E head n) (midPB E head n).pres⟩
def run2 : List Stp × Lt := runE (setsL (leftL E head n)) 0#32
def endPB : PB := (run2 E head n).1.foldl stepPB (secPB E head n)
def rootE : Int := pz (endPB E head n).pres (lft (run2 E head n).2 0).1
def lowE : Nat := (midPB E head n).nodes.length
def topE (i : Nat) : Bool := decide (lowE E head n ≤ i) || decide ((i : Int) ∈ (secPB E head n).pres)
def rawE : List PNd := withTop (endPB E head n).nodes (topE E head n)
def nodesE : List PNd := hung (rawE E head n)
def topsE : List Int := ordF (nodesE E head n) (nodesE E head n).length (rootE E head n)
/-- The forest behind the first phase, and behind both. -/
def grow1 : Gr := growG (beginE E) ⟨leafG E, id⟩ ((runE E head).1.take n)
def grow2 : Gr := growG (beginE (setsL (leftL E head n))) ⟨(grow1 E head n).nodes, at2 (leftL E head n) (grow1 E head n)⟩ (run2 E head n).1
end
theorem Rch.ne_nil {keep : BitVec 32} {L M : Lt} {ss : List Stp} (r : Rch keep L ss M) (hs : Srt L) (h : L ≠ []) : M ≠ [] := by
  induction r with
  | nil => exact h
  | @cons L M s ss st _ ih =>
    refine ih hs.make ?_
    rcases st.cases hs with ⟨x, hx, hc, rfl⟩ | ⟨x, hx, y, hy, k, hne, hk, hsub, rfl⟩
    · exact List.ne_nil_of_mem (mem_make.2 ⟨x, hx, .inl ⟨rfl, rfl, rfl⟩⟩)
    · exact List.ne_nil_of_mem (mem_make.2 ⟨y, hy, .inr ⟨fun e => hne (Int.ofNat.inj e).symm, rfl⟩⟩)
theorem mem_chl {m : GN} {x : Int} : x ∈ chl m.p ↔ ∃ k : Nat, x = k ∧ ((m.kind = 2 ∨ m.kind = 3) ∧ m.src = k ∨ m.kind = 3 ∧ m.side = k) := by
  unfold chl GN.p
  by_cases h2 : m.kind = 2
  · simp [h2, eq_comm]
  · by_cases h3 : m.kind = 3
    · simp [h3]
      constructor
      · rintro (rfl | rfl)
        · exact ⟨_, rfl, .inl rfl⟩
        · exact ⟨_, rfl, .inr rfl⟩
      · rintro ⟨k, rfl, e | e⟩ <;> simp [e]
    · have a : ¬ ((m.kind : Int) = 2) := by omega
      have b : ¬ ((m.kind : Int) = 3) := by omega
      simp [h2, h3, a, b]
theorem chl_ch {N : List GN} {i : Nat} {x : Int} : x ∈ chl (gn N i).p ↔ ∃ k : Nat, x = k ∧ Ch N i k := mem_chl
theorem forest_of {E : List (BitVec 32)} {L : Lt} {g : Gr} (h : GInv E L g) {N : List PNd} (hl : N.length = g.nodes.length) (hc : ∀ i, i < N.length → chl (nd N i) = chl (gn g.nodes i).p) : Forest N := by
  refine ⟨fun i hi x hx => ?_, fun i j x hi hj hx hy => ?_, fun i hi => ?_⟩
  · rw [hc i hi] at hx
    obtain ⟨k, rfl, c⟩ := chl_ch.1 hx
    exact ⟨k, rfl, h.chlt (by omega) c⟩
  · rw [hc i hi] at hx
    rw [hc j hj] at hy
    obtain ⟨k, rfl, c⟩ := chl_ch.1 hx
    obtain ⟨m, e, d⟩ := chl_ch.1 hy
    obtain rfl : k = m := Int.ofNat.inj e
    exact h.uniq i j k (by omega) (by omega) c d
  · rw [hc i hi]
    rcases Nat.lt_or_ge i E.length with d | d
    · rw [h.leaf i d]; simp [chl, GN.p]
    · rcases h.node i d (by omega) with ⟨a, _⟩ | ⟨a, _, _, _, b, _⟩
      · simp [chl, GN.p, a]
      · simp [chl, GN.p, a]; omega
theorem chl_with (m : PNd) (t : Bool) (p : Int) : chl { m with top := t, parent := p } = chl m := rfl
theorem gn_p (N : List GN) {i : Nat} (h : i < N.length) : nd (N.map GN.p) i = (gn N i).p := by simp [nd, gn, h]
section
variable {E : List (BitVec 32)} {head : BitVec 32} {n : Nat}
theorem left_rch (hn : n ≤ (runE E head).1.length) : Rch head (beginE E) ((runE E head).1.take n) (leftL E head n) := (runE_rch E head).take n hn
theorem fit1 (hn : n ≤ (runE E head).1.length) : Fit (leftL E head n) (midPB E head n) (grow1 E head n) := Fit.take (runE_rch E head) (srt_begin E) (fit_begin E) hn
theorem ginv1 (hn : n ≤ (runE E head).1.length) : GInv E (leftL E head n) (grow1 E head n) := GInv.take (runE_rch E head) (ginv_begin E) hn
theorem fit2 (hn : n ≤ (runE E head).1.length) : Fit (beginE (setsL (leftL E head n))) (secPB E head n) ⟨(grow1 E head n).nodes, at2 (leftL E head n) (grow1 E head n)⟩ := fit_second (fit1 hn)
theorem ginv2 (hn : n ≤ (runE E head).1.length) : GInv E (beginE (setsL (leftL E head n))) ⟨(grow1 E head n).nodes, at2 (leftL E head n) (grow1 E head n)⟩ := (ginv1 hn).renum _ fun i hi => by rw [lft_eq _ i hi]; rfl
theorem fit3 (hn : n ≤ (runE E head).1.length) : Fit (run2 E head n).2 (endPB E head n) (grow2 E head n) := Fit.run (runE_rch _ _) (srt_begin _) (fit2 hn)
theorem ginv3 (hn : n ≤ (runE E head).1.length) : GInv E (run2 E head n).2 (grow2 E head n) := (ginv2 hn).run (runE_rch _ _)
theorem left_ne (hE : E ≠ []) (hn : n ≤ (runE E head).1.length) : leftL E head n ≠ [] := (left_rch hn).ne_nil (srt_begin E) (by intro c; have := begin_len E; rw [c] at this; cases E <;> simp_all)
theorem run2_ne (hE : E ≠ []) (hn : n ≤ (runE E head).1.length) : (run2 E head n).2 ≠ [] := (runE_rch _ _).ne_nil (srt_begin _) (by
  intro c
  have h1 := begin_len (setsL (leftL E head n))
  have h2 := left_ne hE hn
  rw [c] at h1
  have h3 : (setsL (leftL E head n)).length = (leftL E head n).length := by simp [setsL]
  rw [h3] at h1
  exact h2 (List.length_eq_zero_iff.1 h1.symm))
theorem lft_zero_mem {L : Lt} (h : L ≠ []) : lft L 0 ∈ L := by
  cases L with
  | nil => exact absurd rfl h
  | cons a L => simp [lft]
theorem end_len (hn : n ≤ (runE E head).1.length) : (endPB E head n).nodes.length = (grow2 E head n).nodes.length := by rw [(fit3 hn).nodes]; simp
theorem root_at (hE : E ≠ []) (hn : n ≤ (runE E head).1.length) : rootE E head n = ((grow2 E head n).at_ (lft (run2 E head n).2 0).1 : Nat) := (fit3 hn).pres _ (lft_zero_mem (run2_ne hE hn))
theorem root_lt (hE : E ≠ []) (hn : n ≤ (runE E head).1.length) : ∃ r : Nat, rootE E head n = r ∧ r < (endPB E head n).nodes.length := ⟨_, root_at hE hn, by rw [end_len hn]; exact (ginv3 hn).pl _ (lft_zero_mem (run2_ne hE hn))⟩
@[simp] theorem rawE_length : (rawE E head n).length = (endPB E head n).nodes.length := by simp [rawE]
@[simp] theorem nodesE_length : (nodesE E head n).length = (endPB E head n).nodes.length := by simp [nodesE]
theorem end_at (hn : n ≤ (runE E head).1.length) {i : Nat} (h : i < (endPB E head n).nodes.length) : nd (endPB E head n).nodes i = (gn (grow2 E head n).nodes i).p := by
  have e := (fit3 hn).nodes
  have hl := end_len hn
  rw [e, gn_p _ (by omega)]
theorem rawE_at (hn : n ≤ (runE E head).1.length) {i : Nat} (h : i < (endPB E head n).nodes.length) : nd (rawE E head n) i = { (gn (grow2 E head n).nodes i).p with top := topE E head n i } := by
  unfold rawE
  rw [withTop_at _ _ h, end_at hn h]
theorem nodesE_at (hn : n ≤ (runE E head).1.length) {i : Nat} (h : i < (endPB E head n).nodes.length) : nd (nodesE E head n) i = { (gn (grow2 E head n).nodes i).p with top := topE E head n i, parent := parN (rawE E head n) i (endPB E head n).nodes.length } := by
  unfold nodesE
  rw [hung_at _ (by simpa using h), rawE_at hn h, rawE_length]
theorem forest_raw (hn : n ≤ (runE E head).1.length) : Forest (rawE E head n) := forest_of (ginv3 hn) (by rw [rawE_length, end_len hn]) fun i hi => by rw [rawE_at hn (by simpa using hi)]; rfl
theorem forest_nodes (hn : n ≤ (runE E head).1.length) : Forest (nodesE E head n) := forest_of (ginv3 hn) (by rw [nodesE_length, end_len hn]) fun i hi => by rw [nodesE_at hn (by simpa using hi), chl_with]
/-- How much there is. -/
theorem plan_counts (hE : E ≠ []) (hn : n ≤ (runE E head).1.length) : (midPB E head n).nodes.length = E.length + n ∧ (endPB E head n).nodes.length = E.length + n + (run2 E head n).1.length ∧
    n + 2 * (leftL E head n).length ≤ 3 * E.length ∧ (run2 E head n).1.length + 2 ≤ 3 * (leftL E head n).length ∧ (leftL E head n).length ≤ E.length := by
  have h0 : (startPB E).nodes.length = E.length := by simp [startPB, leafG_length]
  have h1 : ((runE E head).1.take n).length = n := by rw [List.length_take]; omega
  have h2 := (foldPB_len ((runE E head).1.take n) (startPB E)).1
  have h3 := (foldPB_len (run2 E head n).1 (secPB E head n)).1
  have h4 : (midPB E head n).nodes.length = E.length + n := by
    show (((runE E head).1.take n).foldl stepPB (startPB E)).nodes.length = _
    rw [h2, h0, h1]
  have h5 : (endPB E head n).nodes.length = E.length + n + (run2 E head n).1.length := by
    show ((run2 E head n).1.foldl stepPB (secPB E head n)).nodes.length = _
    rw [h3]
    show (midPB E head n).nodes.length + _ = _
    rw [h4]
  obtain ⟨c1, c2⟩ := rch_count (left_rch hn) (srt_begin E)
  have p1 := phi_le (beginE E) head
  rw [h1, begin_len] at c1
  rw [h1] at c2
  rw [begin_len] at p1
  have r2 : Rch 0#32 (beginE (setsL (leftL E head n))) (run2 E head n).1 (run2 E head n).2 := runE_rch _ _
  obtain ⟨d1, d2⟩ := rch_count r2 (srt_begin _)
  have p2 := phi_le (beginE (setsL (leftL E head n))) 0#32
  have hl : (beginE (setsL (leftL E head n))).length = (leftL E head n).length := by rw [begin_len]; simp [setsL]
  rw [hl] at d1 p2
  have m1 : 1 ≤ (run2 E head n).2.length := by
    have := run2_ne hE hn
    cases h : (run2 E head n).2 with
    | nil => exact absurd h this
    | cons a l => simp
  have l1 := (left_rch hn).len
  rw [begin_len] at l1
  exact ⟨h4, h5, by omega, by omega, l1⟩
theorem nodes_few (hE : E ≠ []) (hn : n ≤ (runE E head).1.length) : (endPB E head n).nodes.length + 2 ≤ 5 * E.length := by
  obtain ⟨_, h2, h3, h4, h5⟩ := plan_counts hE hn
  omega
theorem tops_few (hE : E ≠ []) (hn : n ≤ (runE E head).1.length) : (topsE E head n).length + 2 ≤ 4 * E.length := by
  obtain ⟨h1, h2, h3, h4, h5⟩ := plan_counts hE hn
  obtain ⟨r, hr, hlt⟩ := root_lt hE hn
  have h6 := ordF_len (nodesE E head n) (forest_nodes hn) (nodesE E head n).length r (by simpa using hlt)
  have h7 : (List.range (nodesE E head n).length).countP (fun k => (nd (nodesE E head n) k).top) = (List.range (nodesE E head n).length).countP (topE E head n) := List.countP_congr fun k hk => by
    have := List.mem_range.1 hk
    rw [nodesE_at hn (by simpa using this)]
  have h8 := count_split (nodesE E head n).length (fun i => decide (lowE E head n ≤ i)) (fun (i : Nat) => decide ((i : Int) ∈ (secPB E head n).pres))
  have h9 := count_low (lowE E head n) (nodesE E head n).length
  have h10 := count_mem (nodesE E head n).length (secPB E head n).pres
  have h11 : (secPB E head n).pres.length = (leftL E head n).length := by show ((leftL E head n).map _).length = _; rw [List.length_map]
  have h12 : lowE E head n = E.length + n := h1
  have h13 : topsE E head n = ordF (nodesE E head n) (nodesE E head n).length (r : Int) := by unfold topsE; rw [hr]
  rw [h13]
  have h14 : (List.range (nodesE E head n).length).countP (topE E head n) ≤ (nodesE E head n).length - lowE E head n + (secPB E head n).pres.length := by
    refine Nat.le_trans h8 ?_
    rw [h9]; omega
  rw [nodesE_length] at *
  omega
theorem sets_valid {V : Int} (hv : validB V E = true) (hn : n ≤ (runE E head).1.length) : validB V (setsL (leftL E head n)) = true := by
  obtain ⟨h0, h1, h2, _⟩ := validB_of hv
  have i := (left_rch hn).inv (inv_begin E)
  have l1 := (left_rch hn).len
  rw [begin_len] at l1
  refine validB_mk h0 h1 (by rw [show (setsL (leftL E head n)).length = (leftL E head n).length from by simp [setsL]]; omega) fun e he => ?_
  obtain ⟨x, hx, rfl⟩ := List.mem_map.1 he
  obtain ⟨hk, hc⟩ := i.cut x hx
  have e : x.2 = ed E x.1 &&& x.2 := hv_ext fun v => by
    rw [hv_and]; exact ⟨fun a => ⟨((hc v).1 a).1, a⟩, fun a => a.2⟩
  rw [e]; exact outB_and _ (validB_out hv _ (ed_mem E x.1 hk))
end
theorem ofE_valid {q : Qy} (h : GoodQ q) : validB (qvars q.atoms).length (ofE q) = true := by
  have h30 := qvars_length h.narrow h.few
  refine validB_mk (by omega) (by omega) (by rw [ofE_length]; have := h.few; omega) fun e he => ?_
  obtain ⟨a, _, rfl⟩ := List.mem_map.1 he
  refine outB_false_of (by omega) (by omega) fun v hv _ => ?_
  rw [inB_nat, getLsbD_setOf _ (by omega)]
  simp; omega
/-- The first phase has one end alone. -/
theorem firstOk_uniq {E : List (BitVec 32)} {head : BitVec 32} {ss : List Stp} {n m : Nat} {a b : Bool} (h : FirstOk E head ss n a) (k : FirstOk E head ss m b) : n = m ∧ a = b := by
  obtain ⟨h1, h2, h3⟩ := h
  obtain ⟨k1, k2, k3⟩ := k
  rcases Nat.lt_trichotomy n m with c | c | c
  · have := k2 n c
    rcases h3 with ⟨_, d⟩ | ⟨_, d, _⟩
    · rw [this] at d; cases d
    · omega
  · subst c
    refine ⟨rfl, ?_⟩
    rcases h3 with ⟨d, e⟩ | ⟨d, _, e⟩ <;> rcases k3 with ⟨f, g⟩ | ⟨f, _, g⟩
    · rw [d, f]
    · rw [e] at g; cases g
    · rw [e] at g; cases g
    · rw [d, f]
  · have := h2 m c
    rcases k3 with ⟨_, d⟩ | ⟨_, d, _⟩
    · rw [this] at d; cases d
    · omega
def planE (q : Qy) (n : Nat) : PPlan := ⟨qvars q.atoms, q.head.map fun h => atI (qvars q.atoms) h, nodesE (ofE q) (headW q) n, rootE (ofE q) (headW q) n, topsE (ofE q) (headW q) n⟩
def noPlan : PPlan := ⟨[], [], [], 0, []⟩
def MakeIs (q : Qy) (p : PPlan) (code : Int) : Prop :=
  (shapeC q ≠ 0 ∧ p = noPlan ∧ code = shapeC q) ∨
  (shapeC q = 0 ∧ acyB (qvars q.atoms).length (ofE q) = false ∧ p = noPlan ∧ code = 161) ∨
  (shapeC q = 0 ∧ acyB (qvars q.atoms).length (ofE q) = true ∧ (∃ n, FirstOk (ofE q) (headW q) (runE (ofE q) (headW q)).1 n false) ∧ p = noPlan ∧ code = 170) ∨
  (shapeC q = 0 ∧ acyB (qvars q.atoms).length (ofE q) = true ∧ ∃ n, FirstOk (ofE q) (headW q) (runE (ofE q) (headW q)).1 n true ∧ p = planE q n ∧ code = 0)
theorem makeIs_uniq {q : Qy} {p r : PPlan} {a b : Int} (h : MakeIs q p a) (k : MakeIs q r b) : p = r ∧ a = b := by
  rcases h with ⟨h1, rfl, rfl⟩ | ⟨h1, h2, rfl, rfl⟩ | ⟨h1, h2, ⟨n, h3⟩, rfl, rfl⟩ | ⟨h1, h2, n, h3, rfl, rfl⟩ <;>
    rcases k with ⟨k1, rfl, rfl⟩ | ⟨k1, k2, rfl, rfl⟩ | ⟨k1, k2, ⟨m, k3⟩, rfl, rfl⟩ | ⟨k1, k2, m, k3, rfl, rfl⟩ <;>
    first
    | exact absurd k1 h1
    | exact absurd h1 k1
    | exact absurd (h2.symm.trans k2) (by decide)
    | exact absurd (firstOk_uniq h3 k3).2 (by decide)
    | exact ⟨by rw [(firstOk_uniq h3 k3).1], rfl⟩
    | exact ⟨rfl, rfl⟩
theorem sets_next {L : Lt} {k : Nat} (h : k < L.length) : setsL (L.take (k + 1)) = setsL (L.take k) ++ [(lft L k).2] := by
  unfold setsL
  rw [List.take_add_one, List.getElem?_eq_getElem h, lft_eq L k h, List.map_append]; rfl
theorem pres2_next {L : Lt} (P : List Int) {k : Nat} (h : k < L.length) : pres2 (L.take (k + 1)) P = pres2 (L.take k) P ++ [pz P (lft L k).1] := by
  unfold pres2
  rw [List.take_add_one, List.getElem?_eq_getElem h, lft_eq L k h, List.map_append]; rfl
end Go.Proofs.YtdemmjofggemhaaDoor
