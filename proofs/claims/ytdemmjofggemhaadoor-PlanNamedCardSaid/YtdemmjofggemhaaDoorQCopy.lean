/- The contracts of osierref09.CopyAtom, Copy. -/
import Derived.Test.YtdemmjofggemhaaDoorBQ
import Derived.Laws.CopyRow
namespace Go.Proofs.YtdemmjofggemhaaDoor
open Go.RowKit

/-- 'copy' where an element has many cells. -/
theorem run_copy_size (w : World) (dT sT ty elem : TypeId) (size g dLen dCap : Nat) (a : Addr) (sLen sCap : Nat) (cur : Array Value) (t : TypeId) (cs : List Value)
    (hu : Tryd.prog.underlying dT = some (.slice elem)) (hs : (Tryd.prog.info? elem).map (·.size) = some size)
    (hg : w.heap[g]? = some (.cells cur t (0, 0))) (hn : cs.length = Nat.min sLen dLen * size)
    (hsrc : ∀ j v, cs[j]? = some v → w.cell? (a.add j) = some v) (hfit : cs.length ≤ cur.size) (h1 : ∀ v ∈ cs, v.oneCell' = true) :
    (Builtin.copy_ #[dT, sT] ty #[.slice (some ⟨g, 0, none⟩) dLen dCap, .slice (some a) sLen sCap]).run Tryd.prog w =
      .ok (goInt (Nat.min sLen dLen)) (w.setRow g (cs ++ cur.toList.drop cs.length).toArray) := by
  have hl := run_loadCells_list (P := Tryd.prog) w a cs hsrc
  have hst := run_storeCells_at Tryd.prog g 0 t cs 0 cur w hg (by simpa using hfit) h1
  simp only [Nat.add_zero, List.take_zero, List.nil_append, Nat.zero_add] at hst
  cases hq : Tryd.prog.info? elem with
  | none => simp [hq] at hs
  | some i =>
    have hi : i.size = size := by simpa [hq] using hs
    simp [Builtin.copy_, run_underlying hu, Builtin.lenOf, Builtin.firstCells, sizeOf, typeInfo, hq, hi, ← hn, hl, hst]
theorem run_copy_none9 (w : World) (dT sT ty elem : TypeId) (d a : Option Addr) (dLen dCap sLen sCap : Nat) (hu : Tryd.prog.underlying dT = some (.slice elem)) (hs : ((Tryd.prog.info? elem).map (·.size)).isSome = true) (hn : Nat.min sLen dLen = 0) :
    (Builtin.copy_ #[dT, sT] ty #[.slice d dLen dCap, .slice a sLen sCap]).run Tryd.prog w = .ok (goInt 0) w := by
  cases hq : Tryd.prog.info? elem with
  | none => simp [hq] at hs
  | some i =>
    have hl : ∀ (x : Addr), (loadCells x 0).run Tryd.prog w = .ok #[] w := fun x => by simpa using run_loadCells_list (P := Tryd.prog) w x [] (by simp)
    cases d <;> cases a <;> simp [Builtin.copy_, run_underlying hu, Builtin.lenOf, Builtin.firstCells, sizeOf, typeInfo, hq, hn, storeCells, hl]
section
variable {w : World} {ops : Array Oper} {rest : List Oper} {o : Oper} {a : Act} {Q : Exit → Act → World → Prop}
set_option maxRecDepth 100000 in
/-- A slice of structs copied whole into a new row of the same length. -/
theorem wp_copy_rows (hgd : o.guard = none) (d s : Operand) (T : TypeId)
    (ho : o.op = .call { callee := .builtin .copy, args := #[d, s], argTypes := #[T, T] }) (e : TypeId) (size : Nat) (hu : Tryd.prog.underlying T = some (.slice e)) (hsz : (Tryd.prog.info? e).map (·.size) = some size) (hs0 : 0 < size)
    (n c : Nat) (A : Option Addr) (zs xs : List Value) (hz : zs.length = n * size) (hn : xs.length = n * size) (g : Nat) (hd : a.eval d = .slice (some ⟨g, 0, none⟩) n n) (hs : a.eval s = .slice A n c)
    (hr : Row w g e zs) (hx : Rd w w.heap.size A xs) (h1 : ∀ v ∈ xs, v.oneCell' = true) (B : Nat) (hB : B ≤ g)
    (h : ∀ w', Row w' g e xs → Below B w w' → wpList Tryd.prog ops Q rest (a.put o.dst (goInt n)) w') : wpList Tryd.prog ops Q (o :: rest) a w := by
  refine wpList_plain hgd fun K hK => ?_
  by_cases h0 : n = 0
  · subst h0
    obtain rfl : xs = [] := List.eq_nil_of_length_eq_zero (by simpa using hn)
    obtain rfl : zs = [] := List.eq_nil_of_length_eq_zero (by simpa using hz)
    have hrun := run_copy_none9 w T T o.type e (some ⟨g, 0, none⟩) A 0 0 0 c hu (by rw [hsz]; rfl) rfl
    unfold Oper.wp
    simp [execOp, ho, resolve, invoke, builtin, hd, hs, hrun, Result.andThen]
    exact hK _ _ (h w hr (Below.refl _ _))
  · have hp : 0 < xs.length := by rw [hn]; exact Nat.mul_pos (by omega) hs0
    obtain ⟨ad, rfl, _, _⟩ := hx 0 hp
    have hrun := run_copy_size w T T o.type e size g n n ad n c zs.toArray e xs hu hsz hr (by simp [hn]) (fun j v hj => by
      obtain ⟨hj', rfl⟩ := List.getElem?_eq_some_iff.1 hj
      obtain ⟨ad', e', _, hc⟩ := hx j hj'
      injection e' with e'
      subst e'
      exact hc) (by simp [hn, hz]) h1
    have hm : Nat.min n n = n := Nat.min_self n
    rw [hm] at hrun
    have hdr : xs ++ zs.toArray.toList.drop xs.length = xs := by simp [hn, hz]
    rw [hdr] at hrun
    unfold Oper.wp
    simp [execOp, ho, resolve, invoke, builtin, hd, hs, hrun, Result.andThen]
    exact hK _ _ (h _ (setRow_heap w g _ _ e _ hr) (below_setRow (Below.refl _ _) hB _))
end
theorem mk_terms (n : Nat) (h : n ≤ 2932031007402) (w : World) : (Instr.makeSlice 45 (.int .i64 (n : Int)) (.int .i64 (n : Int))).run Tryd.prog w = .ok (.slice (some ⟨w.heap.size, 0, none⟩) n n) (w.alloc (.cells (madeCells #[.string ByteArray.empty, .int .i64 0, .int .i64 0, .string ByteArray.empty] (n * 4)) 52)) := by
  obtain ⟨i, hi, hz, hs1, hb1⟩ := info_parts Tryd.info_Term
  have hr := run_make (P := Tryd.prog) w 45 52 i _ Tryd.underlying45 hi hz .i64 .i64 n n (by omega) (Int.le_refl _) (by rw [hb1]; omega) (by omega)
  simp only [Int.toNat_natCast, hs1] at hr
  exact hr
theorem Tryd.size_Term : (Tryd.prog.info? 52).map (·.size) = some 4 := by kernel_rfl
set_option maxRecDepth 100000 in
theorem copyAtom_any (rel : ByteArray) (T : Option Addr) (ts : List Tm) (c : Nat) (w : World) (hl : ts.length ≤ 2932031007402) (hT : Rd w w.heap.size T (tms ts)) :
    Calls Tryd.prog 30 #[.agg #[.string rel, .slice T ts.length c]] w fun e w' => ∃ g, e = .returned (.agg #[.string rel, .slice (some ⟨g, 0, none⟩) ts.length ts.length]) ∧ w.heap.size ≤ g ∧ Row w' g 52 (tms ts) ∧ Below w.heap.size w w' := by
  have hmk := mk_terms ts.length hl
  go_enter Tryd.func30, Tryd.ntmps30
  go_wp2_with ((with_reducible show wpList _ _ _ _ _ _); refine wp_copy_rows rfl (.tmp 8) (.tmp 10) 45 rfl 52 4 Tryd.underlying45 Tryd.size_Term (by decide) ts.length c T (madeCells #[.string ByteArray.empty, .int .i64 0, .int .i64 0, .string ByteArray.empty] (ts.length * 4)).toList (tms ts) (by simp [size_madeCells]) (tms_length ts) (w.heap.size + 2) (by first | rfl | (simp; done)) rfl ?_ ?_ (tms_one ts) (w.heap.size + 2) (Nat.le_refl _) ?_)
  · have := heap_alloc_new ((w.alloc (.cells #[.string rel, .slice T ts.length c] 47)).alloc (.cells #[.string { data := #[] }, .slice none 0 0] 47)) (.cells (madeCells #[.string ByteArray.empty, .int .i64 0, .int .i64 0, .string ByteArray.empty] (ts.length * 4)) 52)
    unfold Row
    simpa using this
  · exact hT.later (((below_alloc w _).alloc (by simp) _).alloc (by simp; omega) _)
  · intro w1 hr hb
    have hbW : Below w.heap.size w (((w.alloc (.cells #[.string rel, .slice T ts.length c] 47)).alloc (.cells #[.string { data := #[] }, .slice none 0 0] 47)).alloc (.cells (madeCells #[.string ByteArray.empty, .int .i64 0, .int .i64 0, .string ByteArray.empty] (ts.length * 4)) 52)) := ((below_alloc w _).alloc (by simp) _).alloc (by simp; omega) _
    have hR0 : Row (((w.alloc (.cells #[.string rel, .slice T ts.length c] 47)).alloc (.cells #[.string { data := #[] }, .slice none 0 0] 47)).alloc (.cells (madeCells #[.string ByteArray.empty, .int .i64 0, .int .i64 0, .string ByteArray.empty] (ts.length * 4)) 52)) w.heap.size 47 [.string rel, .slice T ts.length c] := ((Row.new w _ _).alloc _).alloc _
    have hR1 : Row (((w.alloc (.cells #[.string rel, .slice T ts.length c] 47)).alloc (.cells #[.string { data := #[] }, .slice none 0 0] 47)).alloc (.cells (madeCells #[.string ByteArray.empty, .int .i64 0, .int .i64 0, .string ByteArray.empty] (ts.length * 4)) 52)) (w.heap.size + 1) 47 [.string { data := #[] }, .slice none 0 0] := (Row.new_ (by simp)).alloc _
    replace hR0 := hR0.below hb (by omega)
    replace hR1 := hR1.below hb (by omega)
    replace hb := hbW.trans (hb.mono (by omega))
    clear hbW hmk
    have d0 : w1.cell? ⟨w.heap.size, 0, none⟩ = some (.string rel) := hR0.cell 0
    have e0 : w1.cell? ⟨w.heap.size + 1, 0, none⟩ = some (.string { data := #[] }) := hR1.cell 0
    have e1 : w1.cell? ⟨w.heap.size + 1, 1, none⟩ = some (.slice none 0 0) := hR1.cell 1
    have f0 := hR1.frozen 0
    have f1 := hR1.frozen 1
    have hlt := hR1.lt
    go_wp2_with fail
    have hR2 := (hR1.set_ 0 (.string rel)).set_ 1 (.slice (some ⟨w.heap.size + 2, 0, none⟩) ts.length ts.length)
    have z1 : ((w1.setCell ⟨w.heap.size + 1, 0, none⟩ (.string rel)).setCell ⟨w.heap.size + 1, 1, none⟩ (.slice (some ⟨w.heap.size + 2, 0, none⟩) ts.length ts.length)).cell? ⟨w.heap.size + 1, 0, none⟩ = some (.string rel) := hR2.cell 0
    have z2 : ((w1.setCell ⟨w.heap.size + 1, 0, none⟩ (.string rel)).setCell ⟨w.heap.size + 1, 1, none⟩ (.slice (some ⟨w.heap.size + 2, 0, none⟩) ts.length ts.length)).cell? ⟨w.heap.size + 1, 1, none⟩ = some (.slice (some ⟨w.heap.size + 2, 0, none⟩) ts.length ts.length) := hR2.cell 1
    refine bodyPost_ret (v := .agg #[.string rel, .slice (some ⟨w.heap.size + 2, 0, none⟩) ts.length ts.length]) (by simp [results, Tryd.results30, go_sem, z1, z2]) rfl ?_
    exact ⟨_, rfl, by omega, (hr.far (p := ⟨w.heap.size + 1, 0, none⟩) (by simp) _).far (p := ⟨w.heap.size + 1, 1, none⟩) (by simp) _, (hb.setCell (by simp) _).setCell (by simp) _⟩

theorem Tryd.info_Atom : (Tryd.prog.info? 47).map (fun i => (i.zero, i.size, i.bytes)) = some (some (.agg #[.string ByteArray.empty, .slice none 0 0]), 2, 40) := by kernel_rfl

/-! ### The query's copy -/
def aC (a : Am) (g : Nat) : List Value := [.string a.rel, .slice (some ⟨g, 0, none⟩) a.terms.length a.terms.length]
/-- The cells of the first k atoms, their terms in the blocks that G tells. -/
def atC (xs : List Am) (G : Nat → Nat) (k : Nat) : List Value := (List.range k).flatMap fun i => aC (am xs i) (G i)
theorem atC_length (xs : List Am) (G : Nat → Nat) (k : Nat) : (atC xs G k).length = k * 2 := by
  induction k with
  | zero => rfl
  | succ k ih => unfold atC at ih ⊢; rw [List.range_succ, List.flatMap_append, List.length_append, ih]; simp [aC]; omega
theorem atC_next (xs : List Am) (G : Nat → Nat) (k g : Nat) : atC xs (fun i => if i = k then g else G i) (k + 1) = atC xs G k ++ aC (am xs k) g := by
  unfold atC
  rw [List.range_succ, List.flatMap_append, List.flatMap_singleton]
  simp only [if_true]
  congr 1
  rw [List.flatMap_def, List.flatMap_def]
  refine congrArg List.flatten (List.map_congr_left ?_)
  intro i hi
  have := List.mem_range.1 hi
  rw [if_neg (by omega)]
theorem atC_at (xs : List Am) (G : Nat → Nat) (n k j : Nat) (hk : k < n) (hj : j < 2) : (atC xs G n)[k * 2 + j]? = (aC (am xs k) (G k))[j]? := by
  have := flat_at (f := fun i => aC (am xs i) (G i)) (m := 2) (fun _ => rfl) (List.range n) k j (by simpa using hk) hj
  simpa [atC] using this
/-- Atoms whose terms lie in blocks of their own. -/
theorem Ats.of_own {w : World} {B : Nat} {A : Option Addr} {xs : List Am} {G : Nat → Nat} (h : Rd w B A (atC xs G xs.length)) (hG : ∀ i, i < xs.length → Row w (G i) 52 (tms (am xs i).terms)) (hB : B = w.heap.size) : Ats w B A xs := fun k hk => by
  have hl := atC_length xs G xs.length
  obtain ⟨ad, e, hlt, hc0⟩ := h (k * 2 + 0) (by omega)
  obtain ⟨ad', e', _, hc1⟩ := h (k * 2 + 1) (by omega)
  rw [e] at e'
  injection e' with e'
  subst e'
  have h0 := atC_at xs G xs.length k 0 hk (by omega)
  have h1 := atC_at xs G xs.length k 1 hk (by omega)
  rw [List.getElem?_eq_getElem (by omega)] at h0 h1
  refine ⟨ad, e, hlt, hc0.trans h0, some ⟨G k, 0, none⟩, (am xs k).terms.length, (add_off ad (k * 2) 0) ▸ hc1.trans h1, ?_, fun z => by cases z⟩
  rw [hB]
  exact (hG k hk).rd
theorem below_undrew9 {w w' : World} (h : Below w.drew.heap.size w.drew w') : Below w.heap.size w w' := ⟨h.os, h.tape, h.output, h.size, h.block⟩

theorem grown_alloc9 {w w' : World} {o : Obj} {r : Option Nat} (h : (w.alloc o).grownBy w' r) : w.grownBy w' r :=
  ⟨h.os, h.tape, h.output, by have := h.size; simp at this; omega, fun k hk hne => (h.block k (by simp; omega) hne).trans (Below.heap_alloc w o k hk)⟩
section
variable {wr : World} {ops : Array Oper} {o : Oper} {ac : Act} {K : Act → World → Prop} {Q : Exit → Act → World → Prop} {F : Prop}
set_option maxRecDepth 100000 in
theorem step_atom (hgd : o.guard = none) (s x : Operand) (ho : o.op = .call { callee := .builtin .append, args := #[s, x], argTypes := #[23, 23] })
    (base : Nat) (v : Value) (xs : List Am) (G : Nat → Nat) (k : Nat) (a : Am) (g : Nat) (hs : ac.eval s = v) (hx : ac.eval x = .slice (some ⟨wr.heap.size, 0, none⟩) 1 1) (hown : wr.ownsRow base 47 2 v k (atC xs G k))
    (hn : (k + 1) * 40 ≤ 140737488355328) (hbase : base ≤ wr.heap.size)
    (h : ∀ A' c' w', w'.ownsRow base 47 2 (.slice A' (k + 1) c') (k + 1) (atC xs G k ++ aC a g) → wr.grownBy w' v.ownBlock → Below base wr w' → K (ac.put o.dst (.slice A' (k + 1) c')) w') :
    if Region.wanted o (yielded ops ac.tmps) = true then Oper.wp Tryd.prog o ac (wr.alloc (.cells #[.string a.rel, .slice (some ⟨g, 0, none⟩) a.terms.length a.terms.length] 47)) K Q else F := by
  refine step_app_src Tryd.underlying23 Tryd.info_Atom rfl (by decide) hgd s x ho base v k (atC xs G k) (some ⟨wr.heap.size, 0, none⟩) 1 1 (aC a g) hs hx (hown.alloc _) rfl (Row.rd (Row.new wr 47 (aC a g))) (fun z => by cases z) (by simp [aC, Value.oneCell']) (by omega) hn (by simp; omega) ?_
  intro v' w' hown' hgr hb' _
  obtain ⟨A', c', rfl, -⟩ := Rd.of_ownS hown'
  exact h A' c' w' hown' (grown_alloc9 hgr) (((Below.refl _ _).alloc hbase _).trans hb')
end

theorem rowq_ne {w : World} {g g' : Nat} {t t' : TypeId} {xs ys : List Value} (h : Row w g t xs) (h' : Row w g' t' ys) (hne : t ≠ t') : g ≠ g' := fun e => by
  subst e
  unfold Row at h h'
  rw [h] at h'
  injection h' with h'
  injection h' with _ ht
  exact hne ht
/-- The blocks G 0, G 1, .. lie behind base, each behind the ones ahead of it. -/
def GsUp (base : Nat) (G : Nat → Nat) (k : Nat) : Prop := ∀ i, i < k → base ≤ G i ∧ ∀ j, j < i → G j < G i
theorem GsUp.next {base : Nat} {G : Nat → Nat} {k g : Nat} (h : GsUp base G k) (hb : base ≤ g) (hg : ∀ i, i < k → G i < g) : GsUp base (fun i => if i = k then g else G i) (k + 1) := fun i hi => by
  by_cases c : i = k
  · subst c
    simp only [if_true]
    exact ⟨hb, fun j hj => by rw [if_neg (by omega)]; exact hg j hj⟩
  · simp only [if_neg c]
    exact ⟨(h i (by omega)).1, fun j hj => by rw [if_neg (by omega)]; exact (h i (by omega)).2 j hj⟩
theorem GsUp.ne {base : Nat} {G : Nat → Nat} {k i j : Nat} (h : GsUp base G k) (hi : i < k) (hj : j < k) (hne : i ≠ j) : G i ≠ G j := by
  rcases Nat.lt_or_ge i j with c | c
  · have := (h j hj).2 i c; omega
  · have := (h i hi).2 j (by omega); omega
set_option maxHeartbeats 4000000 in
set_option maxRecDepth 100000 in
theorem copyQ_own (q : Qy) (AH : Option Addr) (cH : Nat) (AA : Option Addr) (cA : Nat) (w : World) (hq : SzQ q) (hH : Rd w w.heap.size AH (ss q.head)) (hA : Ats w w.heap.size AA q.atoms) :
    Calls Tryd.prog 7 #[.agg #[.string q.name, .slice AH q.head.length cH, .slice AA q.atoms.length cA]] w fun e w' => ∃ gh A1 c1 G, e = .returned (.agg #[.string q.name, .slice (some ⟨gh, 0, none⟩) q.head.length q.head.length, .slice A1 q.atoms.length c1]) ∧ Row w' gh 9 (ss q.head) ∧ w.heap.size ≤ gh ∧
      w'.ownsRow w.heap.size 47 2 (.slice A1 q.atoms.length c1) q.atoms.length (atC q.atoms G q.atoms.length) ∧ (∀ i, i < q.atoms.length → Row w' (G i) 52 (tms (am q.atoms i).terms)) ∧ GsUp w.heap.size G q.atoms.length ∧ Below w.heap.size w w' := by
  obtain ⟨name, head, xs⟩ := q
  have hfh := hq.few
  have hfa := hq.fewA
  have hat := hq.atoms
  clear hq
  simp only at hfh hfa hat hH hA ⊢
  have HTX := Lib.hid texts_any
  have HCA := Lib.hid copyAtom_any
  go_enter Tryd.func7, Tryd.ntmps7
  go_upto_region 1 with fail
  have hb0 : Below w.heap.size w ((w.alloc (.cells #[.string name, .slice AH head.length cH, .slice AA xs.length cA] 25)).alloc (.cells #[.string { data := #[] }, .slice none 0 0, .slice none 0 0] 25)) := (below_alloc w _).alloc (by simp) _
  have hQ0 : Row ((w.alloc (.cells #[.string name, .slice AH head.length cH, .slice AA xs.length cA] 25)).alloc (.cells #[.string { data := #[] }, .slice none 0 0, .slice none 0 0] 25)) w.heap.size 25 [.string name, .slice AH head.length cH, .slice AA xs.length cA] := (Row.new w _ _).alloc _
  have hR0 : Row ((w.alloc (.cells #[.string name, .slice AH head.length cH, .slice AA xs.length cA] 25)).alloc (.cells #[.string { data := #[] }, .slice none 0 0, .slice none 0 0] 25)) (w.heap.size + 1) 25 [.string { data := #[] }, .slice none 0 0, .slice none 0 0] := Row.new_ (by simp)
  generalize (w.alloc _).alloc _ = w0 at hb0 hQ0 hR0 ⊢
  have hH0 := hH.later hb0
  have hA0 := hA.later hb0
  have q0 : w0.cell? ⟨w.heap.size, 0, none⟩ = some (.string name) := hQ0.cell 0
  have q1 : w0.cell? ⟨w.heap.size, 1, none⟩ = some (.slice AH head.length cH) := hQ0.cell 1
  clear hH
  go_cut [3] (fun p wc => ∃ gh gq, p = .pointer (some ⟨gq, 0, none⟩) ∧ Row wc gh 9 (ss head) ∧ Row wc gq 25 [.string name, .slice (some ⟨gh, 0, none⟩) head.length head.length, .slice none 0 0] ∧ w0.heap.size ≤ gh ∧ w0.heap.size ≤ gq ∧ gh ≠ gq ∧ Below w0.heap.size w0 wc)
  case first =>
    have hZ1 : Row (w0.alloc (.cells #[.string { data := #[] }, .slice none 0 0, .slice none 0 0] 25)) w0.heap.size 25 [.string { data := #[] }, .slice none 0 0, .slice none 0 0] := Row.new _ _ _
    have hbZ := below_alloc w0 (.cells #[.string { data := #[] }, .slice none 0 0, .slice none 0 0] 25)
    have hHZ := hH0.later hbZ
    have hQZ := hQ0.later hbZ
    generalize hWZ : w0.alloc (.cells #[.string { data := #[] }, .slice none 0 0, .slice none 0 0] 25) = wz at hZ1 hbZ hHZ hQZ
    have z0 : wz.cell? ⟨w.heap.size, 0, none⟩ = some (.string name) := hQZ.cell 0
    have z1 : wz.cell? ⟨w.heap.size, 1, none⟩ = some (.slice AH head.length cH) := hQZ.cell 1
    go_region_law (first
      | (go_simp; go_at_call 29; refine (HTX.out AH head cH w0.drew (by omega) (show Rd w0.drew w0.drew.heap.size AH (ss head) from hH0)).mono ?_; rintro e w1 ⟨gh, rfl, hgh, hRg, hb1⟩; replace hb1 := below_undrew9 hb1; have q0 : w1.cell? ⟨w.heap.size, 0, none⟩ = some (.string name) := (hQ0.later hb1).cell 0; have ql : w.heap.size < w1.heap.size := (hQ0.later hb1).lt)
      | (go_simp; go_at_call 29; refine (HTX.out AH head cH wz.drew (by omega) (show Rd wz.drew wz.drew.heap.size AH (ss head) from hHZ)).mono ?_; rintro e w1 ⟨gh, rfl, hgh, hRg, hb1⟩; replace hb1 := below_undrew9 hb1; have hX1 := hZ1.later hb1; have q0 : w1.cell? ⟨w.heap.size, 0, none⟩ = some (.string name) := (hQZ.later hb1).cell 0; have x0 := hX1.frozen 0; have x1 := hX1.frozen 1; have x2 := hX1.frozen 2; have x3 : w1.cell? ⟨w0.heap.size, 0, none⟩ = some (.string { data := #[] }) := hX1.cell 0; have x4 : w1.cell? ⟨w0.heap.size, 1, none⟩ = some (.slice none 0 0) := hX1.cell 1; have x5 : w1.cell? ⟨w0.heap.size, 2, none⟩ = some (.slice none 0 0) := hX1.cell 2))
    all_goals
      go_wp2_with fail
      go_meet
      first
        | (have hX2 := ((hX1.set_ 0 (.string name)).set_ 1 (.slice (some ⟨gh, 0, none⟩) head.length head.length)).set_ 2 (.slice none 0 0)
           exact ⟨gh, w0.heap.size, rfl, ((hRg.far (by have := hZ1.lt; have : wz.heap.size ≤ gh := hgh; simp; omega) _).far (by have := hZ1.lt; have : wz.heap.size ≤ gh := hgh; simp; omega) _).far (by have := hZ1.lt; have : wz.heap.size ≤ gh := hgh; simp; omega) _, hX2, Nat.le_trans hbZ.size hgh, Nat.le_refl _, by have := hZ1.lt; have : wz.heap.size ≤ gh := hgh; omega, (((hbZ.trans (hb1.mono hbZ.size)).setCell (by simp) _).setCell (by simp) _).setCell (by simp) _⟩)
        | exact ⟨gh, w1.heap.size, rfl, hRg.alloc _, Row.new _ _ _, hgh, hb1.size, by have := hRg.lt; omega, hb1.alloc hb1.size _⟩
  case rest =>
    obtain ⟨gh, gq, rfl, hRg, hRq, hgh, hgq, hne, hb1⟩ := hcut
    have hB1 := bthen hb0 hb1
    have hQ1 := hQ0.later hb1
    have hA1 := hA0.later hb1
    have hR1 := hR0.later hb1
    have hlq : w.heap.size < w0.heap.size := hQ0.lt
    have hlr : w.heap.size + 1 < w0.heap.size := hR0.lt
    clear hb0 hb1 hQ0 hA0 hH0 q0 q1 hR0
    go_wp2_with fail
    go_loopw [4] (fun i wr => ∃ (k : Nat) (A : Option Addr) (c : Nat) (G : Nat → Nat), k ≤ xs.length ∧ i = .int .i64 k ∧ Row wr gh 9 (ss head) ∧ Row wr gq 25 [.string name, .slice (some ⟨gh, 0, none⟩) head.length head.length, .slice A k c] ∧ Row wr w.heap.size 25 [.string name, .slice AH head.length cH, .slice AA xs.length cA] ∧ Row wr (w.heap.size + 1) 25 [.string { data := #[] }, .slice none 0 0, .slice none 0 0] ∧ wr.ownsRow w.heap.size 47 2 (.slice A k c) k (atC xs G k) ∧ (∀ i, i < k → Row wr (G i) 52 (tms (am xs i).terms)) ∧ GsUp w.heap.size G k ∧ Below w.heap.size w wr) (fun i _ => xs.length - (intOf i).toNat)
    case atStart => exact ⟨0, none, 0, fun _ => 0, Nat.zero_le _, rfl, hRg, hRq, hQ1, hR1, World.ownsRow_nil _ _ _ _, fun i hi => absurd hi (Nat.not_lt_zero _), fun i hi => absurd hi (Nat.not_lt_zero _), hB1⟩
    case round =>
      clear hRg hRq hQ1 hR1 hA1 hB1
      obtain ⟨k, A, c, G, hk, rfl, hRg, hRq, hQ, hR, hown, hG, hU, hb⟩ := hrel
      have q2 : wr.cell? ⟨w.heap.size, 2, none⟩ = some (.slice AA xs.length cA) := hQ.cell 2
      by_cases hlt : k < xs.length
      · obtain ⟨ad, hAd, _, hc, T, cT, hc1, hTr, hTn⟩ := (hA.later hb) k hlt
        subst hAd
        have b1 : (0 : Int) ≤ k := by omega
        have b2 : (k : Int) < xs.length := by omega
        have HN : Hid (∀ g, atC xs (fun i => if i = k then g else G i) (k + 1) = atC xs G k ++ aC (am xs k) g) := Lib.hid fun g => atC_next xs G k g
        have HG : Hid (∀ g (x : World), (∀ i, i < k → Row x (G i) 52 (tms (am xs i).terms)) → Row x g 52 (tms (am xs k).terms) → ∀ i, i < k + 1 → Row x (if i = k then g else G i) 52 (tms (am xs i).terms)) := Lib.hid fun g x h1 h2 i hi => by
          by_cases e : i = k
          · subst e; rw [if_pos rfl]; exact h2
          · rw [if_neg e]; exact h1 i (by omega)
        have hfk := (hat _ (am_mem xs k hlt)).few
        generalize am xs k = a at hc hc1 hTr HN HG hfk
        have m0 : wr.cell? ⟨gq, 2, none⟩ = some (.slice A k c) := hRq.cell 2
        have m1 := hRq.frozen 2
        go_upto_region 5 with fail
        go_region_law (first
          | (go_simp; go_at_call 30; refine (HCA.out a.rel T a.terms cT wr.drew (by omega) (show Rd wr.drew wr.drew.heap.size T (tms a.terms) from hTr)).mono ?_; rintro e w4 ⟨g, rfl, hg, hRt, hb4⟩; replace hb4 := below_undrew9 hb4; have hRq4 := hRq.later hb4; have hown4 := own_below hown hb4; have hB4 := hb.trans (hb4.mono hb.size); have m2 : w4.cell? ⟨gq, 2, none⟩ = some (.slice A k c) := hRq4.cell 2; have m3 := hRq4.frozen 2; have m4 := hRq4.lt)
          | (refine step_atom (wr := w4) rfl (.tmp 19) (.tmp 26) rfl w.heap.size (.slice A k c) xs G k a g (by first | rfl | go_simp) (by first | rfl | go_simp) hown4 (by omega) hB4.size ?_; intro A' c' w' hown' hgr hb'; have hRq5 := hRq4.grown hgr (own_row_ne hown4 hRq4 (by decide)); have m5 : w'.cell? ⟨gq, 2, none⟩ = some (.slice A k c) := hRq5.cell 2; have m6 := hRq5.frozen 2; have m7 := hRq5.lt))
        all_goals
          have hU4 := hU.next (g := g) (Nat.le_trans hb.size hg) fun i hi => Nat.lt_of_lt_of_le (hG i hi).lt hg
          have hRg4 := hRg.later hb4
          have hQ4 := hQ.later hb4
          have hR4 := hR.later hb4
          have hRg5 := hRg4.grown hgr (own_row_ne hown4 hRg4 (by decide))
          have hQ5 := hQ4.grown hgr (own_row_ne hown4 hQ4 (by decide))
          have hR5 := hR4.grown hgr (own_row_ne hown4 hR4 (by decide))
          have hG5 : ∀ i, i < k → Row w' (G i) 52 (tms (am xs i).terms) := fun i hi => ((hG i hi).later hb4).grown hgr (own_row_ne hown4 ((hG i hi).later hb4) (by decide))
          have hRt5 := hRt.grown hgr (own_row_ne hown4 hRt (by decide))
          have hRg6 := hRg5.far (p := ⟨gq, 2, none⟩) (by simpa using hne) (.slice A' (k + 1) c')
          have hQ6 := hQ5.far (p := ⟨gq, 2, none⟩) (by simp; omega) (.slice A' (k + 1) c')
          have hR6 := hR5.far (p := ⟨gq, 2, none⟩) (by simp; omega) (.slice A' (k + 1) c')
          have hRq6 := hRq5.set_ 2 (.slice A' (k + 1) c')
          have hG6 := HG.out g (w'.setCell ⟨gq, 2, none⟩ (.slice A' (k + 1) c')) (fun i hi => (hG5 i hi).far (p := ⟨gq, 2, none⟩) (rowq_ne (hG5 i hi) hRq5 (by decide)) _) (hRt5.far (p := ⟨gq, 2, none⟩) (rowq_ne hRt5 hRq5 (by decide)) _)
          have hown6 := own_grown hown' (grown_set9 (grown_below9 (Below.refl w'.heap.size w') (some gq)) 2 (.slice A' (k + 1) c')) fun x hx => by
            injection hx with hx
            subst hx
            exact own_row_ne hown' hRq5 (by decide)
          have hB6 : Below w.heap.size w (w'.setCell ⟨gq, 2, none⟩ (.slice A' (k + 1) c')) := (hB4.trans hb').setCell (by simp; omega) _
          rw [← HN.out g] at hown6
          clear hRg hRq hQ hR hown hG hU hb hc hc1 hTr hRt hRq4 hown4 hB4 hgr hb' hRq5 m0 m1 m2 m3 m4 m5 m6 m7 hRg4 hQ4 hR4 hRg5 hQ5 hR5 hG5 hRt5 hb4 q2 hown'
          generalize w'.setCell _ _ = w6 at hRg6 hQ6 hR6 hRq6 hG6 hown6 hB6 ⊢
          go_wp2_with fail
          go_roundw
          case rel => exact ⟨k + 1, A', c', fun i => if i = k then g else G i, by omega, by go_num, hRg6, hRq6, hQ6, hR6, hown6, hG6, hU4, hB6⟩
          case measure => simp [intOf]; omega
      · obtain rfl : k = xs.length := by omega
        have d0 : wr.cell? ⟨gq, 0, none⟩ = some (.string name) := hRq.cell 0
        have d1 : wr.cell? ⟨gq, 1, none⟩ = some (.slice (some ⟨gh, 0, none⟩) head.length head.length) := hRq.cell 1
        have d2 : wr.cell? ⟨gq, 2, none⟩ = some (.slice A xs.length c) := hRq.cell 2
        have e0 : wr.cell? ⟨w.heap.size + 1, 0, none⟩ = some (.string { data := #[] }) := hR.cell 0
        have e1 : wr.cell? ⟨w.heap.size + 1, 1, none⟩ = some (.slice none 0 0) := hR.cell 1
        have e2 : wr.cell? ⟨w.heap.size + 1, 2, none⟩ = some (.slice none 0 0) := hR.cell 2
        have f0 := hR.frozen 0
        have f1 := hR.frozen 1
        have f2 := hR.frozen 2
        have hlt2 := hR.lt
        have hF := ((hR.set_ 0 (.string name)).set_ 1 (.slice (some ⟨gh, 0, none⟩) head.length head.length)).set_ 2 (.slice A xs.length c)
        have hown2 := own_grown hown (grown_set9 (grown_set9 (grown_set9 (grown_below9 (Below.refl wr.heap.size wr) (some (w.heap.size + 1))) 0 (.string name)) 1 (.slice (some ⟨gh, 0, none⟩) head.length head.length)) 2 (.slice A xs.length c)) fun x hx => by
          injection hx with hx
          subst hx
          exact own_row_ne hown hR (by decide)
        have far3 : ∀ {g : Nat} {t : TypeId} {ys : List Value}, Row wr g t ys → t ≠ 25 → Row (((wr.setCell ⟨w.heap.size + 1, 0, none⟩ (.string name)).setCell ⟨w.heap.size + 1, 1, none⟩ (.slice (some ⟨gh, 0, none⟩) head.length head.length)).setCell ⟨w.heap.size + 1, 2, none⟩ (.slice A xs.length c)) g t ys := fun h hn => by
          have hg := rowq_ne h hR hn
          exact ((h.far (p := ⟨w.heap.size + 1, 0, none⟩) hg _).far (p := ⟨w.heap.size + 1, 1, none⟩) hg _).far (p := ⟨w.heap.size + 1, 2, none⟩) hg _
        have hRg2 := far3 hRg (by decide)
        have hG2 := fun i hi => far3 (hG i hi) (by decide)
        have hB2 : Below w.heap.size w (((wr.setCell ⟨w.heap.size + 1, 0, none⟩ (.string name)).setCell ⟨w.heap.size + 1, 1, none⟩ (.slice (some ⟨gh, 0, none⟩) head.length head.length)).setCell ⟨w.heap.size + 1, 2, none⟩ (.slice A xs.length c)) := ((hb.setCell (by simp) _).setCell (by simp) _).setCell (by simp) _
        clear far3 hRg hQ hG hown hat
        go_wp2_with fail
        generalize ((wr.setCell _ _).setCell _ _).setCell _ _ = wf at hF hown2 hRg2 hG2 hB2 ⊢
        have z0 : wf.cell? ⟨w.heap.size + 1, 0, none⟩ = some (.string name) := hF.cell 0
        have z1 : wf.cell? ⟨w.heap.size + 1, 1, none⟩ = some (.slice (some ⟨gh, 0, none⟩) head.length head.length) := hF.cell 1
        have z2 : wf.cell? ⟨w.heap.size + 1, 2, none⟩ = some (.slice A xs.length c) := hF.cell 2
        refine bodyPost_ret (v := .agg #[.string name, .slice (some ⟨gh, 0, none⟩) head.length head.length, .slice A xs.length c]) (by simp [results, Tryd.results7, go_sem, z0, z1, z2]) rfl ?_
        exact ⟨gh, _, _, G, rfl, hRg2, Nat.le_trans (by omega) hgh, hown2, hG2, hU, hB2⟩
theorem copyQ_any (q : Qy) (AH : Option Addr) (cH : Nat) (AA : Option Addr) (cA : Nat) (w : World) (hq : SzQ q) (hH : Rd w w.heap.size AH (ss q.head)) (hA : Ats w w.heap.size AA q.atoms) :
    Calls Tryd.prog 7 #[.agg #[.string q.name, .slice AH q.head.length cH, .slice AA q.atoms.length cA]] w fun e w' => ∃ gh A1 c1, e = .returned (.agg #[.string q.name, .slice (some ⟨gh, 0, none⟩) q.head.length q.head.length, .slice A1 q.atoms.length c1]) ∧ Row w' gh 9 (ss q.head) ∧ Ats w' w'.heap.size A1 q.atoms ∧ Below w.heap.size w w' := by
  refine (copyQ_own q AH cH AA cA w hq hH hA).mono ?_
  rintro e w' ⟨gh, A1, c1, G, rfl, h1, _, hown, hG, _, hB⟩
  obtain ⟨_, _, e5, _, _, hRd, _⟩ := Rd.of_ownS hown
  injection e5 with e5 _ e6
  subst e5 e6
  exact ⟨gh, _, _, rfl, h1, Ats.of_own hRd hG rfl, hB⟩
end Go.Proofs.YtdemmjofggemhaaDoor
