/- A query that came in, as the walks want it. -/
import Derived.Test.YtdemmjofggemhaaDoorOpen
import Derived.Test.YtdemmjofggemhaaDoorBQ
import Derived.Deep.Slices
import Derived.Deep.Strs
import Derived.SliceStrings
namespace Go.Proofs.YtdemmjofggemhaaDoor
open Go.ChangeShapes Go.WideShapes Go.ChangeAt Go.RowKit Go.Joins

instance : Inhabited Tm := ⟨⟨ByteArray.empty, 0, 0, ByteArray.empty⟩⟩
instance : Inhabited Am := ⟨⟨ByteArray.empty, []⟩⟩
theorem Tryd.cellsQuery : Tryd.prog.cellsOf 25 = 3 := by kernel_rfl
theorem Tryd.cellsAtom : Tryd.prog.cellsOf 47 = 2 := by kernel_rfl
theorem Tryd.cellsTerm : Tryd.prog.cellsOf 52 = 4 := by kernel_rfl
theorem Tryd.cellsValue : Tryd.prog.cellsOf 50 = 3 := by kernel_rfl
theorem Tryd.cellsStr : Tryd.prog.cellsOf 9 = 1 := by kernel_rfl
theorem Tryd.cellsStrs : Tryd.prog.cellsOf 22 = 1 := by kernel_rfl
theorem Tryd.cellsAtoms : Tryd.prog.cellsOf 23 = 1 := by kernel_rfl
theorem Tryd.cellsTerms : Tryd.prog.cellsOf 45 = 1 := by kernel_rfl
theorem Tryd.cellsKindV : Tryd.prog.cellsOf 48 = 1 := by kernel_rfl
theorem Tryd.cellsI64 : Tryd.prog.cellsOf 2 = 1 := by kernel_rfl
theorem Tryd.bytesStr : Tryd.prog.bytesOf 9 = 16 := by kernel_rfl
theorem Tryd.bytesAtom : Tryd.prog.bytesOf 47 = 40 := by kernel_rfl
theorem Tryd.bytesTerm : Tryd.prog.bytesOf 52 = 48 := by kernel_rfl

section
variable {H : Type} {enc : TypeId × Value → H} {W : World}
set_option maxRecDepth 100000 in
/-- A slice of texts. -/
theorem open_texts {n : Nat} {cs : List Value} {x : DataW H × List MemPlace} (h : DataW.trod enc Tryd.prog W 0 (fun _ => true) true n 22 cs = some x) :
    ∃ (A : Option Addr) (L : List ByteArray) (c : Nat), cs = [.slice A L.length c] ∧ Rd W W.heap.size A (ss L) ∧ (∀ s ∈ L, s.size ≤ 9223372036854775807) ∧
      ((DataW.weights Tryd.prog 22 x.1).all (· ≤ reachBytes) = true → L.length ≤ 8796093022208) := by
  rcases open_strings Tryd.underlying22 Tryd.underlying9 Tryd.cellsStr h with ⟨rfl, rfl⟩ | ⟨a, len, cap, sx, rfl, _, hl, _, hz, rfl, hc, hsz⟩
  · exact ⟨none, [], 0, rfl, Rd.nil, fun s hs => by simp at hs, fun _ => Nat.zero_le _⟩
  · have hzl : sx.length = cap := by simpa using hz
    have hLl : (sx.take len).length = len := by simp; omega
    refine ⟨some a, sx.take len, cap, by rw [hLl], fun k hk => ?_, fun s hs => ?_, fun hw => ?_⟩
    · have hk' : k < len := by rw [ss_length, hLl] at hk; exact hk
      have hcell := hc k (by omega)
      refine ⟨a, rfl, ?_, ?_⟩
      · have := World.block_lt_of_cell? _ _ hcell
        rwa [block_add] at this
      · rw [hcell]
        have hkz : k < sx.length := by omega
        simp [ss, hkz]
    · have := hsz s (List.mem_of_mem_take hs)
      simpa [maxLen] using this
    · rw [hLl]
      have := List.all_eq_true.1 hw (((strs (H := H) (sx.take len)).length + (strs (H := H) (sx.drop len)).length) * Tryd.prog.bytesOf 9) (by
        simp [DataW.weights, Tryd.underlying22])
      rw [Tryd.bytesStr] at this
      have h2 := of_decide_eq_true this
      simp only [reachBytes] at h2
      have h3 : (strs (H := H) (sx.take len)).length = len := by simp [strs]; omega
      omega
set_option maxRecDepth 100000 in
/-- The cells of a term. -/
theorem open_term_cells {n : Nat} {cs : List Value} {y : DataW H × List MemPlace} (h : DataW.trod enc Tryd.prog W 0 (fun _ => true) true n 52 cs = some y) :
    ∃ t : Tm, cs = tC t ∧ SzT t := by
  obtain ⟨y0, y1, m, _, hl, h0, h1⟩ := trod_struct2 Tryd.underlying52 h
  rw [Tryd.cellsTerm] at hl
  match cs, hl with
  | [z0, z1, z2, z3], _ =>
    have g0 : DataW.trod enc Tryd.prog W 0 (fun _ => true) true m 9 [z0] = some y0 := by simpa [Tryd.cellsStr] using h0
    have g1 : DataW.trod enc Tryd.prog W 0 (fun _ => true) true m 50 [z1, z2, z3] = some y1 := by simpa [Tryd.cellsValue] using h1
    obtain ⟨u0, u1, u2, m2, _, _, k0, k1, k2⟩ := Deep.trod_struct3 Tryd.underlying50 g1
    have e0 : DataW.trod enc Tryd.prog W 0 (fun _ => true) true m2 48 [z1] = some u0 := by simpa [Tryd.cellsKindV] using k0
    have e1 : DataW.trod enc Tryd.prog W 0 (fun _ => true) true m2 2 [z2] = some u1 := by simpa [Tryd.cellsI64] using k1
    have e2 : DataW.trod enc Tryd.prog W 0 (fun _ => true) true m2 9 [z3] = some u2 := by simpa [Tryd.cellsStr] using k2
    obtain ⟨s, f0, _, hs⟩ := DataW.trod_string Tryd.underlying9 g0
    obtain ⟨k, f1, _, _⟩ := DataW.trod_int Tryd.underlying48 e0
    obtain ⟨x, f2, _, _⟩ := DataW.trod_int Tryd.underlying2 e1
    obtain ⟨t, f3, _, ht⟩ := DataW.trod_string Tryd.underlying9 e2
    simp only [List.cons.injEq, and_true] at f0 f1 f2 f3
    subst f0 f1 f2 f3
    exact ⟨⟨s, k, x, t⟩, rfl, ⟨by simpa [maxLen] using hs, by simpa [maxLen] using ht⟩⟩
theorem tms_get (ts : List Tm) (k j : Nat) (hk : k < ts.length) (hj : j < 4) : (tms ts)[k * 4 + j]? = (tC (tm ts k))[j]? := by
  rw [← tm_eq ts k hk]
  exact flat_at (f := tC) (fun _ => rfl) ts k j hk hj
set_option maxRecDepth 100000 in
/-- A slice of terms. -/
theorem open_terms {n : Nat} {cs : List Value} {x : DataW H × List MemPlace} (h : DataW.trod enc Tryd.prog W 0 (fun _ => true) true n 45 cs = some x) :
    ∃ (A : Option Addr) (ts : List Tm) (c : Nat), cs = [.slice A ts.length c] ∧ Rd W W.heap.size A (tms ts) ∧ (A = none → c = 0) ∧ (∀ t ∈ ts, SzT t) ∧
      ((DataW.weights Tryd.prog 45 x.1).all (· ≤ reachBytes) = true → ts.length ≤ 2932031007402) := by
  rcases Deep.open_slice Tryd.underlying45 h with ⟨rfl, rfl⟩ | ⟨a', len', cap', m, n2, D, Pl, rfl, _, hle, _, hm, rfl, hc⟩
  · exact ⟨none, [], 0, rfl, Rd.nil, fun _ => rfl, fun t ht => by simp at ht, fun _ => Nat.zero_le _⟩
  · have hm' : len' ≤ m := by rw [hm]; simpa using hle
    obtain ⟨S, hS⟩ := Deep.choose_lt (α := Tm) (n := len') (p := fun i s => (∀ j, j < 4 → W.cell? (a'.add (i * 4 + j)) = (tC s)[j]?) ∧ SzT s) (fun i hi => by
      obtain ⟨cs', h1, h2⟩ := hc i (by omega)
      rw [Tryd.cellsTerm] at h1
      obtain ⟨s, rfl, hsz⟩ := open_term_cells h2
      obtain ⟨_, hlen, hcell⟩ := World.cells?_some h1
      refine ⟨s, fun j hj => ?_, hsz⟩
      have := hcell j hj
      rw [Deep.add_add] at this
      exact this)
    have hl : ((List.range len').map S).length = len' := by simp
    have hst : ∀ i, i < len' → tm ((List.range len').map S) i = S i := fun i hi => by unfold tm; simp [List.getD, hi]
    refine ⟨some a', (List.range len').map S, cap', by rw [hl], fun k hk => ?_, fun z => (by cases z), fun t ht => ?_, fun hw => ?_⟩
    · have hk' : k < len' * 4 := by rw [tms_length, hl] at hk; exact hk
      have hd : k = k / 4 * 4 + k % 4 := by omega
      have hcell := (hS (k / 4) (by omega)).1 (k % 4) (by omega)
      have hg := tms_get ((List.range len').map S) (k / 4) (k % 4) (by omega) (by omega)
      rw [hst _ (by omega), ← hcell, ← hd] at hg
      rw [List.getElem?_eq_getElem hk] at hg
      refine ⟨a', rfl, ?_, hg.symm⟩
      have := World.block_lt_of_cell? _ _ hg.symm
      rwa [block_add] at this
    · obtain ⟨i, hi, rfl⟩ := List.mem_map.1 ht
      exact (hS i (List.mem_range.1 hi)).2
    · rw [hl]
      have := List.all_eq_true.1 hw ((((List.range len').map D).length + ((List.range (m - len')).map fun j => D (len' + j)).length) * Tryd.prog.bytesOf 52) (by simp [DataW.weights, Tryd.underlying45])
      rw [Tryd.bytesTerm] at this
      have h2 := of_decide_eq_true this
      simp only [reachBytes, List.length_map, List.length_range] at h2
      omega
theorem weights_all {P : Program} {e : TypeId} {ds : List (DataW H)} {d : DataW H} (h : d ∈ ds) : ∀ x ∈ DataW.weights P e d, x ∈ DataW.weightsAll P e ds := by
  induction ds with
  | nil => simp at h
  | cons c cs ih =>
    intro x hx
    rw [DataW.weightsAll, List.mem_append]
    rcases List.mem_cons.1 h with rfl | h
    · exact .inl hx
    · exact .inr (ih h x hx)
set_option maxRecDepth 100000 in
/-- The cells of an atom. -/
theorem open_atom_cells {n : Nat} {cs : List Value} {y : DataW H × List MemPlace} (h : DataW.trod enc Tryd.prog W 0 (fun _ => true) true n 47 cs = some y) :
    ∃ (q : ByteArray × Option Addr × List Tm × Nat), cs = [.string q.1, .slice q.2.1 q.2.2.1.length q.2.2.2] ∧ Rd W W.heap.size q.2.1 (tms q.2.2.1) ∧ (q.2.1 = none → q.2.2.2 = 0) ∧ q.1.size ≤ 9223372036854775807 ∧ (∀ t ∈ q.2.2.1, SzT t) ∧
      ((DataW.weights Tryd.prog 47 y.1).all (· ≤ reachBytes) = true → q.2.2.1.length ≤ 2932031007402) := by
  obtain ⟨y0, y1, m, hx, hl, h0, h1⟩ := trod_struct2 Tryd.underlying47 h
  rw [Tryd.cellsAtom] at hl
  match cs, hl with
  | [z0, z1], _ =>
    have g0 : DataW.trod enc Tryd.prog W 0 (fun _ => true) true m 9 [z0] = some y0 := by simpa [Tryd.cellsStr] using h0
    have g1 : DataW.trod enc Tryd.prog W 0 (fun _ => true) true m 45 [z1] = some y1 := by simpa [Tryd.cellsTerms] using h1
    obtain ⟨s, f0, _, hs⟩ := DataW.trod_string Tryd.underlying9 g0
    obtain ⟨T, ts, c, f1, hR, hn, hz, hw⟩ := open_terms g1
    simp only [List.cons.injEq, and_true] at f0 f1
    subst f0 f1
    refine ⟨(s, T, ts, c), rfl, hR, hn, by simpa [maxLen] using hs, hz, fun hs => hw ?_⟩
    rw [hx] at hs
    have e : DataW.weights Tryd.prog 47 (.agg [y0.1, y1.1]) = DataW.weights Tryd.prog 9 y0.1 ++ (DataW.weights Tryd.prog 45 y1.1 ++ []) := by
      rw [DataW.weights]
      simp [Tryd.underlying47, DataW.weightsEach]
    rw [e] at hs
    simp only [List.all_append, Bool.and_eq_true] at hs
    exact hs.2.1
set_option maxRecDepth 100000 in
/-- A slice of atoms. -/
theorem open_atoms {n : Nat} {cs : List Value} {x : DataW H × List MemPlace} (h : DataW.trod enc Tryd.prog W 0 (fun _ => true) true n 23 cs = some x) :
    ∃ (A : Option Addr) (xs : List Am) (c : Nat), cs = [.slice A xs.length c] ∧ Ats W W.heap.size A xs ∧
      ((DataW.weights Tryd.prog 23 x.1).all (· ≤ reachBytes) = true → xs.length ≤ 3518437208883 ∧ ∀ a ∈ xs, SzA a) := by
  rcases Deep.open_slice Tryd.underlying23 h with ⟨rfl, rfl⟩ | ⟨a', len', cap', m, n2, D, Pl, rfl, _, hle, _, hm, rfl, hc⟩
  · exact ⟨none, [], 0, rfl, Ats.nil, fun _ => ⟨Nat.zero_le _, fun a ha => by simp at ha⟩⟩
  · have hm' : len' ≤ m := by rw [hm]; simpa using hle
    obtain ⟨S, hS⟩ := Deep.choose_lt (α := ByteArray × Option Addr × List Tm × Nat) (n := len') (p := fun i q => W.cell? (a'.add (i * 2)) = some (.string q.1) ∧ W.cell? (a'.add (i * 2 + 1)) = some (.slice q.2.1 q.2.2.1.length q.2.2.2) ∧
        Rd W W.heap.size q.2.1 (tms q.2.2.1) ∧ (q.2.1 = none → q.2.2.2 = 0) ∧ q.1.size ≤ 9223372036854775807 ∧ (∀ t ∈ q.2.2.1, SzT t) ∧
        ((DataW.weights Tryd.prog 47 (D i)).all (· ≤ reachBytes) = true → q.2.2.1.length ≤ 2932031007402)) (fun i hi => by
      obtain ⟨cs', h1, h2⟩ := hc i (by omega)
      rw [Tryd.cellsAtom] at h1
      obtain ⟨s, rfl, hsz⟩ := open_atom_cells h2
      obtain ⟨_, hlen, hcell⟩ := World.cells?_some h1
      refine ⟨s, ?_, ?_, hsz⟩
      · have := hcell 0 (by omega)
        rw [Deep.add_add] at this
        exact this
      · have := hcell 1 (by omega)
        rw [Deep.add_add] at this
        exact this)
    have hl : ((List.range len').map fun i => (⟨(S i).1, (S i).2.2.1⟩ : Am)).length = len' := by simp
    have hst : ∀ i, i < len' → am ((List.range len').map fun i => (⟨(S i).1, (S i).2.2.1⟩ : Am)) i = ⟨(S i).1, (S i).2.2.1⟩ := fun i hi => by unfold am; simp [List.getD, hi]
    refine ⟨some a', (List.range len').map fun i => (⟨(S i).1, (S i).2.2.1⟩ : Am), cap', by rw [hl], fun k hk => ?_, fun hw => ?_⟩
    · have hk' : k < len' := by rw [hl] at hk; exact hk
      obtain ⟨h1, h2, h3, h4, _⟩ := hS k hk'
      rw [hst k hk']
      refine ⟨a', rfl, ?_, h1, (S k).2.1, (S k).2.2.2, ?_, h3, h4⟩
      · have := World.block_lt_of_cell? _ _ h1
        rwa [block_add] at this
      · rw [← h2, add_off a' (k * 2) 0]
    · have e : DataW.weights Tryd.prog 23 (.slice ((List.range len').map D) ((List.range (m - len')).map fun j => D (len' + j))) =
          (((List.range len').map D).length + ((List.range (m - len')).map fun j => D (len' + j)).length) * Tryd.prog.bytesOf 47 :: (DataW.weightsAll Tryd.prog 47 ((List.range len').map D) ++ DataW.weightsAll Tryd.prog 47 ((List.range (m - len')).map fun j => D (len' + j))) := by
        rw [DataW.weights]
        simp [Tryd.underlying23]
      rw [e] at hw
      constructor
      · rw [hl]
        have := List.all_eq_true.1 hw _ (List.mem_cons_self ..)
        rw [Tryd.bytesAtom] at this
        have h2 := of_decide_eq_true this
        simp only [reachBytes, List.length_map, List.length_range] at h2
        omega
      · intro a ha
        obtain ⟨i, hi, rfl⟩ := List.mem_map.1 ha
        have hi' := List.mem_range.1 hi
        obtain ⟨_, _, _, _, h5, h6, h7⟩ := hS i hi'
        refine ⟨h5, h7 (List.all_eq_true.2 fun x hx => List.all_eq_true.1 hw x ?_), h6⟩
        exact List.mem_cons_of_mem _ (List.mem_append_left _ (weights_all (List.mem_map.2 ⟨i, hi, rfl⟩) x hx))
end
set_option maxRecDepth 100000 in
/-- A QUERY THAT CAME IN. -/
theorem open_query {H : Type} {enc : TypeId × Value → H} {W : World} {r : Reach} {b0 : Nat} {v : Value} {d : DataW H} {p : List MemPlace}
    (hv : Value.okWide Tryd.prog W r b0 25 v) (h : DataW.Trod enc Tryd.prog W 0 (fun _ => true) true 25 v d p) :
    ∃ (q : Qy) (AH : Option Addr) (cH : Nat) (AA : Option Addr) (cA : Nat), v = .agg #[.string q.name, .slice AH q.head.length cH, .slice AA q.atoms.length cA] ∧
      Rd W W.heap.size AH (ss q.head) ∧ Ats W W.heap.size AA q.atoms ∧ ((DataW.weights Tryd.prog 25 d).all (· ≤ reachBytes) = true → SzQ q) := by
  obtain ⟨cs, rfl, hsz⟩ := okWide_struct Tryd.underlying25 hv
  obtain ⟨z0, z1, z2, rfl⟩ : ∃ c0 c1 c2, cs = #[c0, c1, c2] := by
    have h3 : cs.size = 3 := hsz.trans Tryd.cellsQuery
    obtain ⟨l⟩ := cs
    match l, h3 with
    | [a, b, c], _ => exact ⟨a, b, c, rfl⟩
  obtain ⟨fuel, hf⟩ := h
  obtain ⟨y0, y1, y2, n, hx, _, h0, h1, h2⟩ := Deep.trod_struct3 Tryd.underlying25 hf
  have g0 : DataW.trod enc Tryd.prog W 0 (fun _ => true) true n 9 [z0] = some y0 := by simpa [Value.cells, Tryd.cellsStr] using h0
  have g1 : DataW.trod enc Tryd.prog W 0 (fun _ => true) true n 22 [z1] = some y1 := by simpa [Value.cells, Tryd.cellsStrs] using h1
  have g2 : DataW.trod enc Tryd.prog W 0 (fun _ => true) true n 23 [z2] = some y2 := by simpa [Value.cells, Tryd.cellsAtoms] using h2
  obtain ⟨s, e0, _, hs⟩ := DataW.trod_string Tryd.underlying9 g0
  obtain ⟨AH, L, cH, e1, hR, hL, hwL⟩ := open_texts g1
  obtain ⟨AA, xs, cA, e2, hA, hwA⟩ := open_atoms g2
  simp only [List.cons.injEq, and_true] at e0 e1 e2
  subst e0 e1 e2
  refine ⟨⟨s, L, xs⟩, AH, cH, AA, cA, rfl, hR, hA, fun hw => ?_⟩
  simp only [Prod.mk.injEq] at hx
  rw [hx.1] at hw
  have e : DataW.weights Tryd.prog 25 (.agg [y0.1, y1.1, y2.1]) = DataW.weights Tryd.prog 9 y0.1 ++ (DataW.weights Tryd.prog 22 y1.1 ++ (DataW.weights Tryd.prog 23 y2.1 ++ [])) := by
    rw [DataW.weights]
    simp [Tryd.underlying25, DataW.weightsEach]
  rw [e] at hw
  simp only [List.all_append, Bool.and_eq_true] at hw
  exact ⟨by simpa [maxLen] using hs, hwL hw.2.1, hL, (hwA hw.2.2.1).1, (hwA hw.2.2.1).2⟩
end Go.Proofs.YtdemmjofggemhaaDoor
