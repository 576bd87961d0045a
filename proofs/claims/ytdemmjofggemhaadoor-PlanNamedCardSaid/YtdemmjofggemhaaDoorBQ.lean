/- Several texts in one: QLaw QMem QStr QVars QVars2. -/
import Derived.Test.YtdemmjofggemhaaDoorBA
import Derived.Lib.SlicesS
/- Queries as plain data: their variables, what is wrong in one, its graph. No program in sight. -/
namespace Go.Proofs.YtdemmjofggemhaaDoor
open Go.RowKit

/-- A term, an atom, a query. -/
structure Tm where
  var : ByteArray
  kind : Int
  num : Int
  text : ByteArray
structure Am where
  rel : ByteArray
  terms : List Tm
structure Qy where
  name : ByteArray
  head : List ByteArray
  atoms : List Am
def nm (L : List ByteArray) (k : Nat) : ByteArray := L.getD k ByteArray.empty
def tm (ts : List Tm) (k : Nat) : Tm := ts.getD k ⟨ByteArray.empty, 0, 0, ByteArray.empty⟩
def am (xs : List Am) (k : Nat) : Am := xs.getD k ⟨ByteArray.empty, []⟩
theorem nm_eq (L : List ByteArray) (k : Nat) (h : k < L.length) : L[k] = nm L k := by simp [nm, h]
theorem tm_eq (L : List Tm) (k : Nat) (h : k < L.length) : L[k] = tm L k := by simp [tm, h]
theorem am_eq (L : List Am) (k : Nat) (h : k < L.length) : L[k] = am L k := by simp [am, h]
theorem nm_mem (L : List ByteArray) (k : Nat) (h : k < L.length) : nm L k ∈ L := by rw [← nm_eq L k h]; exact List.getElem_mem _
theorem tm_mem (L : List Tm) (k : Nat) (h : k < L.length) : tm L k ∈ L := by rw [← tm_eq L k h]; exact List.getElem_mem _
theorem am_mem (L : List Am) (k : Nat) (h : k < L.length) : am L k ∈ L := by rw [← am_eq L k h]; exact List.getElem_mem _
theorem mem_nm {L : List ByteArray} {x : ByteArray} (h : x ∈ L) : ∃ k, k < L.length ∧ nm L k = x := by
  obtain ⟨k, hk, e⟩ := List.getElem_of_mem h
  exact ⟨k, hk, by rw [← nm_eq L k hk, e]⟩

instance memDec (v : ByteArray) : (l : List ByteArray) → Decidable (v ∈ l)
  | [] => isFalse (by simp)
  | a :: l => if h : v = a then isTrue (by simp [h]) else match memDec v l with
    | isTrue k => isTrue (by simp [k])
    | isFalse k => isFalse (by simp [h, k])

/-! ### Variables -/
def addS (out : List ByteArray) (v : ByteArray) : List ByteArray := if v ∈ out then out else out ++ [v]
def addV (out : List ByteArray) (t : Tm) : List ByteArray := if t.var = ByteArray.empty ∨ t.var ∈ out then out else out ++ [t.var]
/-- The variables of terms, in the order in which they come. -/
def avars (ts : List Tm) : List ByteArray := ts.foldl addV []
/-- The variables of atoms, put together atom by atom. -/
def qvars (xs : List Am) : List ByteArray := xs.foldl (fun out a => (avars a.terms).foldl addS out) []
theorem mem_addS {out : List ByteArray} {v x : ByteArray} : x ∈ addS out v ↔ x ∈ out ∨ x = v := by
  unfold addS
  split
  · rename_i h
    constructor
    · exact .inl
    · rintro (a | rfl)
      · exact a
      · exact h
  · simp
theorem mem_addV {out : List ByteArray} {t : Tm} {x : ByteArray} : x ∈ addV out t ↔ x ∈ out ∨ (x = t.var ∧ x ≠ ByteArray.empty) := by
  unfold addV
  split
  · rename_i h
    constructor
    · exact .inl
    · rintro (a | ⟨rfl, b⟩)
      · exact a
      · rcases h with h | h
        · exact absurd h b
        · exact h
  · rename_i h
    simp only [List.mem_append, List.mem_singleton]
    constructor
    · rintro (a | rfl)
      · exact .inl a
      · exact .inr ⟨rfl, fun e => h (.inl e)⟩
    · rintro (a | ⟨rfl, _⟩)
      · exact .inl a
      · exact .inr rfl
theorem addS_nodup {out : List ByteArray} (h : out.Nodup) (v : ByteArray) : (addS out v).Nodup := by
  unfold addS
  split
  · exact h
  · rename_i hn
    rw [List.nodup_append]
    exact ⟨h, by simp, fun a ha b hb => by rw [List.mem_singleton] at hb; subst hb; intro e; exact hn (e ▸ ha)⟩
theorem addV_addS (out : List ByteArray) (t : Tm) : addV out t = if t.var = ByteArray.empty then out else addS out t.var := by
  unfold addV addS
  by_cases h : t.var = ByteArray.empty <;> simp [h]
theorem addV_nodup {out : List ByteArray} (h : out.Nodup) (t : Tm) : (addV out t).Nodup := by
  rw [addV_addS]
  split
  · exact h
  · exact addS_nodup h _
theorem foldV_nodup : ∀ (ts : List Tm) {out : List ByteArray}, out.Nodup → (ts.foldl addV out).Nodup
  | [], _, h => h
  | t :: ts, _, h => foldV_nodup ts (addV_nodup h t)
theorem mem_foldV {x : ByteArray} : ∀ (ts : List Tm) {out : List ByteArray}, x ∈ ts.foldl addV out ↔ x ∈ out ∨ (x ≠ ByteArray.empty ∧ ∃ t ∈ ts, t.var = x)
  | [], _ => by simp
  | t :: ts, out => by
    rw [List.foldl_cons, mem_foldV ts, mem_addV]
    constructor
    · rintro ((a | ⟨rfl, b⟩) | ⟨a, u, hu, e⟩)
      · exact .inl a
      · exact .inr ⟨b, t, by simp, rfl⟩
      · exact .inr ⟨a, u, by simp [hu], e⟩
    · rintro (a | ⟨a, u, hu, e⟩)
      · exact .inl (.inl a)
      · rcases List.mem_cons.1 hu with rfl | hu
        · exact .inl (.inr ⟨e.symm, a⟩)
        · exact .inr ⟨a, u, hu, e⟩
theorem foldV_length : ∀ (ts : List Tm) (out : List ByteArray), (ts.foldl addV out).length ≤ out.length + ts.length
  | [], _ => by simp
  | t :: ts, out => by
    have h1 := foldV_length ts (addV out t)
    have h2 : (addV out t).length ≤ out.length + 1 := by unfold addV; split <;> simp
    simp only [List.foldl_cons, List.length_cons]
    omega
theorem mem_avars {ts : List Tm} {x : ByteArray} : x ∈ avars ts ↔ x ≠ ByteArray.empty ∧ ∃ t ∈ ts, t.var = x := by
  unfold avars; rw [mem_foldV]; simp
theorem avars_nodup (ts : List Tm) : (avars ts).Nodup := foldV_nodup ts List.nodup_nil
theorem avars_length (ts : List Tm) : (avars ts).length ≤ ts.length := by
  have := foldV_length ts []
  simpa [avars] using this
theorem addS_addV (out acc : List ByteArray) (t : Tm) : (addV acc t).foldl addS out = addV (acc.foldl addS out) t := by
  have hm : ∀ (l out : List ByteArray) (x : ByteArray), x ∈ l.foldl addS out ↔ x ∈ out ∨ x ∈ l := by
    intro l
    induction l with
    | nil => simp
    | cons a l ih => intro out x; rw [List.foldl_cons, ih, mem_addS]; simp only [List.mem_cons, or_assoc]
  unfold addV
  by_cases h0 : t.var = ByteArray.empty
  · simp [h0]
  · by_cases h1 : t.var ∈ acc
    · rw [if_pos (.inr h1), if_pos (.inr ((hm acc out t.var).2 (.inr h1)))]
    · rw [if_neg (by simp [h0, h1]), List.foldl_append]
      simp only [List.foldl_cons, List.foldl_nil]
      unfold addS
      simp [h0]
theorem foldS_foldV (out : List ByteArray) : ∀ (ts : List Tm) (acc : List ByteArray), (ts.foldl addV acc).foldl addS out = ts.foldl addV (acc.foldl addS out)
  | [], _ => rfl
  | t :: ts, acc => by rw [List.foldl_cons, foldS_foldV out ts, addS_addV]; rfl
theorem foldS_avars (out : List ByteArray) (ts : List Tm) : (avars ts).foldl addS out = ts.foldl addV out := foldS_foldV out ts []
theorem qvars_flat (xs : List Am) : qvars xs = avars (xs.flatMap Am.terms) := by
  have key : ∀ (xs : List Am) (out : List ByteArray), xs.foldl (fun out a => (avars a.terms).foldl addS out) out = (xs.flatMap Am.terms).foldl addV out := by
    intro xs
    induction xs with
    | nil => intro out; rfl
    | cons a xs ih => intro out; rw [List.foldl_cons, ih, foldS_avars, List.flatMap_cons, List.foldl_append]
  exact key xs []
theorem mem_qvars {xs : List Am} {x : ByteArray} : x ∈ qvars xs ↔ x ≠ ByteArray.empty ∧ ∃ a ∈ xs, ∃ t ∈ a.terms, t.var = x := by
  rw [qvars_flat, mem_avars]
  simp only [List.mem_flatMap]
  constructor
  · rintro ⟨h, t, ⟨a, ha, ht⟩, e⟩; exact ⟨h, a, ha, t, ht, e⟩
  · rintro ⟨h, a, ha, t, ht, e⟩; exact ⟨h, t, ⟨a, ha, ht⟩, e⟩
theorem qvars_nodup (xs : List Am) : (qvars xs).Nodup := by rw [qvars_flat]; exact avars_nodup _
theorem flat_len {xs : List Am} {m : Nat} (h : ∀ a ∈ xs, a.terms.length ≤ m) : (xs.flatMap Am.terms).length ≤ xs.length * m := by
  induction xs with
  | nil => simp
  | cons a xs ih =>
    have h1 := h a (by simp)
    have h2 := ih fun b hb => h b (by simp [hb])
    rw [List.flatMap_cons, List.length_append, List.length_cons, Nat.add_mul]
    omega
theorem qvars_length {xs : List Am} (h : ∀ a ∈ xs, a.terms.length ≤ 5) (h6 : xs.length ≤ 6) : (qvars xs).length ≤ 30 := by
  rw [qvars_flat]
  have h1 := avars_length (xs.flatMap Am.terms)
  have h2 := flat_len h
  omega
theorem avars_sub {xs : List Am} {a : Am} (ha : a ∈ xs) {x : ByteArray} (hx : x ∈ avars a.terms) : x ∈ qvars xs := by
  obtain ⟨h, t, ht, e⟩ := mem_avars.1 hx
  exact mem_qvars.2 ⟨h, a, ha, t, ht, e⟩

/-! ### Places in a list of names -/
/-- Where the name stands first; -1 if nowhere. -/
def atI (L : List ByteArray) (x : ByteArray) : Int := Lib.idxOfS L x
theorem atI_hit {L : List ByteArray} {x : ByteArray} {k : Nat} (hk : k < L.length) (h : nm L k = x) (hno : ∀ j, j < k → nm L j ≠ x) : atI L x = k := by
  have := Lib.idxOfS_hit L L.length k x hk (Nat.le_refl _) h hno
  rwa [List.take_length] at this
theorem atI_miss {L : List ByteArray} {x : ByteArray} (h : ∀ j, j < L.length → nm L j ≠ x) : atI L x = -1 := by
  have := Lib.idxOfS_miss L L.length x h
  rwa [List.take_length] at this
theorem atI_cases (L : List ByteArray) (x : ByteArray) : (atI L x = -1 ∧ x ∉ L) ∨ ∃ k : Nat, atI L x = k ∧ k < L.length ∧ nm L k = x ∧ ∀ j, j < k → nm L j ≠ x := by
  have key : ∀ n, n ≤ L.length → (∀ j, j < n → nm L j ≠ x) ∨ ∃ k : Nat, k < n ∧ nm L k = x ∧ ∀ j, j < k → nm L j ≠ x := by
    intro n
    induction n with
    | zero => intro _; exact .inl fun j hj => absurd hj (Nat.not_lt_zero _)
    | succ n ih =>
      intro hn
      rcases ih (by omega) with a | ⟨k, h1, h2, h3⟩
      · by_cases e : nm L n = x
        · exact .inr ⟨n, by omega, e, a⟩
        · refine .inl fun j hj => ?_
          rcases Nat.lt_or_ge j n with d | d
          · exact a j d
          · obtain rfl : j = n := by omega
            exact e
      · exact .inr ⟨k, by omega, h2, h3⟩
  rcases key L.length (Nat.le_refl _) with a | ⟨k, h1, h2, h3⟩
  · refine .inl ⟨atI_miss a, fun hx => ?_⟩
    obtain ⟨k, hk, e⟩ := mem_nm hx
    exact a k hk e
  · exact .inr ⟨k, atI_hit h1 h2 h3, h1, h2, h3⟩
theorem atI_nonneg {L : List ByteArray} {x : ByteArray} : 0 ≤ atI L x ↔ x ∈ L := Lib.idxOfS_nonneg_iff L x
theorem atI_mem {L : List ByteArray} {x : ByteArray} (h : x ∈ L) : ∃ k : Nat, atI L x = k ∧ k < L.length ∧ nm L k = x ∧ ∀ j, j < k → nm L j ≠ x := by
  rcases atI_cases L x with ⟨_, e⟩ | k
  · exact absurd h e
  · exact k
theorem nm_inj {L : List ByteArray} (h : L.Nodup) {i j : Nat} (hi : i < L.length) (hj : j < L.length) (e : nm L i = nm L j) : i = j := by
  rw [← nm_eq L i hi, ← nm_eq L j hj] at e
  exact (List.getElem_inj h).1 e
/-! ### Sets of variables -/
def maskTo (b : Nat → Bool) : Nat → BitVec 32
  | 0 => 0#32
  | k + 1 => if b k = true then maskTo b k ||| 1#32 <<< k else maskTo b k
theorem bit_shl (k i : Nat) (hk : k < 32) : (1#32 <<< k).getLsbD i = decide (i = k) := by
  rw [BitVec.getLsbD_shiftLeft]
  rcases Nat.lt_trichotomy i k with c | c | c
  · simp [c, show ¬ i = k by omega]
  · subst c; simp [hk]
  · have : i - k ≠ 0 := by omega
    simp [show ¬ i < k by omega, show ¬ i = k by omega, this]

theorem getLsbD_mask (b : Nat → Bool) : ∀ k, k ≤ 32 → ∀ i, (maskTo b k).getLsbD i = (decide (i < k) && b i)
  | 0, _, i => by simp [maskTo]
  | k + 1, hk, i => by
    have ih := getLsbD_mask b k (by omega) i
    unfold maskTo
    split
    · rename_i hb
      rw [BitVec.getLsbD_or, ih, bit_shl k i (by omega)]
      rcases Nat.lt_trichotomy i k with h | h | h
      · simp [h, show i < k + 1 by omega, show ¬ i = k by omega]
      · subst h; simp [hb]
      · simp [show ¬ i < k by omega, show ¬ i < k + 1 by omega, show ¬ i = k by omega]
    · rename_i hb
      rw [ih]
      rcases Nat.lt_trichotomy i k with h | h | h
      · simp [h, show i < k + 1 by omega]
      · subst h; simp [hb]
      · simp [show ¬ i < k by omega, show ¬ i < k + 1 by omega]
/-- The places of the names among the variables, as bits. -/
def setOf (vars names : List ByteArray) : BitVec 32 := maskTo (fun v => decide (nm vars v ∈ names)) vars.length
theorem getLsbD_setOf {vars : List ByteArray} (names : List ByteArray) (h : vars.length ≤ 32) (i : Nat) : (setOf vars names).getLsbD i = (decide (i < vars.length) && decide (nm vars i ∈ names)) :=
  getLsbD_mask _ _ h i
theorem setOf_nil (vars : List ByteArray) (h : vars.length ≤ 32) : setOf vars [] = 0#32 := by
  apply BitVec.eq_of_getLsbD_eq
  intro i _
  rw [getLsbD_setOf _ h]; simp
theorem setOf_snoc {vars names : List ByteArray} {x : ByteArray} {k : Nat} (h : vars.length ≤ 32) (hn : vars.Nodup) (hk : k < vars.length) (hx : nm vars k = x) : setOf vars (names ++ [x]) = setOf vars names ||| 1#32 <<< k := by
  apply BitVec.eq_of_getLsbD_eq
  intro i _
  rw [BitVec.getLsbD_or, getLsbD_setOf _ h, getLsbD_setOf _ h, bit_shl k i (by omega)]
  by_cases hi : i < vars.length
  · by_cases e : i = k
    · subst e; simp [hi, hx]
    · have : nm vars i ≠ x := fun z => e (nm_inj hn hi hk (z.trans hx.symm))
      simp [hi, e, this]
  · simp [hi, show ¬ i = k by omega]
/-! ### What is wrong in a query -/
def letB (c : Int) : Bool := (decide (97 ≤ c) && decide (c ≤ 122)) || (decide (65 ≤ c) && decide (c ≤ 90)) || c == 95
def digB (c : Int) : Bool := decide (48 ≤ c) && decide (c ≤ 57)
def byt (s : ByteArray) (i : Nat) : Int := ((s.data.getD i 0).toNat : Int)
theorem byt_bounds (s : ByteArray) (i : Nat) : 0 ≤ byt s i ∧ byt s i < 256 := by
  unfold byt
  have := (s.data.getD i 0).toNat_lt
  omega
def ldB (c : Int) : Bool := letB c || digB c
/-- Is it a name? -/
def nameB (s : ByteArray) : Bool := decide (1 ≤ s.size) && decide (s.size ≤ 16) && letB (byt s 0) && (List.range s.size).all fun i => ldB (byt s i)
def valB (t : Tm) : Bool := if t.kind = 1 then decide (t.text.size = 0) else decide (t.kind = 2) && decide (t.num = 0) && decide (t.text.size ≤ 64)
def termB (t : Tm) : Bool := if t.var = ByteArray.empty then valB t else decide (t.kind = 0) && decide (t.num = 0) && decide (t.text = ByteArray.empty)
def tnameB (t : Tm) : Bool := decide (t.var = ByteArray.empty) || nameB t.var
def anameB (a : Am) : Bool := nameB a.rel && a.terms.all tnameB
def namesB (q : Qy) : Bool := nameB q.name && q.head.all nameB && q.atoms.all anameB
def aterm (a : Am) : Bool := a.terms.all termB
def wideB (a : Am) : Bool := decide (5 < a.terms.length)
/-- Is the i-th one among those ahead of it? -/
def dupAt (L : List ByteArray) (i : Nat) : Bool := decide (nm L i ∈ L.take i)
def dupB (L : List ByteArray) : Bool := (List.range L.length).any (dupAt L)
def strayB (vars : List ByteArray) (x : ByteArray) : Bool := !decide (x ∈ vars)
/-- The number of what is wrong; 0 if nothing is. -/
def shapeC (q : Qy) : Int :=
  if namesB q = false then 72 else if q.atoms.all aterm = false then 21 else if q.atoms.length = 0 ∨ 6 < q.atoms.length then 90 else if q.atoms.any wideB = true then 91
  else if dupB q.head = true then 92 else if q.head.any (strayB (qvars q.atoms)) = true then 93 else 0
structure GoodQ (q : Qy) : Prop where
  names : namesB q = true
  consts : q.atoms.all aterm = true
  some_ : 1 ≤ q.atoms.length
  few : q.atoms.length ≤ 6
  narrow : ∀ a ∈ q.atoms, a.terms.length ≤ 5
  apart : dupB q.head = false
  safe : ∀ x ∈ q.head, x ∈ qvars q.atoms
theorem shapeC_iff {q : Qy} : shapeC q = 0 ↔ GoodQ q := by
  unfold shapeC
  constructor
  · intro h
    split at h
    · cases h
    · split at h
      · cases h
      · split at h
        · cases h
        · split at h
          · cases h
          · split at h
            · cases h
            · split at h
              · cases h
              · rename_i h1 h2 h3 h4 h5 h6
                refine ⟨by simpa using h1, by simpa using h2, by omega, by omega, fun a ha => ?_, by simpa using h5, fun x hx => ?_⟩
                · have := h4
                  simp only [Bool.not_eq_true, List.any_eq_false] at this
                  have := of_decide_eq_false (by simpa using this a ha : wideB a = false)
                  omega
                · have := h6
                  simp only [Bool.not_eq_true, List.any_eq_false] at this
                  have := this x hx
                  simpa [strayB] using this
  · rintro ⟨h1, h2, h3, h4, h5, h6, h7⟩
    rw [if_neg (by simp [h1]), if_neg (by simp [h2]), if_neg (by omega), if_neg, if_neg (by simp [h6]), if_neg]
    · simp only [Bool.not_eq_true, List.any_eq_false]
      intro x hx; simp [strayB, h7 x hx]
    · simp only [Bool.not_eq_true, List.any_eq_false]
      intro a ha
      have h := h5 a ha
      have : wideB a = false := decide_eq_false (by omega)
      rw [this]

/-! ### The graph of a query -/
def ofE (q : Qy) : List (BitVec 32) := q.atoms.map fun a => setOf (qvars q.atoms) (avars a.terms)
def headW (q : Qy) : BitVec 32 := setOf (qvars q.atoms) q.head
@[simp] theorem ofE_length (q : Qy) : (ofE q).length = q.atoms.length := by simp [ofE]
/-- What Of answers. -/
def OfIs (q : Qy) (V : Int) (E : List (BitVec 32)) (h : BitVec 32) (code : Int) : Prop :=
  (shapeC q ≠ 0 ∧ V = 0 ∧ E = [] ∧ h = 0#32 ∧ code = shapeC q) ∨ (shapeC q = 0 ∧ V = (qvars q.atoms).length ∧ E = ofE q ∧ h = headW q ∧ code = 0)
end Go.Proofs.YtdemmjofggemhaaDoor

/- What the memory of a query holds. -/
namespace Go.Proofs.YtdemmjofggemhaaDoor
open Go.RowKit

/-- The values of texts; the cells of terms. -/
def ss (L : List ByteArray) : List Value := L.map Value.string
def tC (t : Tm) : List Value := [.string t.var, .int .i64 t.kind, .int .i64 t.num, .string t.text]
def tms (ts : List Tm) : List Value := ts.flatMap tC
@[simp] theorem ss_length (L : List ByteArray) : (ss L).length = L.length := by simp [ss]
theorem ss_snoc (L : List ByteArray) (x : ByteArray) : ss (L ++ [x]) = ss L ++ [.string x] := by simp [ss]
theorem ss_one (L : List ByteArray) : ∀ u ∈ ss L, u.oneCell' = true := by
  intro u hu
  obtain ⟨_, _, rfl⟩ := List.mem_map.1 hu
  rfl
theorem tms_length (ts : List Tm) : (tms ts).length = ts.length * 4 := by
  induction ts with
  | nil => rfl
  | cons t ts ih => show (tC t ++ tms ts).length = _; rw [List.length_append, ih]; simp [tC]; omega
theorem tms_append (ts us : List Tm) : tms (ts ++ us) = tms ts ++ tms us := by simp [tms]
theorem tms_one (ts : List Tm) : ∀ u ∈ tms ts, u.oneCell' = true := by
  intro u hu
  obtain ⟨t, _, h⟩ := List.mem_flatMap.1 hu
  simp only [tC, List.mem_cons, List.not_mem_nil, or_false] at h
  rcases h with rfl | rfl | rfl | rfl <;> rfl
theorem Rd.s_at {w : World} {B : Nat} {A : Option Addr} {L : List ByteArray} (h : Rd w B A (ss L)) {k : Nat} (hk : k < L.length) :
    ∃ ad, A = some ad ∧ ad.block < B ∧ w.cell? (ad.add k) = some (.string (nm L k)) := by
  obtain ⟨ad, e, hl, hc⟩ := h k (by simpa using hk)
  refine ⟨ad, e, hl, hc.trans ?_⟩
  simp only [ss, List.getElem_map]
  rw [nm_eq L k hk]
theorem Rd.t_cells {w : World} {B : Nat} {A : Option Addr} {ts : List Tm} (h : Rd w B A (tms ts)) {k : Nat} (hk : k < ts.length) :
    ∃ ad, A = some ad ∧ ad.block < B ∧ w.cell? (ad.add (k * 4)) = some (.string (tm ts k).var) ∧ w.cell? ⟨(ad.add (k * 4)).block, (ad.add (k * 4)).off + 1, none⟩ = some (.int .i64 (tm ts k).kind) ∧
      w.cell? ⟨(ad.add (k * 4)).block, (ad.add (k * 4)).off + 2, none⟩ = some (.int .i64 (tm ts k).num) ∧ w.cell? ⟨(ad.add (k * 4)).block, (ad.add (k * 4)).off + 3, none⟩ = some (.string (tm ts k).text) := by
  obtain ⟨ad, e, hl, hc⟩ := Rd.flat (f := tC) (m := 4) (fun _ => rfl) h hk (by omega)
  rw [tm_eq ts k hk] at hc
  exact ⟨ad, e, hl, hc 0 (by omega), (add_off ad (k * 4) 0) ▸ hc 1 (by omega), (add_off ad (k * 4) 1) ▸ hc 2 (by omega), (add_off ad (k * 4) 2) ▸ hc 3 (by omega)⟩
theorem Rd.take {w : World} {B : Nat} {A : Option Addr} {xs : List Value} (h : Rd w B A xs) (n : Nat) : Rd w B A (xs.take n) := fun k hk => by
  have hk' : k < xs.length := by rw [List.length_take] at hk; omega
  obtain ⟨ad, e, hl, hc⟩ := h k hk'
  exact ⟨ad, e, hl, by rw [hc, List.getElem_take]⟩
theorem ss_take (L : List ByteArray) (n : Nat) : (ss L).take n = ss (L.take n) := by simp [ss, List.map_take]

/-- What the cells of atoms hold. -/
def Ats (w : World) (B : Nat) (A : Option Addr) (xs : List Am) : Prop :=
  ∀ k, k < xs.length → ∃ ad, A = some ad ∧ ad.block < B ∧ w.cell? (ad.add (k * 2)) = some (.string (am xs k).rel) ∧
    ∃ T c, w.cell? ⟨(ad.add (k * 2)).block, (ad.add (k * 2)).off + 1, none⟩ = some (.slice T (am xs k).terms.length c) ∧ Rd w B T (tms (am xs k).terms) ∧ (T = none → c = 0)
section
variable {w w' : World} {B B' : Nat} {A : Option Addr} {xs : List Am}
theorem Ats.keep (h : Ats w B A xs) (hk : ∀ p : Addr, p.block < B → w'.cell? p = w.cell? p) : Ats w' B A xs := fun k hx => by
  obtain ⟨ad, e, hl, h1, T, c, h2, h3, h4⟩ := h k hx
  exact ⟨ad, e, hl, (hk _ (by rw [block_add]; exact hl)).trans h1, T, c, (hk _ (by rw [block_add]; exact hl)).trans h2, h3.keep hk, h4⟩
theorem Ats.below (h : Ats w B A xs) (hb : Below B w w') : Ats w' B A xs := h.keep fun _ hp => hb.cell hp
theorem Ats.mono (h : Ats w B A xs) (hb : B ≤ B') : Ats w B' A xs := fun k hk => by
  obtain ⟨ad, e, hl, h1, T, c, h2, h3, h4⟩ := h k hk
  exact ⟨ad, e, by omega, h1, T, c, h2, h3.mono hb, h4⟩
theorem Ats.later (h : Ats w w.heap.size A xs) (hb : Below w.heap.size w w') : Ats w' w'.heap.size A xs := (h.below hb).mono hb.size
theorem Ats.nil : Ats w B A [] := fun k hk => absurd hk (by simp)
end

/-- No text is longer than a machine holds, no list either. -/
structure SzT (t : Tm) : Prop where
  var : t.var.size ≤ 9223372036854775807
  text : t.text.size ≤ 9223372036854775807
structure SzA (a : Am) : Prop where
  rel : a.rel.size ≤ 9223372036854775807
  few : a.terms.length ≤ 2932031007402
  terms : ∀ t ∈ a.terms, SzT t
structure SzQ (q : Qy) : Prop where
  name : q.name.size ≤ 9223372036854775807
  few : q.head.length ≤ 8796093022208
  head : ∀ x ∈ q.head, x.size ≤ 9223372036854775807
  fewA : q.atoms.length ≤ 3518437208883
  atoms : ∀ a ∈ q.atoms, SzA a

/-! ### Appending a text -/
section
variable {wr : World} {ops : Array Oper} {rest : List Oper} {o : Oper} {a : Act} {Q : Exit → Act → World → Prop}
theorem Tryd.info_str : (Tryd.prog.info? 9).map (fun i => (i.zero, i.size, i.bytes)) = some (some (.string ByteArray.empty), 1, 16) := by kernel_rfl
theorem app_str (hgd : o.guard = none) (s x : Operand) (ho : o.op = .call { callee := .builtin .append, args := #[s, x], argTypes := #[22, 22] })
    (base : Nat) (v : Value) (L : List ByteArray) (y : ByteArray) (hs : a.eval s = v) (hx : a.eval x = .slice (some ⟨wr.heap.size, 0, none⟩) 1 1) (hown : wr.ownsRow base 9 1 v L.length (ss L))
    (hn : L.length + 1 ≤ 2199023255552) (hbase : base ≤ wr.heap.size)
    (h : ∀ v' w', w'.ownsRow base 9 1 v' (L ++ [y]).length (ss (L ++ [y])) → Below base wr w' → wpList Tryd.prog ops Q rest (a.put o.dst v') w') : wpList Tryd.prog ops Q (o :: rest) a (wr.alloc (.cells #[.string y] 9)) :=
  app_row Tryd.underlying22 Tryd.info_str rfl (by decide) (by decide) hgd s x ho base v L.length (ss L) _ hs hx hown rfl (by simp [Value.oneCell']) hn hbase fun v' w' h1 _ h3 _ => h v' w' (by rw [ss_snoc, List.length_append]; exact h1) h3
theorem app_strG (hgd : o.guard = none) (s x : Operand) (ho : o.op = .call { callee := .builtin .append, args := #[s, x], argTypes := #[22, 22] })
    (base : Nat) (v : Value) (L : List ByteArray) (y : ByteArray) (hs : a.eval s = v) (hx : a.eval x = .slice (some ⟨wr.heap.size, 0, none⟩) 1 1) (hown : wr.ownsRow base 9 1 v L.length (ss L))
    (hn : L.length + 1 ≤ 2199023255552) (hbase : base ≤ wr.heap.size)
    (h : ∀ v' w', w'.ownsRow base 9 1 v' (L ++ [y]).length (ss (L ++ [y])) → wr.grownBy w' v.ownBlock → Below base wr w' → (v'.ownBlock = v.ownBlock ∨ ∃ g, v'.ownBlock = some g ∧ wr.heap.size ≤ g) → wpList Tryd.prog ops Q rest (a.put o.dst v') w') : wpList Tryd.prog ops Q (o :: rest) a (wr.alloc (.cells #[.string y] 9)) :=
  app_row Tryd.underlying22 Tryd.info_str rfl (by decide) (by decide) hgd s x ho base v L.length (ss L) _ hs hx hown rfl (by simp [Value.oneCell']) hn hbase fun v' w' h1 h2 h3 h4 => h v' w' (by rw [ss_snoc, List.length_append]; exact h1) h2 h3 h4
end
end Go.Proofs.YtdemmjofggemhaaDoor

/- The contracts of slices.Index, slices.Contains over texts; osierref09.At, In, Texts. -/
namespace Go.Proofs.YtdemmjofggemhaaDoor
open Go.RowKit

theorem str_beq (x y : ByteArray) : (x.toList == y.toList) = decide (x = y) := by
  rw [Bool.eq_iff_iff, decide_eq_true_eq]; exact Lib.bytes_beq_iff x y
theorem isEmpty_empty (s : ByteArray) : s.toList.isEmpty = decide (s = ByteArray.empty) := by
  rw [ByteArray.toList_eq, Bool.eq_iff_iff, List.isEmpty_iff, decide_eq_true_eq, Array.toList_eq_nil_iff]
  constructor
  · intro h; exact ByteArray.ext h
  · rintro rfl; rfl
theorem index_any (A : Option Addr) (L : List ByteArray) (c : Nat) (x : ByteArray) (w : World) (hl : L.length ≤ 35184372087808) (hL : Rd w w.heap.size A (ss L)) :
    Calls Tryd.prog 26 #[.slice A L.length c, .string x] w fun e w' => e = .returned (.int .i64 (atI L x)) ∧ w = w' := by
  go_enter Tryd.func26, Tryd.ntmps26
  go_wp2_with fail
  go_loop [5, 8] (fun _ i => ∃ k : Nat, k ≤ L.length ∧ i = .int .i64 k ∧ Hid (∀ j, j < k → nm L j ≠ x)) (fun _ i => L.length - (intOf i).toNat)
  case atStart => exact ⟨0, Nat.zero_le _, rfl, Lib.hid fun j hj => absurd hj (Nat.not_lt_zero _)⟩
  case round =>
    obtain ⟨k, hk, rfl, hno⟩ := hrel
    by_cases hlt : k < L.length
    · obtain ⟨ad, hA, _, hc⟩ := hL.s_at hlt
      subst hA
      have b1 : (0 : Int) ≤ k := by omega
      have b2 : (k : Int) < L.length := by omega
      have hb := str_beq x (nm L k)
      have HN : Hid (¬ nm L k = x → ∀ j, j < k + 1 → nm L j ≠ x) := Lib.hid fun h j hj => by
        rcases Nat.lt_or_ge j k with d | d
        · exact hno.out j d
        · obtain rfl : j = k := by omega
          exact h
      have HH : Hid (nm L k = x → atI L x = k) := Lib.hid fun h => atI_hit hlt h hno.out
      by_cases hx : x = nm L k
      · have HT := Lib.hid (HH.out hx.symm)
        rw [decide_eq_true hx] at hb
        clear HN HH hx
        generalize nm L k = y at hc hb
        go_wp2_with fail
        go_ret
        exact ⟨congrArg (fun z => Ending.returned (.int .i64 z)) HT.out.symm, by first | rfl | trivial⟩
      · have HT := Lib.hid (HN.out fun h => hx h.symm)
        rw [decide_eq_false hx] at hb
        clear HN HH hx hno
        generalize nm L k = y at hc hb
        go_wp2_with fail
        go_round
        case rel => exact ⟨k + 1, by omega, by go_num, HT⟩
        case measure => simp [intOf]; omega
    · have HT : Hid (atI L x = -1) := Lib.hid (atI_miss fun j hj => hno.out j (by omega))
      go_wp2_with fail
      go_ret
      exact ⟨congrArg (fun z => Ending.returned (.int .i64 z)) HT.out.symm, by first | rfl | trivial⟩
theorem has_any9 (A : Option Addr) (L : List ByteArray) (c : Nat) (x : ByteArray) (w : World) (hl : L.length ≤ 35184372087808) (hL : Rd w w.heap.size A (ss L)) :
    Calls Tryd.prog 49 #[.slice A L.length c, .string x] w fun e w' => e = .returned (.bool (decide (x ∈ L))) ∧ w = w' := by
  have HI := Lib.hid (index_any A L c x w hl hL)
  have HB : Hid (decide (0 ≤ atI L x) = decide (x ∈ L)) := Lib.hid (by rw [Bool.eq_iff_iff, decide_eq_true_eq, decide_eq_true_eq]; exact atI_nonneg)
  generalize atI L x = r at HI HB
  go_enter Tryd.func49, Tryd.ntmps49
  go_wp2_with fail
  refine HI.out.mono ?_
  rintro e w' ⟨rfl, rfl⟩
  go_wp2_with fail
  go_ret
  exact ⟨congrArg (fun z => Ending.returned (.bool z)) HB.out, by first | rfl | trivial⟩
theorem at9_any (A : Option Addr) (L : List ByteArray) (c : Nat) (x : ByteArray) (w : World) (hl : L.length ≤ 35184372087808) (hL : Rd w w.heap.size A (ss L)) :
    Calls Tryd.prog 15 #[.slice A L.length c, .string x] w fun e w' => e = .returned (.int .i64 (atI L x)) ∧ w = w' := by
  go_enter Tryd.func15, Tryd.ntmps15
  go_wp2_with fail
  go_loop [5] (fun i => ∃ k : Nat, k ≤ L.length ∧ i = .int .i64 k ∧ Hid (∀ j, j < k → nm L j ≠ x)) (fun i => L.length - (intOf i).toNat)
  case atStart => exact ⟨0, Nat.zero_le _, rfl, Lib.hid fun j hj => absurd hj (Nat.not_lt_zero _)⟩
  case round =>
    obtain ⟨k, hk, rfl, hno⟩ := hrel
    by_cases hlt : k < L.length
    · obtain ⟨ad, hA, _, hc⟩ := hL.s_at hlt
      subst hA
      have b1 : (0 : Int) ≤ k := by omega
      have b2 : (k : Int) < L.length := by omega
      have hb := str_beq (nm L k) x
      have HN : Hid (¬ nm L k = x → ∀ j, j < k + 1 → nm L j ≠ x) := Lib.hid fun h j hj => by
        rcases Nat.lt_or_ge j k with d | d
        · exact hno.out j d
        · obtain rfl : j = k := by omega
          exact h
      have HH : Hid (nm L k = x → atI L x = k) := Lib.hid fun h => atI_hit hlt h hno.out
      by_cases hx : nm L k = x
      · have HT := Lib.hid (HH.out hx)
        rw [decide_eq_true hx] at hb
        clear HN HH hx
        generalize nm L k = y at hc hb
        go_wp2_with fail
        go_ret
        exact ⟨congrArg (fun z => Ending.returned (.int .i64 z)) HT.out.symm, by first | rfl | trivial⟩
      · have HT := Lib.hid (HN.out hx)
        rw [decide_eq_false hx] at hb
        clear HN HH hx hno
        generalize nm L k = y at hc hb
        go_wp2_with fail
        go_round
        case rel => exact ⟨k + 1, by omega, by go_num, HT⟩
        case measure => simp [intOf]; omega
    · have HT : Hid (atI L x = -1) := Lib.hid (atI_miss fun j hj => hno.out j (by omega))
      go_wp2_with fail
      go_ret
      exact ⟨congrArg (fun z => Ending.returned (.int .i64 z)) HT.out.symm, by first | rfl | trivial⟩
theorem in9_any (A : Option Addr) (L : List ByteArray) (c : Nat) (x : ByteArray) (w : World) (hl : L.length ≤ 35184372087808) (hL : Rd w w.heap.size A (ss L)) :
    Calls Tryd.prog 16 #[.slice A L.length c, .string x] w fun e w' => e = .returned (.bool (decide (x ∈ L))) ∧ w = w' := by
  have HI := Lib.hid (at9_any A L c x w hl hL)
  have HB : Hid (decide (0 ≤ atI L x) = decide (x ∈ L)) := Lib.hid (by rw [Bool.eq_iff_iff, decide_eq_true_eq, decide_eq_true_eq]; exact atI_nonneg)
  generalize atI L x = r at HI HB
  go_enter Tryd.func16, Tryd.ntmps16
  go_wp2_with fail
  refine HI.out.mono ?_
  rintro e w' ⟨rfl, rfl⟩
  go_wp2_with fail
  go_ret
  exact ⟨congrArg (fun z => Ending.returned (.bool z)) HB.out, by first | rfl | trivial⟩

theorem mk_str (n : Nat) (h : n ≤ 8796093022208) (w : World) : (Instr.makeSlice 22 (.int .i64 (n : Int)) (.int .i64 (n : Int))).run Tryd.prog w = .ok (.slice (some ⟨w.heap.size, 0, none⟩) n n) (w.alloc (.cells (zeros (.string ByteArray.empty) n).toArray 9)) := by
  rw [← madeCells_zeros]
  exact run_make_row' 22 9 (.string ByteArray.empty) 16 Tryd.underlying22 Tryd.info_str rfl .i64 .i64 n (by omega) (by omega) w
theorem Tryd.size_str : (Tryd.prog.info? 9).map (·.size) = some 1 := by kernel_rfl
theorem texts_any (A : Option Addr) (L : List ByteArray) (c : Nat) (w : World) (hl : L.length ≤ 8796093022208) (hE : Rd w w.heap.size A (ss L)) :
    Calls Tryd.prog 29 #[.slice A L.length c] w fun e w' => ∃ g, e = .returned (.slice (some ⟨g, 0, none⟩) L.length L.length) ∧ w.heap.size ≤ g ∧ Row w' g 9 (ss L) ∧ Below w.heap.size w w' := by
  have hmk := mk_str L.length hl
  go_enter Tryd.func29, Tryd.ntmps29
  go_wp2_with ((with_reducible show wpList _ _ _ _ _ _); refine wp_copy_whole rfl (.tmp 7) (.tmp 8) 22 rfl 9 Tryd.underlying22 Tryd.size_str (.string ByteArray.empty) L.length c A (ss L) (ss_length L) _ rfl rfl ?_ ?_ (ss_one L) w.heap.size ?_ ?_)
  · exact Row.new_ (by simp)
  · exact hE.later (below_alloc w _)
  · omega
  · intro w1 hr hb
    go_wp2
    go_ret
    exact ⟨_, rfl, Nat.le_refl _, hr, (below_alloc w _).trans hb⟩
end Go.Proofs.YtdemmjofggemhaaDoor

/- The contracts of query.AtomVars, query.Vars, osierref09.AtomVars. -/
namespace Go.Proofs.YtdemmjofggemhaaDoor
open Go.RowKit

theorem foldl_snoc {α β : Type} (f : β → α → β) (b : β) (l : List α) (k : Nat) (h : k < l.length) : (l.take (k + 1)).foldl f b = f ((l.take k).foldl f b) l[k] := by
  rw [take_snoc l k h, List.foldl_append]; rfl
theorem addV_skip {L : List ByteArray} {t : Tm} (h : t.var = ByteArray.empty ∨ t.var ∈ L) : addV L t = L := by unfold addV; rw [if_pos h]
theorem addV_new {L : List ByteArray} {t : Tm} (h : ¬ t.var = ByteArray.empty) (h' : ¬ t.var ∈ L) : addV L t = L ++ [t.var] := by unfold addV; rw [if_neg (by simp [h, h'])]
theorem addS_skip {L : List ByteArray} {v : ByteArray} (h : v ∈ L) : addS L v = L := by unfold addS; rw [if_pos h]
theorem addS_new {L : List ByteArray} {v : ByteArray} (h : ¬ v ∈ L) : addS L v = L ++ [v] := by unfold addS; rw [if_neg h]

set_option maxHeartbeats 4000000 in
set_option maxRecDepth 100000 in
theorem atomVars_any (rel : ByteArray) (T : Option Addr) (ts : List Tm) (c : Nat) (w : World) (hl : ts.length ≤ 1000000) (hT : Rd w w.heap.size T (tms ts)) :
    Calls Tryd.prog 39 #[.agg #[.string rel, .slice T ts.length c]] w fun e w' => ∃ v, e = .returned v ∧ w'.ownsRow w.heap.size 9 1 v (avars ts).length (ss (avars ts)) ∧ Below w.heap.size w w' := by
  have HH := Lib.hid has_any9
  go_enter Tryd.func39, Tryd.ntmps39
  go_wp2_with fail
  have hb0 := below_alloc w (.cells #[.string rel, .slice T ts.length c] 47)
  generalize w.alloc _ = w0 at hb0 ⊢
  go_loopw [3, 9] (fun o i wr => ∃ (k : Nat) (L : List ByteArray), k ≤ ts.length ∧ i = .int .i64 k ∧ Hid (L = (ts.take k).foldl addV []) ∧ L.length ≤ k ∧ wr.ownsRow w.heap.size 9 1 o L.length (ss L) ∧ Below w.heap.size w wr) (fun _ i _ => ts.length - (intOf i).toNat)
  case atStart => exact ⟨0, [], Nat.zero_le _, rfl, Lib.hid rfl, Nat.le_refl _, World.ownsRow_nil _ _ _ _, hb0⟩
  case round =>
    obtain ⟨k, L, hk, rfl, hL, hlk, hown, hb⟩ := hrel
    obtain ⟨AL, cL, rfl, _, _, hRL, _⟩ := Rd.of_own hown
    by_cases hlt : k < ts.length
    · obtain ⟨ad, hA, _, hc, hc1, hc2, hc3⟩ := (hT.later hb).t_cells hlt
      subst hA
      have b1 : (0 : Int) ≤ k := by omega
      have b2 : (k : Int) < ts.length := by omega
      have HN : Hid (∀ M, M = addV L (tm ts k) → M = (ts.take (k + 1)).foldl addV []) := Lib.hid fun M h => by rw [foldl_snoc addV [] ts k hlt, ← hL.out, tm_eq ts k hlt]; exact h
      clear hL
      generalize tm ts k = t at hc hc1 hc2 hc3 HN
      have he := isEmpty_empty t.var
      by_cases hv : t.var = ByteArray.empty
      · have HX := Lib.hid (HN.out L (addV_skip (.inl hv)).symm)
        rw [decide_eq_true hv] at he
        clear hv
        go_wp2_with fail
        go_roundw
        case rel => exact ⟨k + 1, L, by omega, by go_num, HX, by omega, own_below hown (below_alloc _ _), hb.alloc hb.size _⟩
        case measure => simp [intOf]; omega
      · rw [decide_eq_false hv] at he
        go_upto_region 5 with fail
        have hb1 := below_alloc wr (.cells #[.string t.var, .int .i64 t.kind, .int .i64 t.num, .string t.text] 52)
        have hR1 : Row (wr.alloc (.cells #[.string t.var, .int .i64 t.kind, .int .i64 t.num, .string t.text] 52)) wr.heap.size 52 [.string t.var, .int .i64 t.kind, .int .i64 t.num, .string t.text] := Row.new _ _ _
        have hown1 := own_below hown hb1
        have hRL1 := hRL.later hb1
        have hB1 := hb.trans (hb1.mono hb.size)
        generalize wr.heap.size = q at hR1 ⊢
        generalize wr.alloc _ = w1 at hR1 hown1 hRL1 hB1 ⊢
        have d0 : w1.cell? ⟨q, 0, none⟩ = some (.string t.var) := hR1.cell 0
        clear hown hRL hb1 hb hc hc1 hc2 hc3
        have HC := Lib.hid (HH.out AL L cL t.var w1 (by omega) hRL1)
        by_cases hm : t.var ∈ L
        · have HX := Lib.hid (HN.out L (addV_skip (.inr hm)).symm)
          rw [decide_eq_true hm] at HC
          clear hm hv
          go_wp2_with fail
          refine HC.out.mono ?_
          rintro e w' ⟨rfl, rfl⟩
          go_wp2_with fail
          go_roundw
          case rel => exact ⟨k + 1, L, by omega, by go_num, HX, by omega, hown1, hB1⟩
          case measure => simp [intOf]; omega
        · have HX := Lib.hid (HN.out (L ++ [t.var]) (addV_new hv hm).symm)
          rw [decide_eq_false hm] at HC
          clear hm hv
          generalize t.var = y at *
          go_wp2_with fail
          refine HC.out.mono ?_
          rintro e w' ⟨rfl, rfl⟩
          go_wp2_with ((with_reducible show wpList _ _ _ _ _ _); refine app_str rfl (.tmp 23) (.tmp 26) rfl w.heap.size _ L y rfl rfl hown1 (by omega) hB1.size ?_)
          intro v' w' hown' hb'
          go_wp2_with fail
          go_roundw
          case rel => exact ⟨k + 1, L ++ [y], by omega, by go_num, HX, by simp; omega, by rw [List.length_append]; exact hown', hB1.trans hb'⟩
          case measure => simp [intOf]; omega
    · obtain rfl : k = ts.length := by omega
      have HE : Hid (L = avars ts) := Lib.hid (by rw [hL.out, List.take_length]; rfl)
      go_wp2_with fail
      go_ret
      exact ⟨_, rfl, by rw [← HE.out]; exact hown, hb⟩

/-- The variables of one atom more. -/
def addA (out : List ByteArray) (a : Am) : List ByteArray := (avars a.terms).foldl addS out
set_option maxHeartbeats 4000000 in
set_option maxRecDepth 100000 in
theorem qvars_any (name : ByteArray) (AH : Option Addr) (nh cH : Nat) (AA : Option Addr) (xs : List Am) (cA : Nat) (w : World) (hl : xs.length ≤ 6) (h5 : ∀ a ∈ xs, a.terms.length ≤ 5) (hA : Ats w w.heap.size AA xs) :
    Calls Tryd.prog 25 #[.agg #[.string name, .slice AH nh cH, .slice AA xs.length cA]] w fun e w' => ∃ v, e = .returned v ∧ w'.ownsRow w.heap.size 9 1 v (qvars xs).length (ss (qvars xs)) ∧ Below w.heap.size w w' := by
  have HH := Lib.hid has_any9
  have HV := Lib.hid atomVars_any
  go_enter Tryd.func25, Tryd.ntmps25
  go_wp2_with fail
  have hb0 := below_alloc w (.cells #[.string name, .slice AH nh cH, .slice AA xs.length cA] 25)
  generalize w.alloc _ = w0 at hb0 ⊢
  go_loopw [3, 11] (fun o i wr => ∃ (k : Nat) (L : List ByteArray), k ≤ xs.length ∧ i = .int .i64 k ∧ Hid (L = (xs.take k).foldl addA []) ∧ L.length ≤ 5 * k ∧ wr.ownsRow w.heap.size 9 1 o L.length (ss L) ∧ Below w.heap.size w wr) (fun _ i _ => xs.length - (intOf i).toNat)
  case atStart => exact ⟨0, [], Nat.zero_le _, rfl, Lib.hid rfl, Nat.le_refl _, World.ownsRow_nil _ _ _ _, hb0⟩
  case round =>
    obtain ⟨k, L, hk, rfl, hL, hlk, hown, hb⟩ := hrel
    by_cases hlt : k < xs.length
    · obtain ⟨ad, hAd, _, hc, T, cT, hc1, hT, _⟩ := (hA.later hb) k hlt
      subst hAd
      have b1 : (0 : Int) ≤ k := by omega
      have b2 : (k : Int) < xs.length := by omega
      have HN : Hid (∀ M, M = addA L (am xs k) → M = (xs.take (k + 1)).foldl addA []) := Lib.hid fun M h => by rw [foldl_snoc addA [] xs k hlt, ← hL.out, am_eq xs k hlt]; exact h
      have h5k := h5 _ (am_mem xs k hlt)
      clear hL
      generalize am xs k = a at hc hc1 hT HN h5k
      obtain ⟨AL, cL, rfl, _, _, _, _⟩ := Rd.of_own hown
      go_upto_region 5 with fail
      have hb1 := below_alloc wr (.cells #[.string a.rel, .slice T a.terms.length cT] 47)
      have hR1 : Row (wr.alloc (.cells #[.string a.rel, .slice T a.terms.length cT] 47)) wr.heap.size 47 [.string a.rel, .slice T a.terms.length cT] := Row.new _ _ _
      have hown1 := own_below hown hb1
      have hT1 := hT.later hb1
      have hB1 := hb.trans (hb1.mono hb.size)
      generalize wr.heap.size = q at hR1 ⊢
      generalize wr.alloc _ = w1 at hR1 hown1 hT1 hB1 ⊢
      have d0 : w1.cell? ⟨q, 0, none⟩ = some (.string a.rel) := hR1.cell 0
      have d1 : w1.cell? ⟨q, 1, none⟩ = some (.slice T a.terms.length cT) := hR1.cell 1
      clear hown hT hb1 hb hc hc1
      have HC := Lib.hid (HV.out a.rel T a.terms cT w1 (by omega) hT1)
      have hml : (avars a.terms).length ≤ 5 := Nat.le_trans (avars_length a.terms) h5k
      have HF : Hid (addA L a = (avars a.terms).foldl addS L) := Lib.hid rfl
      generalize avars a.terms = M at HC hml HF
      go_wp2_with fail
      refine HC.out.mono ?_
      rintro e w2 ⟨v2, rfl, hownM, hb2⟩
      obtain ⟨AM, cM, rfl, _, _, hRM, _⟩ := Rd.of_own hownM
      have hown2 := own_below hown1 hb2
      have hB2 := hB1.trans (hb2.mono hB1.size)
      have hne : ∀ g, (Value.slice AL L.length cL).ownBlock = some g → (Value.slice AM M.length cM).ownBlock ≠ some g := fun g h1 h2 => by
        have := (hown1.lt g h1).2
        have := (hownM.lt g h2).1
        omega
      clear hown1 hB1 hT1 hR1 d0 d1 HC hb2 hRM
      go_wp2_with fail
      go_loopg [3, 18] M.length (fun g o i wi => ∃ (m : Nat) (L2 : List ByteArray), m ≤ M.length ∧ g = M.length - m ∧ i = .int .i64 m ∧ Hid (L2 = (M.take m).foldl addS L) ∧ L2.length ≤ L.length + m ∧ wi.ownsRow w.heap.size 9 1 o L2.length (ss L2) ∧ wi.ownsRow w1.heap.size 9 1 (.slice AM M.length cM) M.length (ss M) ∧ (∀ g, o.ownBlock = some g → (Value.slice AM M.length cM).ownBlock ≠ some g) ∧ Below w.heap.size w wi)
      case atStart => exact ⟨0, L, Nat.zero_le _, rfl, rfl, Lib.hid rfl, Nat.le_refl _, hown2, hownM, hne, hB2⟩
      case round =>
        clear hown2 hownM hne hB2
        obtain ⟨m, L2, hm, rfl, rfl, hL2, hlm, hown2, hownM, hne, hB2⟩ := hrel
        obtain ⟨AL2, cL2, rfl, _, _, hRL2, _⟩ := Rd.of_own hown2
        by_cases hmlt : m < M.length
        · obtain ⟨AM', cM', eM, _, _, hRM, _⟩ := Rd.of_own hownM
          injection eM with e1 _ e2
          subst e1 e2
          obtain ⟨ad2, hAd2, _, hc2⟩ := hRM.s_at hmlt
          subst hAd2
          have b3 : (0 : Int) ≤ m := by omega
          have b4 : (m : Int) < M.length := by omega
          have HN2 : Hid (∀ S, S = addS L2 (nm M m) → S = (M.take (m + 1)).foldl addS L) := Lib.hid fun S h => by rw [foldl_snoc addS L M m hmlt, ← hL2.out, nm_eq M m hmlt]; exact h
          clear hL2
          generalize nm M m = y at hc2 HN2
          have HC := Lib.hid (HH.out AL2 L2 cL2 y wr (by omega) hRL2)
          clear hRM hRL2
          by_cases hy : y ∈ L2
          · have HX := Lib.hid (HN2.out L2 (addS_skip hy).symm)
            rw [decide_eq_true hy] at HC
            clear hy
            go_wp2_with fail
            refine HC.out.mono ?_
            rintro e w' ⟨rfl, rfl⟩
            go_wp2_with fail
            go_roundg (M.length - (m + 1))
            case measure => omega
            case rel => exact ⟨m + 1, L2, by omega, rfl, by go_num, HX, by omega, hown2, hownM, hne, hB2⟩
          · have HX := Lib.hid (HN2.out (L2 ++ [y]) (addS_new hy).symm)
            rw [decide_eq_false hy] at HC
            clear hy
            go_wp2_with fail
            refine HC.out.mono ?_
            rintro e w' ⟨rfl, rfl⟩
            go_wp2_with ((with_reducible show wpList _ _ _ _ _ _); refine app_strG rfl (.tmp 26) (.tmp 28) rfl w.heap.size _ L2 y rfl rfl hown2 (by omega) hB2.size ?_)
            intro v' w' hown' hgr hb' hat
            have hownM' := own_grown hownM hgr (fun g h1 => hne g h1)
            have hne' : ∀ g, v'.ownBlock = some g → (Value.slice (some ad2) M.length cM).ownBlock ≠ some g := fun g h1 h2 => by
              rcases hat with e | ⟨g', e, hge⟩
              · exact hne g (e.symm.trans h1) h2
              · have := (hownM.lt g h2).2
                rw [h1] at e
                injection e with e
                omega
            go_wp2_with fail
            go_roundg (M.length - (m + 1))
            case measure => omega
            case rel => exact ⟨m + 1, L2 ++ [y], by omega, rfl, by go_num, HX, by simp; omega, by rw [List.length_append]; exact hown', hownM', hne', hB2.trans hb'⟩
        · obtain rfl : m = M.length := by omega
          have HX := Lib.hid (HN.out L2 (by rw [HF.out, hL2.out, List.take_length]))
          go_wp2_with fail
          go_roundw
          case rel => exact ⟨k + 1, L2, by omega, by go_num, HX, by omega, hown2, hB2⟩
          case measure => simp [intOf]; omega
    · obtain rfl : k = xs.length := by omega
      have HE : Hid (L = qvars xs) := Lib.hid (by rw [hL.out, List.take_length]; rfl)
      go_wp2_with fail
      go_ret
      exact ⟨_, rfl, by rw [← HE.out]; exact hown, hb⟩
end Go.Proofs.YtdemmjofggemhaaDoor

/- The contracts of osierref09.AtomVars, Vars. -/
namespace Go.Proofs.YtdemmjofggemhaaDoor
open Go.RowKit

set_option maxHeartbeats 4000000 in
set_option maxRecDepth 100000 in
theorem r09atomVars_any (rel : ByteArray) (T : Option Addr) (ts : List Tm) (c : Nat) (w : World) (hl : ts.length ≤ 1000000) (hT : Rd w w.heap.size T (tms ts)) :
    Calls Tryd.prog 33 #[.agg #[.string rel, .slice T ts.length c]] w fun e w' => ∃ v, e = .returned v ∧ w'.ownsRow w.heap.size 9 1 v (avars ts).length (ss (avars ts)) ∧ Below w.heap.size w w' := by
  have HH := Lib.hid in9_any
  go_enter Tryd.func33, Tryd.ntmps33
  go_wp2_with fail
  have hb0 := below_alloc w (.cells #[.string rel, .slice T ts.length c] 47)
  have hR0 : Row (w.alloc (.cells #[.string rel, .slice T ts.length c] 47)) w.heap.size 47 [.string rel, .slice T ts.length c] := Row.new _ _ _
  have hT0 := hT.later hb0
  generalize w.alloc _ = w0 at hb0 hR0 hT0 ⊢
  have hbase := hb0.size
  go_loopw [3, 4] (fun o i wr => ∃ (k : Nat) (L : List ByteArray), k ≤ ts.length ∧ i = .int .i64 k ∧ Hid (L = (ts.take k).foldl addV []) ∧ L.length ≤ k ∧ wr.ownsRow w0.heap.size 9 1 o L.length (ss L) ∧ Below w0.heap.size w0 wr) (fun _ i _ => ts.length - (intOf i).toNat)
  case atStart => exact ⟨0, [], Nat.zero_le _, rfl, Lib.hid rfl, Nat.le_refl _, World.ownsRow_nil _ _ _ _, Below.refl _ _⟩
  case round =>
    obtain ⟨k, L, hk, rfl, hL, hlk, hown, hb⟩ := hrel
    obtain ⟨AL, cL, rfl, _, _, hRL, _⟩ := Rd.of_own hown
    have d1 : wr.cell? ⟨w.heap.size, 1, none⟩ = some (.slice T ts.length c) := (hR0.later hb).cell 1
    by_cases hlt : k < ts.length
    · obtain ⟨ad, hA, _, hc, hc1, hc2, hc3⟩ := (hT0.later hb).t_cells hlt
      subst hA
      have b1 : (0 : Int) ≤ k := by omega
      have b2 : (k : Int) < ts.length := by omega
      have HN : Hid (∀ M, M = addV L (tm ts k) → M = (ts.take (k + 1)).foldl addV []) := Lib.hid fun M h => by rw [foldl_snoc addV [] ts k hlt, ← hL.out, tm_eq ts k hlt]; exact h
      clear hL
      generalize tm ts k = t at hc hc1 hc2 hc3 HN
      have he := isEmpty_empty t.var
      by_cases hv : t.var = ByteArray.empty
      · have HX := Lib.hid (HN.out L (addV_skip (.inl hv)).symm)
        rw [decide_eq_true hv] at he
        clear hv
        go_wp2_with fail
        go_roundw
        case rel => exact ⟨k + 1, L, by omega, by go_num, HX, by omega, hown, hb⟩
        case measure => simp [intOf]; omega
      · rw [decide_eq_false hv] at he
        have HC := Lib.hid (HH.out AL L cL t.var wr (by omega) hRL)
        by_cases hm : t.var ∈ L
        · have HX := Lib.hid (HN.out L (addV_skip (.inr hm)).symm)
          rw [decide_eq_true hm] at HC
          clear hm hv
          go_wp2_with fail
          refine HC.out.mono ?_
          rintro e w' ⟨rfl, rfl⟩
          go_wp2_with fail
          go_roundw
          case rel => exact ⟨k + 1, L, by omega, by go_num, HX, by omega, hown, hb⟩
          case measure => simp [intOf]; omega
        · have HX := Lib.hid (HN.out (L ++ [t.var]) (addV_new hv hm).symm)
          rw [decide_eq_false hm] at HC
          clear hm hv
          generalize t.var = y at *
          go_wp2_with fail
          refine HC.out.mono ?_
          rintro e w' ⟨rfl, rfl⟩
          go_wp2_with ((with_reducible show wpList _ _ _ _ _ _); refine app_str rfl (.tmp 30) (.tmp 37) rfl w0.heap.size _ L y rfl rfl hown (by omega) hb.size ?_)
          intro v' w' hown' hb'
          go_wp2_with fail
          go_roundw
          case rel => exact ⟨k + 1, L ++ [y], by omega, by go_num, HX, by simp; omega, by rw [List.length_append]; exact hown', hb.trans hb'⟩
          case measure => simp [intOf]; omega
    · obtain rfl : k = ts.length := by omega
      have HE : Hid (L = avars ts) := Lib.hid (by rw [hL.out, List.take_length]; rfl)
      go_wp2_with fail
      go_ret
      exact ⟨_, rfl, own_less (by rw [← HE.out]; exact hown) hbase, hb0.trans (hb.mono hbase)⟩

section
variable {w : World} {ops : Array Oper} {o : Oper} {a : Act} {K : Act → World → Prop} {Q : Exit → Act → World → Prop} {F : Prop}
set_option maxRecDepth 100000 in
/-- 'append(v, src...)' at a step of a region that draws, whatever the source: nil, empty or not. -/
theorem step_app_src {T e : TypeId} {z : Value} {size bytes : Nat} (hu : Tryd.prog.underlying T = some (.slice e)) (hinfo : (Tryd.prog.info? e).map (fun i => (i.zero, i.size, i.bytes)) = some (some z, size, bytes)) (hz1 : z.cells.size = size) (hsz : 0 < size)
    (hgd : o.guard = none) (s x : Operand) (ho : o.op = .call { callee := .builtin .append, args := #[s, x], argTypes := #[T, T] })
    (base : Nat) (v : Value) (n : Nat) (xs : List Value) (A : Option Addr) (m c : Nat) (news : List Value) (hs : a.eval s = v) (hx : a.eval x = .slice A m c) (hown : w.ownsRow base e size v n xs)
    (hl : news.length = m * size) (hR : Rd w w.heap.size A news) (hA : A = none → c = 0) (h1 : ∀ u ∈ news, u.oneCell' = true) (hn : n + m ≤ 9223372036854775807) (hby : (n + m) * bytes ≤ 140737488355328) (hbase : base ≤ w.heap.size)
    (h : ∀ v' w', w'.ownsRow base e size v' (n + m) (xs ++ news) → w.grownBy w' v.ownBlock → Below base w w' → (v'.ownBlock = v.ownBlock ∨ ∃ g, v'.ownBlock = some g ∧ w.heap.size ≤ g) → K (a.put o.dst v') w') :
    if Region.wanted o (yielded ops a.tmps) = true then Oper.wp Tryd.prog o a w K Q else F := by
  have hw : Region.wanted o (yielded ops a.tmps) = true := by simp [Region.wanted, hgd]
  rw [if_pos hw]
  obtain ⟨i, hi, hz, hs1, hb1⟩ := info_parts hinfo
  match A, hA, hR, hx with
  | none, hA, hR, hx =>
    have hn0 : news = [] := by
      cases news with
      | nil => rfl
      | cons u l =>
        obtain ⟨ad, e, _⟩ := hR 0 (by simp)
        cases e
    subst hn0
    have hm0 : m = 0 := by
      rcases Nat.mul_eq_zero.1 hl.symm with e | e
      · exact e
      · omega
    subst hm0
    rw [hA rfl] at hx
    have hrun := run_append_owned_none (P := Tryd.prog) (w := w) base T o.type e i size hu hi v n xs hown
    unfold Oper.wp
    simp [execOp, ho, resolve, invoke, builtin, hs, hx, hrun, Result.andThen]
    exact h v w (by simpa using hown) ⟨rfl, rfl, rfl, Nat.le_refl _, fun _ _ _ => rfl⟩ (Below.refl _ _) (.inl rfl)
  | some ad, hA, hR, hx =>
    obtain ⟨v', w', hr, h2, h3, h4, h5⟩ := run_append_own_at (P := Tryd.prog) w base T o.type e i z size bytes hu hi hz hs1 hb1 hz1 hsz v n xs hown ad m c news hl (fun j u hj => by
      obtain ⟨hj', rfl⟩ := List.getElem?_eq_some_iff.1 hj
      obtain ⟨ad', e, _, hc⟩ := hR j hj'
      injection e with e
      subst e
      exact hc) h1 (by unfold maxLen; omega) hby hbase
    unfold Oper.wp execOp
    simp only [ho, resolve, invoke, builtin, Sem.run_bind, Sem.run_pure, Result.andThen_ok, List.map_toArray, List.map_cons, List.map_nil, hs, hx, hr]
    refine h v' w' h2 h3 ((Below.refl base w).grown h3 hbase fun k hk => (hown.lt k hk).1) ?_
    rcases h5 with e | e
    · exact .inl e
    · exact .inr ⟨_, e, Nat.le_refl _⟩
end
theorem grown_below9 {B : Nat} {w w' : World} (h : Below B w w') (r : Option Nat) (hs : w.heap.size = B := by rfl) : w.grownBy w' r :=
  ⟨h.os, h.tape, h.output, h.size, fun k hk _ => h.block k (by omega)⟩
theorem grown_set9 {w w' : World} {q : Nat} (h : w.grownBy w' (some q)) (i : Nat) (u : Value) : w.grownBy (w'.setCell ⟨q, i, none⟩ u) (some q) :=
  ⟨h.os, h.tape, h.output, by have := h.size; simpa using this, fun k hk hne => (Below.heap_setCell w' ⟨q, i, none⟩ u k (by simpa using fun e => hne (by rw [e]))).trans (h.block k hk hne)⟩
theorem Tryd.info_Term : (Tryd.prog.info? 52).map (fun i => (i.zero, i.size, i.bytes)) = some (some (.agg #[.string ByteArray.empty, .int .i64 0, .int .i64 0, .string ByteArray.empty]), 4, 48) := by kernel_rfl

set_option maxHeartbeats 4000000 in
set_option maxRecDepth 100000 in
theorem r09vars_any (name : ByteArray) (AH : Option Addr) (nh cH : Nat) (AA : Option Addr) (xs : List Am) (cA : Nat) (w : World) (hl : xs.length ≤ 6) (h5 : ∀ a ∈ xs, a.terms.length ≤ 5) (hA : Ats w w.heap.size AA xs) :
    Calls Tryd.prog 11 #[.agg #[.string name, .slice AH nh cH, .slice AA xs.length cA]] w fun e w' => ∃ v, e = .returned v ∧ w'.ownsRow w.heap.size 9 1 v (qvars xs).length (ss (qvars xs)) ∧ Below w.heap.size w w' := by
  have HV := Lib.hid r09atomVars_any
  go_enter Tryd.func11, Tryd.ntmps11
  go_upto_region 3 with fail
  have hb0 : Below w.heap.size w ((w.alloc (.cells #[.string name, .slice AH nh cH, .slice AA xs.length cA] 25)).alloc (.cells #[.string { data := #[] }, .slice none 0 0] 47)) := (below_alloc w _).alloc (by simp) _
  have hQ0 : Row ((w.alloc (.cells #[.string name, .slice AH nh cH, .slice AA xs.length cA] 25)).alloc (.cells #[.string { data := #[] }, .slice none 0 0] 47)) w.heap.size 25 [.string name, .slice AH nh cH, .slice AA xs.length cA] := (Row.new w _ _).alloc _
  have hT0 : Row ((w.alloc (.cells #[.string name, .slice AH nh cH, .slice AA xs.length cA] 25)).alloc (.cells #[.string { data := #[] }, .slice none 0 0] 47)) (w.heap.size + 1) 47 [.string { data := #[] }, .slice none 0 0] := Row.new_ (by simp)
  have hbs := hb0.size
  generalize (w.alloc _).alloc _ = w0 at hb0 hQ0 hT0 hbs ⊢
  go_loopw [4] (fun i wr => ∃ (k : Nat) (A1 : Option Addr) (c1 : Nat) (F : List Tm), k ≤ xs.length ∧ i = .int .i64 k ∧ Hid (F = (xs.take k).flatMap Am.terms) ∧ F.length ≤ 5 * k ∧ Row wr w.heap.size 25 [.string name, .slice AH nh cH, .slice AA xs.length cA] ∧ Row wr (w.heap.size + 1) 47 [.string { data := #[] }, .slice A1 F.length c1] ∧ wr.ownsRow (w.heap.size + 2) 52 4 (.slice A1 F.length c1) F.length (tms F) ∧ Below w.heap.size w wr) (fun i _ => xs.length - (intOf i).toNat)
  case atStart => exact ⟨0, none, 0, [], Nat.zero_le _, rfl, Lib.hid rfl, Nat.le_refl _, hQ0, hT0, World.ownsRow_nil _ _ _ _, hb0⟩
  case round =>
    obtain ⟨k, A1, c1, F, hk, rfl, hF, hlk, hQ, hT, hown, hb⟩ := hrel
    have q2 : wr.cell? ⟨w.heap.size, 2, none⟩ = some (.slice AA xs.length cA) := hQ.cell 2
    by_cases hlt : k < xs.length
    · obtain ⟨ad, hAd, _, hc, T, cT, hc1, hTr, hTn⟩ := (hA.later hb) k hlt
      subst hAd
      have b1 : (0 : Int) ≤ k := by omega
      have b2 : (k : Int) < xs.length := by omega
      have HN : Hid (∀ M, M = F ++ (am xs k).terms → M = (xs.take (k + 1)).flatMap Am.terms) := Lib.hid fun M h => by rw [take_snoc xs k hlt, List.flatMap_append, ← hF.out, List.flatMap_singleton, am_eq xs k hlt]; exact h
      have h5k := h5 _ (am_mem xs k hlt)
      clear hF
      generalize am xs k = a at hc hc1 hTr HN h5k
      have t1 : wr.cell? ⟨w.heap.size + 1, 1, none⟩ = some (.slice A1 F.length c1) := hT.cell 1
      have t1f := hT.frozen 1
      have hTlt := hT.lt
      go_upto_region 5 with fail
      go_region_law (refine step_app_src Tryd.underlying45 Tryd.info_Term rfl (by decide) rfl (.tmp 14) (.tmp 20) rfl (w.heap.size + 2) (.slice A1 F.length c1) F.length (tms F) T a.terms.length cT (tms a.terms) (by first | rfl | go_simp) (by first | rfl | go_simp) (own_below hown ((Below.refl wr.heap.size wr).drew)) (tms_length _) (hTr.later ((Below.refl wr.heap.size wr).drew)) hTn (tms_one _) (by omega) (by omega) (by simp; omega) ?_; intro v' w' hown' hgr hb' hat; obtain ⟨A', c', rfl, -⟩ := Rd.of_ownS hown'; have hT' := (hT.drew).grown hgr (own_row_ne (own_below hown ((Below.refl wr.heap.size wr).drew)) hT.drew (by decide)); have k0 := hT'.frozen 1; have k1 : w'.cell? ⟨w.heap.size + 1, 1, none⟩ = some (.slice A1 F.length c1) := hT'.cell 1)
      all_goals
        have hT6 := hT'.set_ 1 (.slice A' (F.length + a.terms.length) c')
        have hQ6 := ((hQ.drew).grown hgr (own_row_ne (own_below hown ((Below.refl wr.heap.size wr).drew)) hQ.drew (by decide))).far (p := ⟨w.heap.size + 1, 1, none⟩) (by simp) (.slice A' (F.length + a.terms.length) c')
        have hown6 := own_grown hown' (grown_set9 (grown_below9 (Below.refl w'.heap.size w') (some (w.heap.size + 1))) 1 (.slice A' (F.length + a.terms.length) c')) fun x hx => by
          injection hx with hx
          subst hx
          exact own_row_ne hown' hT' (by decide)
        have hB6 : Below w.heap.size w (w'.setCell ⟨w.heap.size + 1, 1, none⟩ (.slice A' (F.length + a.terms.length) c')) := ((hb.drew).trans (hb'.mono (by omega))).setCell (by simp) _
        have HX := Lib.hid (HN.out (F ++ a.terms) rfl)
        clear hT hQ hown hT' hown' hgr hb' hb k0 k1 t1 t1f hTlt q2 hc hc1
        generalize w'.setCell _ _ = w6 at hT6 hQ6 hown6 hB6 ⊢
        rw [← List.length_append] at hT6 hown6
        rw [← tms_append] at hown6
        go_wp2_with fail
        go_roundw
        case rel => exact ⟨k + 1, A', c', F ++ a.terms, by omega, by go_num, HX, by rw [List.length_append]; omega, hQ6, hT6, hown6, hB6⟩
        case measure => simp [intOf]; omega
    · obtain rfl : k = xs.length := by omega
      have t0 : wr.cell? ⟨w.heap.size + 1, 0, none⟩ = some (.string { data := #[] }) := hT.cell 0
      have t1 : wr.cell? ⟨w.heap.size + 1, 1, none⟩ = some (.slice A1 F.length c1) := hT.cell 1
      obtain ⟨_, _, e1, _, _, hR, _⟩ := Rd.of_ownS hown
      injection e1 with e1 _ e2
      subst e1 e2
      have HC := Lib.hid (HV.out { data := #[] } A1 F c1 wr (by omega) hR)
      have HE : Hid (avars F = qvars xs) := Lib.hid (by rw [hF.out, List.take_length, qvars_flat])
      have hlx := hb.size
      clear hF hR hown
      go_wp2_with fail
      refine HC.out.mono ?_
      rintro e w2 ⟨v, rfl, hownV, hb2⟩
      go_wp2_with fail
      go_ret
      exact ⟨_, rfl, own_less (by rw [← HE.out]; exact hownV) hlx, hb.trans (hb2.mono hlx)⟩
end Go.Proofs.YtdemmjofggemhaaDoor
