/- Queries as plain data: their variables, what is wrong in one, its graph. No program in sight. -/
import Derived.Test.YtbgbjodehbcgiaaGreatDoorBA
import Derived.Lib.SlicesS
namespace Go.Proofs.YtbgbjodehbcgiaaGreatDoor
open Go.RowKit

/-- A term, an atom, a query. -/
structure Tm where
  var : ByteArray
  kind : Int
  num : Int
  text : ByteArray
structure Am where
  rel : ByteArray
  terms : List Tm
structure Qy where
  name : ByteArray
  head : List ByteArray
  atoms : List Am
def nm (L : List ByteArray) (k : Nat) : ByteArray := L.getD k ByteArray.empty
def tm (ts : List Tm) (k : Nat) : Tm := ts.getD k ⟨ByteArray.empty, 0, 0, ByteArray.empty⟩
def am (xs : List Am) (k : Nat) : Am := xs.getD k ⟨ByteArray.empty, []⟩
theorem nm_eq (L : List ByteArray) (k : Nat) (h : k < L.length) : L[k] = nm L k := by simp [nm, h]
theorem tm_eq (L : List Tm) (k : Nat) (h : k < L.length) : L[k] = tm L k := by simp [tm, h]
theorem am_eq (L : List Am) (k : Nat) (h : k < L.length) : L[k] = am L k := by simp [am, h]
theorem nm_mem (L : List ByteArray) (k : Nat) (h : k < L.length) : nm L k ∈ L := by rw [← nm_eq L k h]; exact List.getElem_mem _
theorem tm_mem (L : List Tm) (k : Nat) (h : k < L.length) : tm L k ∈ L := by rw [← tm_eq L k h]; exact List.getElem_mem _
theorem am_mem (L : List Am) (k : Nat) (h : k < L.length) : am L k ∈ L := by rw [← am_eq L k h]; exact List.getElem_mem _
theorem mem_nm {L : List ByteArray} {x : ByteArray} (h : x ∈ L) : ∃ k, k < L.length ∧ nm L k = x := by
  obtain ⟨k, hk, e⟩ := List.getElem_of_mem h
  exact ⟨k, hk, by rw [← nm_eq L k hk, e]⟩

instance memDec (v : ByteArray) : (l : List ByteArray) → Decidable (v ∈ l)
  | [] => isFalse (by simp)
  | a :: l => if h : v = a then isTrue (by simp [h]) else match memDec v l with
    | isTrue k => isTrue (by simp [k])
    | isFalse k => isFalse (by simp [h, k])

/-! ### Variables -/
def addS (out : List ByteArray) (v : ByteArray) : List ByteArray := if v ∈ out then out else out ++ [v]
def addV (out : List ByteArray) (t : Tm) : List ByteArray := if t.var = ByteArray.empty ∨ t.var ∈ out then out else out ++ [t.var]
/-- The variables of terms, in the order in which they come. -/
def avars (ts : List Tm) : List ByteArray := ts.foldl addV []
/-- The variables of atoms, put together atom by atom. -/
def qvars (xs : List Am) : List ByteArray := xs.foldl (fun out a => (avars a.terms).foldl addS out) []
theorem mem_addS {out : List ByteArray} {v x : ByteArray} : x ∈ addS out v ↔ x ∈ out ∨ x = v := by
  unfold addS
  split
  · rename_i h
    constructor
    · exact .inl
    · rintro (a | rfl)
      · exact a
      · exact h
  · simp
theorem mem_addV {out : List ByteArray} {t : Tm} {x : ByteArray} : x ∈ addV out t ↔ x ∈ out ∨ (x = t.var ∧ x ≠ ByteArray.empty) := by
  unfold addV
  split
  · rename_i h
    constructor
    · exact .inl
    · rintro (a | ⟨rfl, b⟩)
      · exact a
      · rcases h with h | h
        · exact absurd h b
        · exact h
  · rename_i h
    simp only [List.mem_append, List.mem_singleton]
    constructor
    · rintro (a | rfl)
      · exact .inl a
      · exact .inr ⟨rfl, fun e => h (.inl e)⟩
    · rintro (a | ⟨rfl, _⟩)
      · exact .inl a
      · exact .inr rfl
theorem addS_nodup {out : List ByteArray} (h : out.Nodup) (v : ByteArray) : (addS out v).Nodup := by
  unfold addS
  split
  · exact h
  · rename_i hn
    rw [List.nodup_append]
    exact ⟨h, by simp, fun a ha b hb => by rw [List.mem_singleton] at hb; subst hb; intro e; exact hn (e ▸ ha)⟩
theorem addV_addS (out : List ByteArray) (t : Tm) : addV out t = if t.var = ByteArray.empty then out else addS out t.var := by
  unfold addV addS
  by_cases h : t.var = ByteArray.empty <;> simp [h]
theorem addV_nodup {out : List ByteArray} (h : out.Nodup) (t : Tm) : (addV out t).Nodup := by
  rw [addV_addS]
  split
  · exact h
  · exact addS_nodup h _
theorem foldV_nodup : ∀ (ts : List Tm) {out : List ByteArray}, out.Nodup → (ts.foldl addV out).Nodup
  | [], _, h => h
  | t :: ts, _, h => foldV_nodup ts (addV_nodup h t)
theorem mem_foldV {x : ByteArray} : ∀ (ts : List Tm) {out : List ByteArray}, x ∈ ts.foldl addV out ↔ x ∈ out ∨ (x ≠ ByteArray.empty ∧ ∃ t ∈ ts, t.var = x)
  | [], _ => by simp
  | t :: ts, out => by
    rw [List.foldl_cons, mem_foldV ts, mem_addV]
    constructor
    · rintro ((a | ⟨rfl, b⟩) | ⟨a, u, hu, e⟩)
      · exact .inl a
      · exact .inr ⟨b, t, by simp, rfl⟩
      · exact .inr ⟨a, u, by simp [hu], e⟩
    · rintro (a | ⟨a, u, hu, e⟩)
      · exact .inl (.inl a)
      · rcases List.mem_cons.1 hu with rfl | hu
        · exact .inl (.inr ⟨e.symm, a⟩)
        · exact .inr ⟨a, u, hu, e⟩
theorem foldV_length : ∀ (ts : List Tm) (out : List ByteArray), (ts.foldl addV out).length ≤ out.length + ts.length
  | [], _ => by simp
  | t :: ts, out => by
    have h1 := foldV_length ts (addV out t)
    have h2 : (addV out t).length ≤ out.length + 1 := by unfold addV; split <;> simp
    simp only [List.foldl_cons, List.length_cons]
    omega
theorem mem_avars {ts : List Tm} {x : ByteArray} : x ∈ avars ts ↔ x ≠ ByteArray.empty ∧ ∃ t ∈ ts, t.var = x := by
  unfold avars; rw [mem_foldV]; simp
theorem avars_nodup (ts : List Tm) : (avars ts).Nodup := foldV_nodup ts List.nodup_nil
theorem avars_length (ts : List Tm) : (avars ts).length ≤ ts.length := by
  have := foldV_length ts []
  simpa [avars] using this
theorem addS_addV (out acc : List ByteArray) (t : Tm) : (addV acc t).foldl addS out = addV (acc.foldl addS out) t := by
  have hm : ∀ (l out : List ByteArray) (x : ByteArray), x ∈ l.foldl addS out ↔ x ∈ out ∨ x ∈ l := by
    intro l
    induction l with
    | nil => simp
    | cons a l ih => intro out x; rw [List.foldl_cons, ih, mem_addS]; simp only [List.mem_cons, or_assoc]
  unfold addV
  by_cases h0 : t.var = ByteArray.empty
  · simp [h0]
  · by_cases h1 : t.var ∈ acc
    · rw [if_pos (.inr h1), if_pos (.inr ((hm acc out t.var).2 (.inr h1)))]
    · rw [if_neg (by simp [h0, h1]), List.foldl_append]
      simp only [List.foldl_cons, List.foldl_nil]
      unfold addS
      simp [h0]
theorem foldS_foldV (out : List ByteArray) : ∀ (ts : List Tm) (acc : List ByteArray), (ts.foldl addV acc).foldl addS out = ts.foldl addV (acc.foldl addS out)
  | [], _ => rfl
  | t :: ts, acc => by rw [List.foldl_cons, foldS_foldV out ts, addS_addV]; rfl
theorem foldS_avars (out : List ByteArray) (ts : List Tm) : (avars ts).foldl addS out = ts.foldl addV out := foldS_foldV out ts []
theorem qvars_flat (xs : List Am) : qvars xs = avars (xs.flatMap Am.terms) := by
  have key : ∀ (xs : List Am) (out : List ByteArray), xs.foldl (fun out a => (avars a.terms).foldl addS out) out = (xs.flatMap Am.terms).foldl addV out := by
    intro xs
    induction xs with
    | nil => intro out; rfl
    | cons a xs ih => intro out; rw [List.foldl_cons, ih, foldS_avars, List.flatMap_cons, List.foldl_append]
  exact key xs []
theorem mem_qvars {xs : List Am} {x : ByteArray} : x ∈ qvars xs ↔ x ≠ ByteArray.empty ∧ ∃ a ∈ xs, ∃ t ∈ a.terms, t.var = x := by
  rw [qvars_flat, mem_avars]
  simp only [List.mem_flatMap]
  constructor
  · rintro ⟨h, t, ⟨a, ha, ht⟩, e⟩; exact ⟨h, a, ha, t, ht, e⟩
  · rintro ⟨h, a, ha, t, ht, e⟩; exact ⟨h, t, ⟨a, ha, ht⟩, e⟩
theorem qvars_nodup (xs : List Am) : (qvars xs).Nodup := by rw [qvars_flat]; exact avars_nodup _
theorem flat_len {xs : List Am} {m : Nat} (h : ∀ a ∈ xs, a.terms.length ≤ m) : (xs.flatMap Am.terms).length ≤ xs.length * m := by
  induction xs with
  | nil => simp
  | cons a xs ih =>
    have h1 := h a (by simp)
    have h2 := ih fun b hb => h b (by simp [hb])
    rw [List.flatMap_cons, List.length_append, List.length_cons, Nat.add_mul]
    omega
theorem qvars_length {xs : List Am} (h : ∀ a ∈ xs, a.terms.length ≤ 5) (h6 : xs.length ≤ 6) : (qvars xs).length ≤ 30 := by
  rw [qvars_flat]
  have h1 := avars_length (xs.flatMap Am.terms)
  have h2 := flat_len h
  omega
theorem avars_sub {xs : List Am} {a : Am} (ha : a ∈ xs) {x : ByteArray} (hx : x ∈ avars a.terms) : x ∈ qvars xs := by
  obtain ⟨h, t, ht, e⟩ := mem_avars.1 hx
  exact mem_qvars.2 ⟨h, a, ha, t, ht, e⟩

/-! ### Places in a list of names -/
/-- Where the name stands first; -1 if nowhere. -/
def atI (L : List ByteArray) (x : ByteArray) : Int := Lib.idxOfS L x
theorem atI_hit {L : List ByteArray} {x : ByteArray} {k : Nat} (hk : k < L.length) (h : nm L k = x) (hno : ∀ j, j < k → nm L j ≠ x) : atI L x = k := by
  have := Lib.idxOfS_hit L L.length k x hk (Nat.le_refl _) h hno
  rwa [List.take_length] at this
theorem atI_miss {L : List ByteArray} {x : ByteArray} (h : ∀ j, j < L.length → nm L j ≠ x) : atI L x = -1 := by
  have := Lib.idxOfS_miss L L.length x h
  rwa [List.take_length] at this
theorem atI_cases (L : List ByteArray) (x : ByteArray) : (atI L x = -1 ∧ x ∉ L) ∨ ∃ k : Nat, atI L x = k ∧ k < L.length ∧ nm L k = x ∧ ∀ j, j < k → nm L j ≠ x := by
  have key : ∀ n, n ≤ L.length → (∀ j, j < n → nm L j ≠ x) ∨ ∃ k : Nat, k < n ∧ nm L k = x ∧ ∀ j, j < k → nm L j ≠ x := by
    intro n
    induction n with
    | zero => intro _; exact .inl fun j hj => absurd hj (Nat.not_lt_zero _)
    | succ n ih =>
      intro hn
      rcases ih (by omega) with a | ⟨k, h1, h2, h3⟩
      · by_cases e : nm L n = x
        · exact .inr ⟨n, by omega, e, a⟩
        · refine .inl fun j hj => ?_
          rcases Nat.lt_or_ge j n with d | d
          · exact a j d
          · obtain rfl : j = n := by omega
            exact e
      · exact .inr ⟨k, by omega, h2, h3⟩
  rcases key L.length (Nat.le_refl _) with a | ⟨k, h1, h2, h3⟩
  · refine .inl ⟨atI_miss a, fun hx => ?_⟩
    obtain ⟨k, hk, e⟩ := mem_nm hx
    exact a k hk e
  · exact .inr ⟨k, atI_hit h1 h2 h3, h1, h2, h3⟩
theorem atI_nonneg {L : List ByteArray} {x : ByteArray} : 0 ≤ atI L x ↔ x ∈ L := Lib.idxOfS_nonneg_iff L x
theorem atI_mem {L : List ByteArray} {x : ByteArray} (h : x ∈ L) : ∃ k : Nat, atI L x = k ∧ k < L.length ∧ nm L k = x ∧ ∀ j, j < k → nm L j ≠ x := by
  rcases atI_cases L x with ⟨_, e⟩ | k
  · exact absurd h e
  · exact k
theorem nm_inj {L : List ByteArray} (h : L.Nodup) {i j : Nat} (hi : i < L.length) (hj : j < L.length) (e : nm L i = nm L j) : i = j := by
  rw [← nm_eq L i hi, ← nm_eq L j hj] at e
  exact (List.getElem_inj h).1 e
/-! ### Sets of variables -/
def maskTo (b : Nat → Bool) : Nat → BitVec 32
  | 0 => 0#32
  | k + 1 => if b k = true then maskTo b k ||| 1#32 <<< k else maskTo b k
theorem bit_shl (k i : Nat) (hk : k < 32) : (1#32 <<< k).getLsbD i = decide (i = k) := by
  rw [BitVec.getLsbD_shiftLeft]
  rcases Nat.lt_trichotomy i k with c | c | c
  · simp [c, show ¬ i = k by omega]
  · subst c; simp [hk]
  · have : i - k ≠ 0 := by omega
    simp [show ¬ i < k by omega, show ¬ i = k by omega, this]

theorem getLsbD_mask (b : Nat → Bool) : ∀ k, k ≤ 32 → ∀ i, (maskTo b k).getLsbD i = (decide (i < k) && b i)
  | 0, _, i => by simp [maskTo]
  | k + 1, hk, i => by
    have ih := getLsbD_mask b k (by omega) i
    unfold maskTo
    split
    · rename_i hb
      rw [BitVec.getLsbD_or, ih, bit_shl k i (by omega)]
      rcases Nat.lt_trichotomy i k with h | h | h
      · simp [h, show i < k + 1 by omega, show ¬ i = k by omega]
      · subst h; simp [hb]
      · simp [show ¬ i < k by omega, show ¬ i < k + 1 by omega, show ¬ i = k by omega]
    · rename_i hb
      rw [ih]
      rcases Nat.lt_trichotomy i k with h | h | h
      · simp [h, show i < k + 1 by omega]
      · subst h; simp [hb]
      · simp [show ¬ i < k by omega, show ¬ i < k + 1 by omega]
/-- The places of the names among the variables, as bits. -/
def setOf (vars names : List ByteArray) : BitVec 32 := maskTo (fun v => decide (nm vars v ∈ names)) vars.length
theorem getLsbD_setOf {vars : List ByteArray} (names : List ByteArray) (h : vars.length ≤ 32) (i : Nat) : (setOf vars names).getLsbD i = (decide (i < vars.length) && decide (nm vars i ∈ names)) :=
  getLsbD_mask _ _ h i
theorem setOf_nil (vars : List ByteArray) (h : vars.length ≤ 32) : setOf vars [] = 0#32 := by
  apply BitVec.eq_of_getLsbD_eq
  intro i _
  rw [getLsbD_setOf _ h]; simp
theorem setOf_snoc {vars names : List ByteArray} {x : ByteArray} {k : Nat} (h : vars.length ≤ 32) (hn : vars.Nodup) (hk : k < vars.length) (hx : nm vars k = x) : setOf vars (names ++ [x]) = setOf vars names ||| 1#32 <<< k := by
  apply BitVec.eq_of_getLsbD_eq
  intro i _
  rw [BitVec.getLsbD_or, getLsbD_setOf _ h, getLsbD_setOf _ h, bit_shl k i (by omega)]
  by_cases hi : i < vars.length
  · by_cases e : i = k
    · subst e; simp [hi, hx]
    · have : nm vars i ≠ x := fun z => e (nm_inj hn hi hk (z.trans hx.symm))
      simp [hi, e, this]
  · simp [hi, show ¬ i = k by omega]
theorem lows_setOf {vars : List ByteArray} (names : List ByteArray) (h : vars.length ≤ 32) : lows (setOf vars names) vars.length = setOf vars names := by
  apply BitVec.eq_of_getLsbD_eq
  intro i _
  rw [getLsbD_lows _ _ h, getLsbD_setOf _ h]
  cases decide (i < vars.length) <;> simp
/-! ### What is wrong in a query -/
def letB (c : Int) : Bool := (decide (97 ≤ c) && decide (c ≤ 122)) || (decide (65 ≤ c) && decide (c ≤ 90)) || c == 95
def digB (c : Int) : Bool := decide (48 ≤ c) && decide (c ≤ 57)
def byt (s : ByteArray) (i : Nat) : Int := ((s.data.getD i 0).toNat : Int)
theorem byt_bounds (s : ByteArray) (i : Nat) : 0 ≤ byt s i ∧ byt s i < 256 := by
  unfold byt
  have := (s.data.getD i 0).toNat_lt
  omega
def ldB (c : Int) : Bool := letB c || digB c
/-- Is it a name? -/
def nameB (s : ByteArray) : Bool := decide (1 ≤ s.size) && decide (s.size ≤ 16) && letB (byt s 0) && (List.range s.size).all fun i => ldB (byt s i)
def valB (t : Tm) : Bool := if t.kind = 1 then decide (t.text.size = 0) else decide (t.kind = 2) && decide (t.num = 0) && decide (t.text.size ≤ 64)
def termB (t : Tm) : Bool := if t.var = ByteArray.empty then valB t else decide (t.kind = 0) && decide (t.num = 0) && decide (t.text = ByteArray.empty)
def tnameB (t : Tm) : Bool := decide (t.var = ByteArray.empty) || nameB t.var
def anameB (a : Am) : Bool := nameB a.rel && a.terms.all tnameB
def namesB (q : Qy) : Bool := nameB q.name && q.head.all nameB && q.atoms.all anameB
def aterm (a : Am) : Bool := a.terms.all termB
def wideB (a : Am) : Bool := decide (5 < a.terms.length)
/-- Is the i-th one among those ahead of it? -/
def dupAt (L : List ByteArray) (i : Nat) : Bool := decide (nm L i ∈ L.take i)
def dupB (L : List ByteArray) : Bool := (List.range L.length).any (dupAt L)
def strayB (vars : List ByteArray) (x : ByteArray) : Bool := !decide (x ∈ vars)
/-- The number of what is wrong; 0 if nothing is. -/
def shapeC (q : Qy) : Int :=
  if namesB q = false then 72 else if q.atoms.all aterm = false then 21 else if q.atoms.length = 0 ∨ 6 < q.atoms.length then 90 else if q.atoms.any wideB = true then 91
  else if dupB q.head = true then 92 else if q.head.any (strayB (qvars q.atoms)) = true then 93 else 0
structure GoodQ (q : Qy) : Prop where
  names : namesB q = true
  consts : q.atoms.all aterm = true
  some_ : 1 ≤ q.atoms.length
  few : q.atoms.length ≤ 6
  narrow : ∀ a ∈ q.atoms, a.terms.length ≤ 5
  apart : dupB q.head = false
  safe : ∀ x ∈ q.head, x ∈ qvars q.atoms
theorem shapeC_iff {q : Qy} : shapeC q = 0 ↔ GoodQ q := by
  unfold shapeC
  constructor
  · intro h
    split at h
    · cases h
    · split at h
      · cases h
      · split at h
        · cases h
        · split at h
          · cases h
          · split at h
            · cases h
            · split at h
              · cases h
              · rename_i h1 h2 h3 h4 h5 h6
                refine ⟨by simpa using h1, by simpa using h2, by omega, by omega, fun a ha => ?_, by simpa using h5, fun x hx => ?_⟩
                · have := h4
                  simp only [Bool.not_eq_true, List.any_eq_false] at this
                  have := of_decide_eq_false (by simpa using this a ha : wideB a = false)
                  omega
                · have := h6
                  simp only [Bool.not_eq_true, List.any_eq_false] at this
                  have := this x hx
                  simpa [strayB] using this
  · rintro ⟨h1, h2, h3, h4, h5, h6, h7⟩
    rw [if_neg (by simp [h1]), if_neg (by simp [h2]), if_neg (by omega), if_neg, if_neg (by simp [h6]), if_neg]
    · simp only [Bool.not_eq_true, List.any_eq_false]
      intro x hx; simp [strayB, h7 x hx]
    · simp only [Bool.not_eq_true, List.any_eq_false]
      intro a ha
      have h := h5 a ha
      have : wideB a = false := decide_eq_false (by omega)
      rw [this]

/-! ### The graph of a query -/
def ofE (q : Qy) : List (BitVec 32) := q.atoms.map fun a => setOf (qvars q.atoms) (avars a.terms)
def headW (q : Qy) : BitVec 32 := setOf (qvars q.atoms) q.head
@[simp] theorem ofE_length (q : Qy) : (ofE q).length = q.atoms.length := by simp [ofE]
/-- What Of answers. -/
def OfIs (q : Qy) (V : Int) (E : List (BitVec 32)) (h : BitVec 32) (code : Int) : Prop :=
  (shapeC q ≠ 0 ∧ V = 0 ∧ E = [] ∧ h = 0#32 ∧ code = shapeC q) ∨ (shapeC q = 0 ∧ V = (qvars q.atoms).length ∧ E = ofE q ∧ h = headW q ∧ code = 0)
end Go.Proofs.YtbgbjodehbcgiaaGreatDoor
