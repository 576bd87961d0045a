/- Several texts in one: PChk PChk2 PFlat PFlat2. -/
import Derived.Test.YtdemmjofggemhaaGreatDoorBK
import Derived.Test.YtdemmjofggemhaaGreatDoorBB
import Derived.Test.YtdemmjofggemhaaGreatDoorPPlan
import Derived.Test.YtdemmjofggemhaaGreatDoorBE
import Derived.Test.YtdemmjofggemhaaGreatDoorBR
/- What the properties of a plan are, for every list of nodes; the walk upwards by parents and the walk downwards from the root find the same. No program in sight. -/
namespace Go.Proofs.YtdemmjofggemhaaGreatDoor

/-! ### Two lists of numbers -/
/-- Is all right at the i-th number? -/
def partAt (a b : List Int) (i : Nat) : Bool := (decide (i = 0) || decide (pz a (i - 1) < pz a i)) && decide (pz a i ∈ b)
/-- Do the numbers rise, and are they all in the other list? -/
def partB (a b : List Int) : Bool := (List.range a.length).all (partAt a b)
theorem partB_no {a b : List Int} {k : Nat} (hk : k < a.length) (h : partAt a b k = false) : partB a b = false := by
  unfold partB
  rw [Bool.eq_false_iff]
  intro c
  rw [List.all_eq_true] at c
  rw [c k (List.mem_range.2 hk)] at h
  cases h
theorem partB_yes {a b : List Int} (h : ∀ j, j < a.length → partAt a b j = true) : partB a b = true := by
  unfold partB
  rw [List.all_eq_true]
  exact fun j hj => h j (List.mem_range.1 hj)
theorem partB_iff {a b : List Int} : partB a b = true ↔ (∀ i, i < a.length → i = 0 ∨ pz a (i - 1) < pz a i) ∧ ∀ x ∈ a, x ∈ b := by
  unfold partB partAt
  rw [List.all_eq_true]
  constructor
  · intro h
    refine ⟨fun i hi => ?_, fun x hx => ?_⟩
    · have := h i (List.mem_range.2 hi)
      simp only [Bool.and_eq_true, Bool.or_eq_true, decide_eq_true_eq] at this
      exact this.1
    · obtain ⟨i, hi, rfl⟩ := List.mem_iff_getElem.1 hx
      have := h i (List.mem_range.2 hi)
      simp only [Bool.and_eq_true, Bool.or_eq_true, decide_eq_true_eq] at this
      rw [pz_eq a i hi]
      exact this.2
  · intro h i hi
    have hi' := List.mem_range.1 hi
    simp only [Bool.and_eq_true, Bool.or_eq_true, decide_eq_true_eq]
    exact ⟨h.1 i hi', h.2 _ (by rw [← pz_eq a i hi']; exact List.getElem_mem _)⟩

/-! ### One node -/
/-- Is it a node's number? -/
def inN (N : List PNd) (u : Int) : Bool := decide (0 ≤ u) && decide (u < N.length)
theorem inN_iff {N : List PNd} {u : Int} : inN N u = true ↔ ∃ k : Nat, u = k ∧ k < N.length := by
  unfold inN
  simp only [Bool.and_eq_true, decide_eq_true_eq]
  constructor
  · rintro ⟨h1, h2⟩; exact ⟨u.toNat, by omega, by omega⟩
  · rintro ⟨k, rfl, h⟩; omega
def vrs (N : List PNd) (u : Int) : List Int := (nd N u.toNat).vars
def LeafOk (E : List (BitVec 32)) (n : PNd) (i : Nat) : Prop := n.kind = 1 ∧ n.atom = i ∧ n.vars = lst (ed E i) ∧ n.source = 0 ∧ n.side = 0
def TrimOk (N : List PNd) (n : PNd) : Prop := n.kind = 2 ∧ n.atom = 0 ∧ inN N n.source = true ∧ n.side = 0 ∧ partB n.vars (vrs N n.source) = true ∧ n.vars.length < (vrs N n.source).length
def MeetOk (N : List PNd) (n : PNd) : Prop := n.kind = 3 ∧ n.atom = 0 ∧ inN N n.source = true ∧ inN N n.side = true ∧ n.vars = vrs N n.source ∧ partB n.vars n.vars = true ∧ partB (vrs N n.side) n.vars = true
/-- Properties 2 and 3 of one node. -/
def OneOk (E : List (BitVec 32)) (N : List PNd) (i : Nat) : Prop := (i < E.length → LeafOk E (nd N i) i) ∧ (E.length ≤ i → TrimOk N (nd N i) ∨ MeetOk N (nd N i))
/-- What hangs below a node is a node. -/
def Kids (N : List PNd) : Prop := ∀ i, i < N.length → ∀ x ∈ chl (nd N i), ∃ k : Nat, x = k ∧ k < N.length
theorem OneOk.kinds {E : List (BitVec 32)} {N : List PNd} {i : Nat} (h : OneOk E N i) : (nd N i).kind = 1 ∨ (nd N i).kind = 2 ∨ (nd N i).kind = 3 := by
  rcases Nat.lt_or_ge i E.length with c | c
  · exact .inl (h.1 c).1
  · rcases h.2 c with q | q
    · exact .inr (.inl q.1)
    · exact .inr (.inr q.1)
theorem kids_of {E : List (BitVec 32)} {N : List PNd} (h : ∀ i, i < N.length → OneOk E N i) : Kids N := fun i hi x hx => by
  rcases Nat.lt_or_ge i E.length with c | c
  · have := ((h i hi).1 c).1
    simp [chl, this] at hx
  · rcases (h i hi).2 c with q | q
    · have e : chl (nd N i) = [(nd N i).source] := by simp [chl, q.1]
      rw [e] at hx
      rw [List.mem_singleton.1 hx]
      exact inN_iff.1 q.2.2.1
    · have e : chl (nd N i) = [(nd N i).source, (nd N i).side] := by simp [chl, q.1]
      rw [e] at hx
      rcases List.mem_cons.1 hx with rfl | hx
      · exact inN_iff.1 q.2.2.1
      · rw [List.mem_singleton.1 hx]
        exact inN_iff.1 q.2.2.2.1

/-! ### The tree -/
/-- How often a node hangs at one of the first k. -/
def times (N : List PNd) (x : Int) : Nat → Nat
  | 0 => 0
  | k + 1 => times N x k + (chl (nd N k)).count x
theorem times_pos {N : List PNd} {x : Int} : ∀ {k : Nat}, 0 < times N x k → ∃ i, i < k ∧ x ∈ chl (nd N i)
  | 0, h => absurd h (Nat.lt_irrefl _)
  | k + 1, h => by
    unfold times at h
    by_cases c : 0 < times N x k
    · obtain ⟨i, hi, q⟩ := times_pos c
      exact ⟨i, by omega, q⟩
    · exact ⟨k, by omega, List.count_pos_iff.1 (by omega)⟩
theorem times_ge {N : List PNd} {x : Int} {i : Nat} : ∀ {k : Nat}, i < k → (chl (nd N i)).count x ≤ times N x k
  | 0, h => absurd h (Nat.not_lt_zero _)
  | k + 1, h => by
    unfold times
    rcases Nat.lt_or_ge i k with c | c
    · have := times_ge (N := N) (x := x) c; omega
    · obtain rfl : i = k := by omega
      omega
/-- Property 4. -/
structure TreeOk (N : List PNd) (root : Int) : Prop where
  par : ∀ i, i < N.length → ∀ k : Nat, (k : Int) ∈ chl (nd N i) → (nd N k).parent = i
  rt : times N root N.length = 0 ∧ (nd N root.toNat).parent = -1 ∧ (nd N root.toNat).vars = []
  one : ∀ i : Nat, i < N.length → (i : Int) ≠ root → times N i N.length = 1
  dsc : ∀ i : Nat, i < N.length → Dsc N root.toNat i
/-- What property 4 asks of one node, but for how it is reached. -/
def LocOk (N : List PNd) (rt : Int) (i : Nat) : Prop := (∀ j, j < N.length → (i : Int) ∈ chl (nd N j) → (nd N i).parent = j) ∧ ((i : Int) = rt → times N i N.length = 0 ∧ (nd N i).parent = -1 ∧ (nd N i).vars = []) ∧ ((i : Int) ≠ rt → times N i N.length = 1)
theorem tree_loc {N : List PNd} {r : Nat} (kids : Kids N) (hr : r < N.length) : ((∀ i, i < N.length → LocOk N r i) ∧ ∀ i, i < N.length → Dsc N r i) ↔ TreeOk N r := by
  constructor
  · rintro ⟨h, d⟩
    have hrr := (h r hr).2.1 rfl
    refine ⟨fun i hi k hk => ?_, by rw [Int.toNat_natCast]; exact hrr, fun i hi hne => (h i hi).2.2 hne, by rw [Int.toNat_natCast]; exact d⟩
    obtain ⟨k', e, hk'⟩ := kids i hi k hk
    obtain rfl : k = k' := Int.ofNat.inj e
    exact (h k hk').1 i hi hk
  · intro T
    have hrr := T.rt
    have d := T.dsc
    rw [Int.toNat_natCast] at hrr d
    refine ⟨fun i hi => ⟨fun j hj hm => T.par j hj i hm, fun e => ?_, fun e => T.one i hi e⟩, d⟩
    obtain rfl : i = r := Int.ofNat.inj e
    exact hrr
theorem times_succ (N : List PNd) (x : Int) (k : Nat) : times N x (k + 1) = times N x k + (chl (nd N k)).count x := rfl
theorem times_le (N : List PNd) (x : Int) : ∀ k, times N x k ≤ 2 * k
  | 0 => Nat.le_refl _
  | k + 1 => by
    have := times_le N x k
    have h2 : (chl (nd N k)).count x ≤ (chl (nd N k)).length := List.count_le_length
    have h3 : (chl (nd N k)).length ≤ 2 := by unfold chl; split <;> (try split) <;> simp
    rw [times_succ]; omega
/-- From a node upwards, so many steps at most: does it come to the root? -/
def climb (N : List PNd) (root : Int) : Nat → Int → Bool
  | 0, u => decide (u = root)
  | f + 1, u => if u = root then true else inN N (nd N u.toNat).parent && climb N root f (nd N u.toNat).parent
theorem climb_at {N : List PNd} {root : Int} (f : Nat) : climb N root f root = true := by
  cases f <;> simp [climb]
theorem climb_up {N : List PNd} {root u : Int} {f : Nat} (h : u ≠ root) : climb N root (f + 1) u = (inN N (nd N u.toNat).parent && climb N root f (nd N u.toNat).parent) := by
  show (if _ then _ else _) = _
  rw [if_neg h]
section
variable {N : List PNd} {r : Nat}
theorem only_par (par : ∀ i, i < N.length → ∀ k : Nat, (k : Int) ∈ chl (nd N i) → (nd N k).parent = i) (one : ∀ i : Nat, i < N.length → (i : Int) ≠ r → times N i N.length = 1) {i : Nat} (hi : i < N.length) (hne : i ≠ r) :
    ∃ j, j < N.length ∧ (i : Int) ∈ chl (nd N j) ∧ (nd N i).parent = j := by
  obtain ⟨j, hj, hm⟩ := times_pos (N := N) (x := i) (k := N.length) (by rw [one i hi (by omega)]; decide)
  exact ⟨j, hj, hm, par j hj i hm⟩
theorem climb_dsc (par : ∀ i, i < N.length → ∀ k : Nat, (k : Int) ∈ chl (nd N i) → (nd N k).parent = i) (one : ∀ i : Nat, i < N.length → (i : Int) ≠ r → times N i N.length = 1) :
    ∀ (f i : Nat), i < N.length → climb N r f i = true → Dsc N r i
  | 0, i, _, h => by
    have e : (i : Int) = r := by simpa [climb] using h
    obtain rfl : i = r := by omega
    exact .refl
  | f + 1, i, hi, h => by
    by_cases e : i = r
    · subst e; exact .refl
    · rw [climb_up (by omega)] at h
      obtain ⟨j, hj, hm, hp⟩ := only_par par one hi e
      rw [Int.toNat_natCast, hp] at h
      exact .step (climb_dsc par one f j hj (Bool.and_eq_true _ _ ▸ h).2) hj hm
/-- The parents as the trees of chapter 16 have them. -/
def parF (N : List PNd) (r : Nat) (i : Nat) : Int := if i = r then -1 else (nd N i).parent
theorem parF_rng (par : ∀ i, i < N.length → ∀ k : Nat, (k : Int) ∈ chl (nd N i) → (nd N k).parent = i) (one : ∀ i : Nat, i < N.length → (i : Int) ≠ r → times N i N.length = 1) : ∀ i, i < N.length → -1 ≤ parF N r i ∧ parF N r i < N.length := fun i hi => by
  unfold parF
  split
  · omega
  · next e =>
    obtain ⟨j, hj, _, hp⟩ := only_par par one hi e
    omega
theorem parF_up (par : ∀ i, i < N.length → ∀ k : Nat, (k : Int) ∈ chl (nd N i) → (nd N k).parent = i) {i : Nat} (d : Dsc N r i) : i < N.length → ∃ k, up (parF N r) k i = -1 := by
  induction d with
  | refl => intro _; exact ⟨1, by rw [up_nat]; simp [parF, up]⟩
  | @step k j d hk hj ih =>
    intro hjl
    by_cases e : j = r
    · exact ⟨1, by rw [up_nat]; simp [parF, up, e]⟩
    · obtain ⟨m, hm⟩ := ih hk
      refine ⟨m + 1, ?_⟩
      rw [up_nat]
      have : parF N r j = k := by unfold parF; rw [if_neg e, par k hk j hj]
      rw [this]; exact hm
theorem climb_of (par : ∀ i, i < N.length → ∀ k : Nat, (k : Int) ∈ chl (nd N i) → (nd N k).parent = i) (one : ∀ i : Nat, i < N.length → (i : Int) ≠ r → times N i N.length = 1) :
    ∀ (f i : Nat), i < N.length → up (parF N r) (f + 1) i = -1 → climb N r f i = true
  | 0, i, hi, h => by
    rw [up_nat] at h
    have h' : parF N r i = -1 := h
    by_cases e : i = r
    · subst e; exact climb_at 0
    · obtain ⟨j, hj, _, hp⟩ := only_par par one hi e
      unfold parF at h'
      rw [if_neg e] at h'
      omega
  | f + 1, i, hi, h => by
    by_cases e : i = r
    · subst e; exact climb_at _
    · obtain ⟨j, hj, _, hp⟩ := only_par par one hi e
      rw [up_nat, show parF N r i = j by unfold parF; rw [if_neg e, hp]] at h
      rw [climb_up (by omega), Int.toNat_natCast, hp, climb_of par one f j hj h, inN_iff.2 ⟨j, rfl, hj⟩]; rfl
/-- THE TWO WALKS AGREE. -/
theorem climb_iff (par : ∀ i, i < N.length → ∀ k : Nat, (k : Int) ∈ chl (nd N i) → (nd N k).parent = i) (one : ∀ i : Nat, i < N.length → (i : Int) ≠ r → times N i N.length = 1) :
    (∀ i : Nat, i < N.length → climb N r N.length i = true) ↔ ∀ i : Nat, i < N.length → Dsc N r i := by
  constructor
  · exact fun h i hi => climb_dsc par one _ i hi (h i hi)
  · intro h i hi
    have h1 := reach_all (parF_rng par one) (fun i hi => parF_up par (h i hi) hi) i hi
    refine climb_of par one _ i hi ?_
    rw [up_more (by rw [h1]; omega) (N.length + 1) (by omega), h1]
end

/-! ### The walk downwards, as the reference makes it -/
structure RchG (N : List PNd) (r : Nat) (R : List Int) (n : Nat) : Prop where
  nodup : R.Nodup
  dsc : ∀ x ∈ R, ∃ k : Nat, x = k ∧ k < N.length ∧ Dsc N r k
  rt : (r : Int) ∈ R
  cl : ∀ m, m < n → ∀ k : Nat, k < N.length → (k : Int) ∈ chl (nd N (pz R m).toNat) → (k : Int) ∈ R
structure RchM (N : List PNd) (r : Nat) (R : List Int) (n i : Nat) : Prop where
  g : RchG N r R n
  part : ∀ k : Nat, k < i → (k : Int) ∈ chl (nd N (pz R n).toNat) → (k : Int) ∈ R
theorem nodup_sub {α : Type} [BEq α] [LawfulBEq α] : ∀ {l R : List α}, l.Nodup → (∀ x ∈ l, x ∈ R) → l.length ≤ R.length
  | [], _, _, _ => Nat.zero_le _
  | a :: l, R, hn, h => by
    have hn' := List.nodup_cons.1 hn
    have ha := h a List.mem_cons_self
    have := nodup_sub (l := l) (R := R.erase a) hn'.2 fun x hx => (List.mem_erase_of_ne (fun e => hn'.1 (by rw [← e]; exact hx))).2 (h x (List.mem_cons_of_mem _ hx))
    rw [List.length_erase_of_mem ha] at this
    have := List.length_pos_of_mem ha
    rw [List.length_cons]; omega
def numsTo (n : Nat) : List Int := (List.range n).map Int.ofNat
theorem mem_numsTo {n : Nat} {x : Int} : x ∈ numsTo n ↔ ∃ k : Nat, x = k ∧ k < n := by
  unfold numsTo
  rw [List.mem_map]
  constructor
  · rintro ⟨k, hk, rfl⟩; exact ⟨k, rfl, List.mem_range.1 hk⟩
  · rintro ⟨k, rfl, hk⟩; exact ⟨k, List.mem_range.2 hk, rfl⟩
theorem numsTo_nodup (n : Nat) : (numsTo n).Nodup := List.pairwise_map.2 (List.nodup_range.imp fun h e => h (Int.ofNat.inj e))
theorem numsTo_length (n : Nat) : (numsTo n).length = n := by simp [numsTo]
section
variable {N : List PNd} {r : Nat} {R : List Int} {n i : Nat}
theorem rchG_start (hr : r < N.length) : RchG N r [(r : Int)] 0 := ⟨by simp, fun x hx => ⟨r, List.mem_singleton.1 hx, hr, .refl⟩, by simp, fun _ h => absurd h (Nat.not_lt_zero _)⟩
theorem RchG.len (h : RchG N r R n) : R.length ≤ N.length := by
  have := nodup_sub (R := numsTo N.length) h.nodup fun x hx => by
    obtain ⟨k, rfl, hk, _⟩ := h.dsc x hx
    exact mem_numsTo.2 ⟨k, rfl, hk⟩
  rwa [numsTo_length] at this
theorem RchG.at_ (h : RchG N r R n) {m : Nat} (hm : m < R.length) : ∃ k : Nat, pz R m = k ∧ k < N.length ∧ Dsc N r k := h.dsc _ (by rw [← pz_eq R m hm]; exact List.getElem_mem _)
theorem RchG.mid (h : RchG N r R n) : RchM N r R n 0 := ⟨h, fun _ c => absurd c (Nat.not_lt_zero _)⟩
theorem RchM.end_ (h : RchM N r R n N.length) : RchG N r R (n + 1) := ⟨h.g.nodup, h.g.dsc, h.g.rt, fun m hm k hk hc => by
  rcases Nat.lt_or_ge m n with c | c
  · exact h.g.cl m c k hk hc
  · obtain rfl : m = n := by omega
    exact h.part k hk hc⟩
theorem pz_snoc {R : List Int} {x : Int} {m : Nat} (h : m < R.length) : pz (R ++ [x]) m = pz R m := by simp [pz, List.getElem?_append_left h]
theorem RchM.skip (h : RchM N r R n i) (hc : (i : Int) ∉ chl (nd N (pz R n).toNat) ∨ (i : Int) ∈ R) : RchM N r R n (i + 1) := ⟨h.g, fun k hk hm => by
  rcases Nat.lt_or_ge k i with c | c
  · exact h.part k c hm
  · obtain rfl : k = i := by omega
    exact hc.resolve_left fun d => d hm⟩
theorem RchM.come (h : RchM N r R n i) (hn : n < R.length) (hi : i < N.length) (hc : (i : Int) ∈ chl (nd N (pz R n).toNat)) (hno : (i : Int) ∉ R) : RchM N r (R ++ [(i : Int)]) n (i + 1) := by
  obtain ⟨k, hk, hkN, d⟩ := h.g.at_ hn
  have hc' := hc
  rw [hk, Int.toNat_natCast] at hc'
  refine ⟨⟨List.nodup_append.2 ⟨h.g.nodup, by simp, fun a ha b hb => ?_⟩, fun x hx => ?_, List.mem_append_left _ h.g.rt, fun m hm k' hk' hc2 => ?_⟩, fun k' hk' hm => ?_⟩
  · rw [List.mem_singleton.1 hb]
    exact fun e => hno (e ▸ ha)
  · rcases List.mem_append.1 hx with c | c
    · exact h.g.dsc x c
    · exact ⟨i, List.mem_singleton.1 c, hi, .step d hkN hc'⟩
  · rw [pz_snoc (by omega)] at hc2
    exact List.mem_append_left _ (h.g.cl m hm k' hk' hc2)
  · rw [pz_snoc hn] at hm
    rcases Nat.lt_or_ge k' i with c | c
    · exact List.mem_append_left _ (h.part k' c hm)
    · obtain rfl : k' = i := by omega
      exact List.mem_append_right _ (by simp)
/-- All are reached just if there are as many as nodes. -/
theorem RchG.all (h : RchG N r R R.length) (kids : Kids N) : R.length = N.length ↔ ∀ i : Nat, i < N.length → Dsc N r i := by
  constructor
  · intro e i hi
    apply Classical.byContradiction
    intro c
    have hno : (i : Int) ∉ R := fun hm => by
      obtain ⟨k, e, _, d⟩ := h.dsc _ hm
      exact c (Int.ofNat.inj e ▸ d)
    have := nodup_sub (l := (i : Int) :: R) (R := numsTo N.length) (List.nodup_cons.2 ⟨hno, h.nodup⟩) fun x hx => by
      rcases List.mem_cons.1 hx with rfl | hx
      · exact mem_numsTo.2 ⟨i, rfl, hi⟩
      · obtain ⟨k, rfl, hk, _⟩ := h.dsc x hx
        exact mem_numsTo.2 ⟨k, rfl, hk⟩
    rw [numsTo_length, List.length_cons] at this
    omega
  · intro hd
    have key : ∀ {i : Nat}, Dsc N r i → (i : Int) ∈ R := fun {i} d => by
      induction d with
      | refl => exact h.rt
      | @step k j d hk hj ih =>
        obtain ⟨m, hm, e⟩ := List.mem_iff_getElem.1 ih
        rw [pz_eq R m hm] at e
        obtain ⟨j', ej, hj'⟩ := kids k hk _ hj
        obtain rfl : j = j' := Int.ofNat.inj ej
        exact h.cl m hm j hj' (by rw [e, Int.toNat_natCast]; exact hj)
    have := nodup_sub (l := numsTo N.length) (R := R) (numsTo_nodup _) fun x hx => by
      obtain ⟨k, rfl, hk⟩ := mem_numsTo.1 hx
      exact key (hd k hk)
    rw [numsTo_length] at this
    have := h.len
    omega
end

/-! ### A tree's order is short -/
structure ForR (N : List PNd) (rk : Nat → Nat) : Prop where
  below : ∀ i, i < N.length → ∀ x ∈ chl (nd N i), ∃ k : Nat, x = k ∧ k < N.length ∧ rk k < rk i
  uniq : ∀ i j x, i < N.length → j < N.length → x ∈ chl (nd N i) → x ∈ chl (nd N j) → i = j
  two : ∀ i, i < N.length → (chl (nd N i)).Nodup
section
variable {N : List PNd} {rk : Nat → Nat}
theorem ForR.lt (h : ForR N rk) {i j : Nat} (hi : i < N.length) (hj : (j : Int) ∈ chl (nd N i)) : rk j < rk i := by
  obtain ⟨m, e, _, hm⟩ := h.below _ hi _ hj
  obtain rfl : j = m := Int.ofNat.inj e
  exact hm
theorem Dsc.rle (h : ForR N rk) {i k : Nat} (d : Dsc N i k) : rk k ≤ rk i := by
  induction d with
  | refl => exact Nat.le_refl _
  | step _ hk hj ih => have := h.lt hk hj; omega
theorem Dsc.rline (h : ForR N rk) {a b k : Nat} (d : Dsc N a k) : Dsc N b k → Dsc N a b ∨ Dsc N b a := by
  induction d with
  | refl => exact fun e => .inr e
  | step d hk hj ih =>
    intro e
    cases e with
    | refl => exact .inl (.step d hk hj)
    | step e hk2 hj2 =>
      have q := h.uniq _ _ _ hk2 hk hj2 hj
      subst q
      exact ih e
theorem Dsc.rapart (h : ForR N rk) {i a b k : Nat} (hi : i < N.length) (ha : (a : Int) ∈ chl (nd N i)) (hb : (b : Int) ∈ chl (nd N i)) (hne : a ≠ b) (d : Dsc N a k) (e : Dsc N b k) : False := by
  have key : ∀ {a b : Nat}, (a : Int) ∈ chl (nd N i) → (b : Int) ∈ chl (nd N i) → a ≠ b → ¬ Dsc N a b := fun {a b} ha hb hne d => by
    cases d with
    | refl => exact hne rfl
    | step d hk hj =>
      have q := h.uniq _ _ _ hi hk hb hj
      subst q
      have h1 := d.rle h
      have h2 := h.lt hi ha
      omega
  rcases d.rline h e with c | c
  · exact key ha hb hne c
  · exact key hb ha (Ne.symm hne) c
theorem ordF_rdsc (h : ForR N rk) : ∀ (f i : Nat), i < N.length → ∀ x ∈ ordF N f i, ∃ k : Nat, x = k ∧ Dsc N i k ∧ k < N.length
  | 0, i, _, x, hx => by simp [ordF] at hx
  | f + 1, i, hi, x, hx => by
    unfold ordF at hx
    rw [Int.toNat_natCast] at hx
    by_cases ht : (nd N i).top = true
    · rw [if_pos ht] at hx
      rcases List.mem_cons.1 hx with rfl | hx
      · exact ⟨i, rfl, .refl, hi⟩
      · obtain ⟨c, hc, hx⟩ := List.mem_flatMap.1 hx
        obtain ⟨a, rfl, ha, _⟩ := h.below i hi c hc
        obtain ⟨k, rfl, d, q⟩ := ordF_rdsc h f a ha x hx
        exact ⟨k, rfl, d.top hi hc, q⟩
    · rw [if_neg ht] at hx; cases hx
theorem ordF_rnodup (h : ForR N rk) : ∀ (f i : Nat), i < N.length → (ordF N f i).Nodup
  | 0, i, _ => by simp [ordF]
  | f + 1, i, hi => by
    unfold ordF
    rw [Int.toNat_natCast]
    by_cases ht : (nd N i).top = true
    · rw [if_pos ht]
      refine List.nodup_cons.2 ⟨fun c => ?_, ?_⟩
      · obtain ⟨c, hc, hx⟩ := List.mem_flatMap.1 c
        obtain ⟨a, rfl, ha, hlt⟩ := h.below i hi c hc
        obtain ⟨k, e, d, _⟩ := ordF_rdsc h f a ha _ hx
        have e' : i = k := Int.ofNat.inj e
        have := d.rle h
        subst e'
        omega
      · refine List.pairwise_flatMap.2 ⟨fun c hc => ?_, (h.two i hi).imp_of_mem fun {c c'} hc hc' hne x hx y hy e => ?_⟩
        · obtain ⟨a, rfl, ha, _⟩ := h.below i hi c hc
          exact ordF_rnodup h f a ha
        · subst e
          obtain ⟨a, rfl, ha, _⟩ := h.below i hi c hc
          obtain ⟨b, rfl, hb, _⟩ := h.below i hi c' hc'
          obtain ⟨k, e1, d1, _⟩ := ordF_rdsc h f a ha _ hx
          obtain ⟨m, e2, d2, _⟩ := ordF_rdsc h f b hb _ hy
          have e3 : k = m := Int.ofNat.inj (e1.symm.trans e2)
          subst e3
          exact d1.rapart h hi hc hc' (fun e => hne (by rw [e])) d2
    · rw [if_neg ht]; exact List.nodup_nil
theorem ordF_rlen (h : ForR N rk) (f i : Nat) (hi : i < N.length) : (ordF N f i).length ≤ N.length := by
  have := nodup_sub (R := numsTo N.length) (ordF_rnodup h f i hi) fun x hx => by
    obtain ⟨k, rfl, _, hk⟩ := ordF_rdsc h f i hi x hx
    exact mem_numsTo.2 ⟨k, rfl, hk⟩
  rwa [numsTo_length] at this
theorem ordF_rany (h : ForR N rk) (f : Nat) (i : Int) : (ordF N f i).length ≤ N.length := by
  cases f with
  | zero => simp [ordF]
  | succ f =>
    have e : (ordF N (f + 1) i).length = (ordF N (f + 1) (i.toNat : Nat)).length := by
      unfold ordF
      rw [Int.toNat_natCast]
      split <;> simp
    rw [e]
    rcases Nat.lt_or_ge i.toNat N.length with c | c
    · exact ordF_rlen h (f + 1) i.toNat c
    · have : (nd N i.toNat).top = false := by unfold nd; rw [List.getD_eq_getElem?_getD, List.getElem?_eq_none c]; rfl
      unfold ordF
      rw [Int.toNat_natCast, this]; simp
end
/-- A tree has ranks, the root's below the number of nodes. -/
theorem TreeOk.forR {N : List PNd} {r : Nat} (h : TreeOk N r) (kids : Kids N) (hr : r < N.length) : ∃ rk : Nat → Nat, ForR N rk ∧ rk r < N.length := by
  have rng := parF_rng h.par h.one
  have hd : ∀ i : Nat, i < N.length → Dsc N r i := by have := h.dsc; rwa [Int.toNat_natCast] at this
  have h1 := reach_all rng fun i hi => parF_up h.par (hd i hi) hi
  have T : Tree N.length (parF N r) := ⟨rng, rank_of_reach rng (K := N.length) fun i hi => by rw [h1 i hi]; omega, fun i j hi hj e1 e2 => by
    have key : ∀ {i}, i < N.length → parF N r i = -1 → i = r := fun {i} hi e => by
      apply Classical.byContradiction
      intro c
      obtain ⟨j, hj, _, hp⟩ := only_par h.par h.one hi c
      unfold parF at e
      rw [if_neg c] at e
      omega
    rw [key hi e1, key hj e2]⟩
  obtain ⟨d, hlow, hdd⟩ := T.low
  refine ⟨fun i => N.length - 1 - d i, ⟨fun i hi x hx => ?_, fun i j x hi hj hx hy => ?_, fun i hi => ?_⟩, by show N.length - 1 - d r < N.length; omega⟩
  · obtain ⟨k, rfl, hk⟩ := kids i hi x hx
    have hne : k ≠ r := fun e => by
      have h2 := times_ge (N := N) (x := k) (i := i) hi
      have h3 := List.count_pos_iff.2 hx
      rw [e, h.rt.1] at h2
      rw [e] at h3
      omega
    have e : parF N r k = i := by unfold parF; rw [if_neg hne, h.par i hi k hx]
    have h2 := hdd k hk (by omega)
    rw [e, Int.toNat_natCast] at h2
    have := hlow k hk
    exact ⟨k, rfl, hk, by omega⟩
  · obtain ⟨k, rfl, hk⟩ := kids i hi x hx
    have := h.par i hi k hx
    have := h.par j hj k hy
    omega
  · rw [List.nodup_iff_count]
    intro x
    by_cases hx : x ∈ chl (nd N i)
    · obtain ⟨k, rfl, hk⟩ := kids i hi x hx
      have h2 := times_ge (N := N) (x := k) (i := i) hi
      by_cases e : (k : Int) = r
      · rw [e, h.rt.1] at h2; rw [e]; omega
      · rw [h.one k hk e] at h2; exact h2
    · rw [List.count_eq_zero_of_not_mem hx]; omega

/-! ### Where variables come in; the Top nodes -/
def entB (N : List PNd) (root v : Int) (i : Nat) : Bool := decide (v ∈ (nd N i).vars) && (decide ((i : Int) = root) || !decide (v ∈ vrs N (nd N i).parent))
/-- Property 5. -/
def VarsOk (N : List PNd) (root : Int) (nv : Nat) : Prop := ∀ v : Nat, v < nv → cntB (entB N root v) N.length ≤ 1
/-- Properties 6 and 7. -/
structure TopsOk (N : List PNd) (head : List Int) (root : Int) (tops : List Int) : Prop where
  rt : (nd N root.toNat).top = true
  up : ∀ i : Nat, i < N.length → (nd N i).top = true → (i : Int) ≠ root → (nd N (nd N i).parent.toNat).top = true
  sub : ∀ i : Nat, i < N.length → (nd N i).top = true → ∀ v ∈ (nd N i).vars, v ∈ head
  cov : ∀ h ∈ head, ∃ i : Nat, i < N.length ∧ (nd N i).top = true ∧ h ∈ (nd N i).vars
  ord : tops = ordF N N.length root
end Go.Proofs.YtdemmjofggemhaaGreatDoor

/- The plan that the two phases make has all the properties of a plan. No program in sight. -/
namespace Go.Proofs.YtdemmjofggemhaaGreatDoor

theorem lst_at {x : BitVec 32} {i : Nat} (h : i < (bitsOf x).length) : pz (lst x) i = ((bitsOf x)[i] : Nat) := by
  rw [← pz_eq (lst x) i (by rw [lst_length]; exact h)]
  simp [lst]
theorem mem_lst {x : BitVec 32} {u : Int} : u ∈ lst x ↔ ∃ v : Nat, u = v ∧ hv x v := by
  unfold lst
  rw [List.mem_map]
  constructor
  · rintro ⟨v, hm, rfl⟩; exact ⟨v, rfl, mem_bitsOf.1 hm⟩
  · rintro ⟨v, rfl, hm⟩; exact ⟨v, mem_bitsOf.2 hm, rfl⟩
theorem mem_lst_nat {x : BitVec 32} {v : Nat} : (v : Int) ∈ lst x ↔ hv x v := by
  rw [mem_lst]
  constructor
  · rintro ⟨u, e, h⟩; rw [Int.ofNat.inj e]; exact h
  · exact fun h => ⟨v, rfl, h⟩
theorem part_lst {a b : BitVec 32} (h : ∀ v, hv a v → hv b v) : partB (lst a) (lst b) = true := by
  refine partB_iff.2 ⟨fun i hi => ?_, fun x hx => ?_⟩
  · rw [lst_length] at hi
    rcases Nat.eq_zero_or_pos i with c | c
    · exact .inl c
    · right
      rw [lst_at hi, lst_at (show i - 1 < _ by omega)]
      have := List.pairwise_iff_getElem.1 (bitsOf_sorted a) (i - 1) i (by omega) hi (by omega)
      omega
  · obtain ⟨v, rfl, hm⟩ := mem_lst.1 hx
    exact mem_lst_nat.2 (h v hm)
theorem lst_zero : lst 0#32 = [] := by unfold lst; rw [bitsOf_zero]; rfl

theorem growG_old : ∀ (ss : List Stp) (L : Lt) (g : Gr), ∃ tl, (growG L g ss).nodes = g.nodes ++ tl
  | [], L, g => ⟨[], by simp [growG]⟩
  | s :: ss, L, g => by
    obtain ⟨tl, e⟩ := growG_old ss (makeE L s) (stepG L g s)
    exact ⟨nodeG L g.at_ s :: tl, by show (growG (makeE L s) (stepG L g s) ss).nodes = _; rw [e]; simp [stepG]⟩
theorem gn_grow {ss : List Stp} {L : Lt} {g : Gr} {i : Nat} (h : i < g.nodes.length) : gn (growG L g ss).nodes i = gn g.nodes i := by
  obtain ⟨tl, e⟩ := growG_old ss L g
  rw [e]; simp [gn, List.getElem?_append_left h]
theorem parN_is {N : List PNd} {k i : Nat} : ∀ {n : Nat}, i < n → (k : Int) ∈ chl (nd N i) → (∀ j, j < n → (k : Int) ∈ chl (nd N j) → j = i) → parN N k n = i
  | 0, h, _, _ => absurd h (Nat.not_lt_zero _)
  | n + 1, h, hm, hu => by
    show (if _ then _ else _) = _
    by_cases c : (k : Int) ∈ chl (nd N n)
    · rw [if_pos c, hu n (by omega) c]
    · rw [if_neg c]
      have hne : i ≠ n := fun e => c (e ▸ hm)
      exact parN_is (by omega) hm fun j hj => hu j (by omega)
theorem parN_no {N : List PNd} {k : Nat} : ∀ {n : Nat}, (∀ j, j < n → (k : Int) ∉ chl (nd N j)) → parN N k n = -1
  | 0, _ => rfl
  | n + 1, h => by
    show (if _ then _ else _) = _
    rw [if_neg (h n (by omega))]
    exact parN_no fun j hj => h j (by omega)
theorem times_zero {N : List PNd} {x : Int} : ∀ {n : Nat}, (∀ j, j < n → x ∉ chl (nd N j)) → times N x n = 0
  | 0, _ => rfl
  | n + 1, h => by
    unfold times
    rw [times_zero fun j hj => h j (by omega), List.count_eq_zero_of_not_mem (h n (by omega))]
theorem times_one {N : List PNd} {x : Int} {i : Nat} : ∀ {n : Nat}, i < n → x ∈ chl (nd N i) → (chl (nd N i)).Nodup → (∀ j, j < n → x ∈ chl (nd N j) → j = i) → times N x n = 1
  | 0, h, _, _, _ => absurd h (Nat.not_lt_zero _)
  | n + 1, h, hm, hn, hu => by
    unfold times
    by_cases c : x ∈ chl (nd N n)
    · obtain rfl := hu n (by omega) c
      rw [times_zero fun j hj d => by have := hu j (by omega) d; omega, List.Nodup.count hn, if_pos c]
    · have hne : i ≠ n := fun e => c (e ▸ hm)
      rw [List.count_eq_zero_of_not_mem c, times_one (by omega) hm hn fun j hj => hu j (by omega)]
/-- Vertices that are kept stay. -/
theorem keep_inX {keep : BitVec 32} {L M : Lt} {ss : List Stp} (r : Rch keep L ss M) (hs : Srt L) {v : Nat} (hk : hv keep v) (h : inX L v) : inX M v := by
  induction r with
  | nil => exact h
  | @cons L M s ss st _ ih =>
    refine ih hs.make ?_
    rcases st.cases hs with ⟨x, hx, hc, rfl⟩ | ⟨x, hx, y, hy, k, hne, hk', hsub, rfl⟩
    · exact (trim_inX hs hx v).2 ⟨h, fun c => ((hv_cut _ _ _ _).1 c).2.1 hk⟩
    · exact (gone_inX hs hk' hx hy hne hsub v).2 h

section
variable {E : List (BitVec 32)} {head : BitVec 32} {n : Nat}
theorem low_len (hn : n ≤ (runE E head).1.length) : lowE E head n = (grow1 E head n).nodes.length := by
  have e := (fit1 hn).nodes
  show (midPB E head n).nodes.length = _
  rw [e]; simp
theorem gn_low {i : Nat} (h : i < (grow1 E head n).nodes.length) : gn (grow2 E head n).nodes i = gn (grow1 E head n).nodes i := gn_grow (g := ⟨(grow1 E head n).nodes, at2 (leftL E head n) (grow1 E head n)⟩) h
theorem ch_low {i k : Nat} (h : i < (grow1 E head n).nodes.length) : Ch (grow2 E head n).nodes i k ↔ Ch (grow1 E head n).nodes i k := by unfold Ch; rw [gn_low h]
theorem low_le : (grow1 E head n).nodes.length ≤ (grow2 E head n).nodes.length := by
  obtain ⟨tl, e⟩ := growG_old (run2 E head n).1 (beginE (setsL (leftL E head n))) ⟨(grow1 E head n).nodes, at2 (leftL E head n) (grow1 E head n)⟩
  have : (grow2 E head n).nodes = (grow1 E head n).nodes ++ tl := e
  rw [this]; simp
/-- A node of the first phase that is in the second one's list of present ones: it stands for a set that is left. -/
theorem top_low (hn : n ≤ (runE E head).1.length) {i : Nat} (hm : (i : Int) ∈ (secPB E head n).pres) : ∃ x ∈ leftL E head n, (grow1 E head n).at_ x.1 = i ∧ i < (grow1 E head n).nodes.length ∧ (gn (grow1 E head n).nodes i).set = x.2 := by
  obtain ⟨x, hx, e⟩ := List.mem_map.1 hm
  rw [(fit1 hn).pres x hx] at e
  have e' : (grow1 E head n).at_ x.1 = i := Int.ofNat.inj e
  exact ⟨x, hx, e', e' ▸ (ginv1 hn).pl x hx, e' ▸ (ginv1 hn).ps x hx⟩
theorem low_top (hn : n ≤ (runE E head).1.length) {x : Nat × BitVec 32} (hx : x ∈ leftL E head n) : (((grow1 E head n).at_ x.1 : Nat) : Int) ∈ (secPB E head n).pres := List.mem_map.2 ⟨x, hx, (fit1 hn).pres x hx⟩
theorem topE_iff (hn : n ≤ (runE E head).1.length) {i : Nat} : topE E head n i = true ↔ (grow1 E head n).nodes.length ≤ i ∨ (i : Int) ∈ (secPB E head n).pres := by
  unfold topE
  rw [low_len hn]
  simp
theorem chl_nodes (hn : n ≤ (runE E head).1.length) {i : Nat} (hi : i < (endPB E head n).nodes.length) {x : Int} : x ∈ chl (nd (nodesE E head n) i) ↔ ∃ k : Nat, x = k ∧ Ch (grow2 E head n).nodes i k := by
  rw [nodesE_at hn hi, chl_with]; exact chl_ch
theorem chl_raw (hn : n ≤ (runE E head).1.length) {i : Nat} (hi : i < (endPB E head n).nodes.length) {x : Int} : x ∈ chl (nd (rawE E head n) i) ↔ ∃ k : Nat, x = k ∧ Ch (grow2 E head n).nodes i k := by
  rw [rawE_at hn hi]; exact chl_ch
theorem par_at (hn : n ≤ (runE E head).1.length) {k : Nat} (hk : k < (endPB E head n).nodes.length) : (nd (nodesE E head n) k).parent = parN (rawE E head n) k (endPB E head n).nodes.length := by
  rw [nodesE_at hn hk]
theorem par_node (hn : n ≤ (runE E head).1.length) {i k : Nat} (hi : i < (endPB E head n).nodes.length) (hc : Ch (grow2 E head n).nodes i k) : (nd (nodesE E head n) k).parent = i ∧ k < i := by
  have hl := end_len hn
  have I := ginv3 hn
  have hk := I.chlt (by omega) hc
  refine ⟨?_, hk⟩
  rw [par_at hn (by omega)]
  refine parN_is hi ((chl_raw hn hi).2 ⟨k, rfl, hc⟩) fun j hj hm => ?_
  obtain ⟨m, e, hc'⟩ := (chl_raw hn hj).1 hm
  rw [← Int.ofNat.inj e] at hc'
  exact I.uniq j i k (by omega) (by omega) hc' hc
theorem vars_node (hn : n ≤ (runE E head).1.length) {i : Nat} (hi : i < (endPB E head n).nodes.length) : (nd (nodesE E head n) i).vars = lst (gn (grow2 E head n).nodes i).set := by
  rw [nodesE_at hn hi]; rfl
theorem one_node (hn : n ≤ (runE E head).1.length) {i : Nat} (hi : i < (endPB E head n).nodes.length) : OneOk E (nodesE E head n) i := by
  have hl := end_len hn
  have I := ginv3 hn
  refine ⟨fun c => ?_, fun c => ?_⟩
  · rw [nodesE_at hn hi]
    have e := I.leaf i c
    refine ⟨?_, ?_, ?_, ?_, ?_⟩ <;> simp [GN.p, e]
  · have hin : ∀ k : Nat, k < i → inN (nodesE E head n) k = true := fun k hk => inN_iff.2 ⟨k, rfl, by rw [nodesE_length]; omega⟩
    have hvr : ∀ k : Nat, k < i → vrs (nodesE E head n) k = lst (gn (grow2 E head n).nodes k).set := fun k hk => by
      unfold vrs; rw [Int.toNat_natCast]; exact vars_node hn (by omega)
    have hvi := vars_node hn hi
    have hnode := I.node i c (by omega)
    have hN : nd (nodesE E head n) i = { (gn (grow2 E head n).nodes i).p with top := topE E head n i, parent := parN (rawE E head n) i (endPB E head n).nodes.length } := nodesE_at hn hi
    have hs : (nd (nodesE E head n) i).source = ((gn (grow2 E head n).nodes i).src : Nat) := by rw [hN]; rfl
    have hd : (nd (nodesE E head n) i).side = ((gn (grow2 E head n).nodes i).side : Nat) := by rw [hN]; rfl
    have hk : (nd (nodesE E head n) i).kind = ((gn (grow2 E head n).nodes i).kind : Nat) := by rw [hN]; rfl
    have ha : (nd (nodesE E head n) i).atom = ((gn (grow2 E head n).nodes i).atom : Nat) := by rw [hN]; rfl
    rcases hnode with ⟨h1, h2, h3, h4, h5, u, h6, h7⟩ | ⟨h1, h2, h3, h4, h5, h6, h7⟩
    · left
      refine ⟨by rw [hk, h1]; rfl, by rw [ha, h2]; rfl, by rw [hs]; exact hin _ h4, by rw [hd, h3]; rfl, ?_, ?_⟩
      · rw [hvi, hs, hvr _ h4]; exact part_lst h5
      · rw [hvi, hs, hvr _ h4, lst_length, lst_length]
        exact bitsOf_mono h5 u h6 (by unfold hv at h7; simpa using h7)
    · right
      refine ⟨by rw [hk, h1]; rfl, by rw [ha, h2]; rfl, by rw [hs]; exact hin _ h3, by rw [hd]; exact hin _ h4, ?_, ?_, ?_⟩
      · rw [hvi, hs, hvr _ h3, h6]
      · rw [hvi]; exact part_lst fun v h => h
      · rw [hvi, hd, hvr _ h4]; exact part_lst h7
/-- Where the first phase comes to its end the second one leaves one set, without a vertex. -/
theorem end_one (h6 : E.length ≤ 7) (hn : n ≤ (runE E head).1.length) (hj : ∃ p, JT E p) : (run2 E head n).2.length ≤ 1 ∧ ∀ x ∈ (run2 E head n).2, x.2 = 0#32 := by
  have i := (left_rch hn).inv (inv_begin E)
  have l1 := (left_rch hn).len
  rw [begin_len] at l1
  have hl : (setsL (leftL E head n)).length = (leftL E head n).length := by simp [setsL]
  have hj2 : ∃ p, JT (setsL (leftL E head n)) p := (jt_iff (by omega)).2 fun ⟨R, k⟩ => (jt_iff h6).1 hj ⟨R, knot_up i k⟩
  have r2 : Rch 0#32 (beginE (setsL (leftL E head n))) (run2 E head n).1 (run2 E head n).2 := runE_rch _ _
  have st : Stuck (run2 E head n).2 0#32 := runE_Stuck 0#32 (by omega)
  have h1 := (left_iff r2 st).2 hj2
  exact ⟨h1, (left_empty (r2.srt (srt_begin _)) st).1 h1⟩
theorem tree_node (hE : E ≠ []) (h6 : E.length ≤ 7) (hn : n ≤ (runE E head).1.length) (hj : ∃ p, JT E p) : TreeOk (nodesE E head n) (rootE E head n) := by
  have hl := end_len hn
  have I := ginv3 hn
  obtain ⟨o1, o2⟩ := end_one h6 hn hj
  have hmem := lft_zero_mem (run2_ne (head := head) (n := n) hE hn)
  obtain ⟨r, hr⟩ : ∃ r : Nat, (grow2 E head n).at_ (lft (run2 E head n).2 0).1 = r := ⟨_, rfl⟩
  have hroot := root_at hE hn
  have hrl := I.pl _ hmem
  have hrs := I.ps _ hmem
  rw [hr] at hroot hrl hrs
  have hfree : ∀ j, j < (endPB E head n).nodes.length → ¬ Ch (grow2 E head n).nodes j r := fun j hj => by
    have := I.free _ hmem j (by omega)
    rwa [hr] at this
  have hpar : ∀ k, k < (endPB E head n).nodes.length → k ≠ r → ∃ i, i < (endPB E head n).nodes.length ∧ Ch (grow2 E head n).nodes i k := fun k hk hne => by
    rcases I.par k (by omega) with ⟨x, hx, e⟩ | ⟨i, hi, c⟩
    · have : x = lft (run2 E head n).2 0 := mem_one o1 hx hmem
      exact absurd (by rw [← e, this, hr]) hne
    · exact ⟨i, by omega, c⟩
  have F := forest_nodes (E := E) (head := head) (n := n) hn
  rw [hroot]
  have hpn : ∀ i, i < (nodesE E head n).length → ∀ k : Nat, (k : Int) ∈ chl (nd (nodesE E head n) i) → (nd (nodesE E head n) k).parent = i := fun i hi k hk => by
    rw [nodesE_length] at hi
    obtain ⟨m, e, c⟩ := (chl_nodes hn hi).1 hk
    rw [Int.ofNat.inj e]
    exact (par_node hn hi c).1
  refine ⟨hpn, ⟨?_, ?_, ?_⟩, fun i hi hne => ?_, ?_⟩
  · rw [nodesE_length]
    refine times_zero fun j hj hm => ?_
    obtain ⟨m, e, c⟩ := (chl_nodes hn hj).1 hm
    rw [← Int.ofNat.inj e] at c
    exact hfree j hj c
  · rw [Int.toNat_natCast, par_at hn (by omega)]
    refine parN_no fun j hj hm => ?_
    obtain ⟨m, e, c⟩ := (chl_raw hn hj).1 hm
    rw [← Int.ofNat.inj e] at c
    exact hfree j hj c
  · rw [Int.toNat_natCast, vars_node hn (by omega), hrs, o2 _ hmem, lst_zero]
  · rw [nodesE_length] at hi
    obtain ⟨j, hj, c⟩ := hpar i hi (by omega)
    rw [nodesE_length]
    refine times_one hj ((chl_nodes hn hj).2 ⟨i, rfl, c⟩) (F.two j (by rw [nodesE_length]; exact hj)) fun m hm hc => ?_
    obtain ⟨q, e, c'⟩ := (chl_nodes hn hm).1 hc
    rw [← Int.ofNat.inj e] at c'
    exact I.uniq m j i (by omega) (by omega) c' c
  · have key : ∀ m i, (endPB E head n).nodes.length - i ≤ m → i < (endPB E head n).nodes.length → Dsc (nodesE E head n) r i := by
      intro m
      induction m with
      | zero => intro i h1 h2; omega
      | succ m ih =>
        intro i h1 h2
        by_cases e : i = r
        · subst e; exact .refl
        · obtain ⟨j, hj, c⟩ := hpar i h2 e
          have := (par_node hn hj c).2
          exact .step (ih j (by omega) hj) (by rw [nodesE_length]; exact hj) ((chl_nodes hn hj).2 ⟨i, rfl, c⟩)
    intro i hi
    rw [nodesE_length] at hi
    rw [Int.toNat_natCast]
    exact key _ i (Nat.le_refl _) hi
theorem cntB_le_one {p : Nat → Bool} : ∀ {n : Nat}, (∀ i j, i < n → j < n → p i = true → p j = true → i = j) → cntB p n ≤ 1
  | 0, _ => Nat.zero_le _
  | n + 1, h => by
    unfold cntB
    by_cases c : p n = true
    · rw [if_pos c]
      have : cntB p n = 0 := by
        have key : ∀ m, m ≤ n → cntB p m = 0 := by
          intro m
          induction m with
          | zero => intro _; rfl
          | succ m ih =>
            intro hm
            unfold cntB
            rw [ih (by omega), if_neg fun d => by have := h m n (by omega) (by omega) d c; omega]
        exact key n (Nat.le_refl _)
      omega
    · rw [if_neg c]
      exact cntB_le_one fun i j hi hj => h i j (by omega) (by omega)
theorem vars_ok (hE : E ≠ []) (h6 : E.length ≤ 7) (hn : n ≤ (runE E head).1.length) (hj : ∃ p, JT E p) (nv : Nat) : VarsOk (nodesE E head n) (rootE E head n) nv := by
  have hl := end_len hn
  have I := ginv3 hn
  have T := tree_node hE h6 hn hj
  obtain ⟨r, hr, hrl⟩ := root_lt hE hn
  rw [hr] at T ⊢
  intro v _
  have key : ∀ i, i < (nodesE E head n).length → entB (nodesE E head n) r v i = true → ∃ a, a < (grow2 E head n).nodes.length ∧ Ch (grow2 E head n).nodes a i ∧ hv (gn (grow2 E head n).nodes i).set v ∧ ¬ hv (gn (grow2 E head n).nodes a).set v := fun i hi h => by
    unfold entB at h
    simp only [Bool.and_eq_true, Bool.or_eq_true, decide_eq_true_eq, Bool.not_eq_true', decide_eq_false_iff_not] at h
    have hi' := hi
    rw [nodesE_length] at hi'
    obtain ⟨h1, h2⟩ := h
    have hne : i ≠ r := fun e => by
      have := T.rt.2.2
      rw [Int.toNat_natCast, ← e] at this
      rw [this] at h1; cases h1
    obtain ⟨a, ha, hm, hp⟩ := only_par T.par T.one hi hne
    rw [nodesE_length] at ha
    rcases h2 with c | c
    · exact absurd (Int.ofNat.inj c) hne
    · unfold vrs at c
      rw [hp, Int.toNat_natCast, vars_node hn ha, mem_lst_nat] at c
      rw [vars_node hn hi', mem_lst_nat] at h1
      obtain ⟨m, e, q⟩ := (chl_nodes hn ha).1 hm
      rw [← Int.ofNat.inj e] at q
      exact ⟨a, by omega, q, h1, c⟩
  refine cntB_le_one fun i j hi hj h1 h2 => ?_
  obtain ⟨a, ha, ca, ea, fa⟩ := key i hi h1
  obtain ⟨b, hb, cb, eb, fb⟩ := key j hj h2
  exact I.once v a i b j ha hb ca cb ea fa eb fb
/-- All that is Top has vertices of the head alone. -/
theorem top_in (hn : n ≤ (runE E head).1.length) (ha : allIn (leftL E head n) head = true) : ∀ i, i < (endPB E head n).nodes.length → topE E head n i = true → ∀ v, hv (gn (grow2 E head n).nodes i).set v → hv head v := by
  have hl := end_len hn
  have I := ginv3 hn
  intro i
  induction i using Nat.strongRecOn with
  | _ i ih =>
    intro hi ht v h
    rcases Nat.lt_or_ge i (grow1 E head n).nodes.length with c | c
    · rcases (topE_iff hn).1 ht with d | d
      · omega
      · obtain ⟨x, hx, _, _, e⟩ := top_low hn d
        rw [gn_low c, e] at h
        exact (allIn_iff _ _).1 ha x hx v h
    · have hlow : ∀ k, Ch (grow2 E head n).nodes i k → topE E head n k = true := fun k hk => by
        rcases Nat.lt_or_ge k (grow1 E head n).nodes.length with d | d
        · rcases (ginv1 hn).par k d with ⟨x, hx, e⟩ | ⟨j, hj, cj⟩
          · exact (topE_iff hn).2 (.inr (e ▸ low_top hn hx))
          · have := I.uniq i j k (by omega) (by have := low_le (E := E) (head := head) (n := n); omega) hk ((ch_low hj).2 cj)
            omega
        · exact (topE_iff hn).2 (.inl d)
      have hE : E.length ≤ i := by have := (ginv1 hn).len; omega
      rcases I.node i hE (by omega) with ⟨h1, _, _, h4, h5, _⟩ | ⟨h1, _, h4, _, _, h6, _⟩
      · exact ih _ h4 (by omega) (hlow _ (.inl ⟨.inl h1, rfl⟩)) v (h5 v h)
      · exact ih _ h4 (by omega) (hlow _ (.inl ⟨.inr h1, rfl⟩)) v (by rw [← h6]; exact h)
theorem tops_ok (hE : E ≠ []) (h6 : E.length ≤ 7) (hn : n ≤ (runE E head).1.length) (hj : ∃ p, JT E p) (ha : allIn (leftL E head n) head = true) {H : List Int} (hH : ∀ v : Nat, hv head v → (v : Int) ∈ H) (hH2 : ∀ h ∈ H, ∃ v : Nat, h = v ∧ hv head v ∧ inX (beginE E) v) :
    TopsOk (nodesE E head n) H (rootE E head n) (topsE E head n) := by
  have hl := end_len hn
  have I := ginv3 hn
  have T := tree_node hE h6 hn hj
  obtain ⟨r, hr, hrl⟩ := root_lt hE hn
  have htop : ∀ i, i < (endPB E head n).nodes.length → (nd (nodesE E head n) i).top = topE E head n i := fun i hi => by rw [nodesE_at hn hi]
  refine ⟨?_, fun i hi ht hne => ?_, fun i hi ht v hvm => ?_, fun h hh => ?_, rfl⟩
  · rw [hr, Int.toNat_natCast, htop r hrl]; exact root_top hE hn hr
  · rw [nodesE_length] at hi
    rw [htop i hi] at ht
    rw [hr] at hne T
    obtain ⟨j, hjl, hm, hp⟩ := only_par T.par T.one (by rw [nodesE_length]; exact hi) (by omega)
    rw [nodesE_length] at hjl
    obtain ⟨m, e, c⟩ := (chl_nodes hn hjl).1 hm
    rw [← Int.ofNat.inj e] at c
    rw [hp, Int.toNat_natCast, htop j hjl]
    refine (topE_iff hn).2 (.inl ?_)
    have hlt := (par_node hn hjl c).2
    rcases (topE_iff hn).1 ht with d | d
    · omega
    · obtain ⟨x, hx, e2, _, _⟩ := top_low hn d
      rcases Nat.lt_or_ge j (grow1 E head n).nodes.length with q | q
      · exact absurd (e2 ▸ (ch_low q).1 c) ((ginv1 hn).free x hx j q)
      · exact q
  · rw [nodesE_length] at hi
    rw [htop i hi] at ht
    rw [vars_node hn hi] at hvm
    obtain ⟨u, rfl, hu⟩ := mem_lst.1 hvm
    exact hH u (top_in hn ha i hi ht u hu)
  · obtain ⟨v, rfl, h1, h2⟩ := hH2 h hh
    obtain ⟨x, hx, hxv⟩ := keep_inX (left_rch hn) (srt_begin E) h1 h2
    have h3 := (ginv1 hn).pl x hx
    have h4 := low_le (E := E) (head := head) (n := n)
    refine ⟨(grow1 E head n).at_ x.1, by rw [nodesE_length]; omega, ?_, ?_⟩
    · rw [htop _ (by omega)]; exact (topE_iff hn).2 (.inr (low_top hn hx))
    · rw [vars_node hn (by omega), gn_low h3, (ginv1 hn).ps x hx]; exact mem_lst_nat.2 hxv
end

/-- P18.2: p is a plan of q. -/
structure CheckOk (q : Qy) (p : PPlan) : Prop where
  shape : shapeC q = 0
  vars : p.vars = qvars q.atoms
  head : p.head = q.head.map fun h => atI (qvars q.atoms) h
  few : p.nodes.length ≤ 64
  many : q.atoms.length ≤ p.nodes.length
  root : inN p.nodes p.root = true
  one : ∀ i, i < p.nodes.length → OneOk (ofE q) p.nodes i
  tree : TreeOk p.nodes p.root
  vs : VarsOk p.nodes p.root p.vars.length
  tops : TopsOk p.nodes p.head p.root p.tops
theorem head_bit {q : Qy} (hg : GoodQ q) {v : Nat} : hv (headW q) v ↔ v < (qvars q.atoms).length ∧ nm (qvars q.atoms) v ∈ q.head := by
  have h30 := qvars_length hg.narrow hg.few
  unfold hv headW
  rw [getLsbD_setOf _ (by omega)]
  simp
/-- WHAT MAKE GIVES IS A PLAN. -/
theorem plan_ok {q : Qy} {n : Nat} (hs : shapeC q = 0) (ha : acyB (qvars q.atoms).length (ofE q) = true) (hF : FirstOk (ofE q) (headW q) (runE (ofE q) (headW q)).1 n true) : CheckOk q (planE q n) := by
  have hg := shapeC_iff.1 hs
  have hv0 := ofE_valid hg
  have h30 := qvars_length hg.narrow hg.few
  have h6 : (ofE q).length ≤ 6 := by rw [ofE_length]; exact hg.few
  have hE : ofE q ≠ [] := fun c => by
    have h1 := hg.some_
    rw [← ofE_length, c] at h1
    simp at h1
  have hn := hF.1
  have hj := (acyB_iff hv0).1 ha
  have hal : allIn (leftL (ofE q) (headW q) n) (headW q) = true := by
    rcases hF.2.2 with ⟨_, h⟩ | ⟨h, _⟩
    · exact h
    · cases h
  have hf := nodes_few (head := headW q) hE hn
  have hc := plan_counts (head := headW q) hE hn
  obtain ⟨r, hr, hrl⟩ := root_lt (head := headW q) hE hn
  have k1 : (nodesE (ofE q) (headW q) n).length ≤ 64 := by rw [nodesE_length]; omega
  have k2 : q.atoms.length ≤ (nodesE (ofE q) (headW q) n).length := by rw [nodesE_length, hc.2.1, ← ofE_length q]; omega
  have k3 : inN (nodesE (ofE q) (headW q) n) (rootE (ofE q) (headW q) n) = true := by
    rw [hr]
    exact inN_iff.2 ⟨r, rfl, by rw [nodesE_length]; exact hrl⟩
  have k4 : ∀ i, i < (nodesE (ofE q) (headW q) n).length → OneOk (ofE q) (nodesE (ofE q) (headW q) n) i := fun i hi => one_node hn (by rwa [nodesE_length] at hi)
  have k5 := tree_node hE (by omega) hn hj
  have k6 := vars_ok hE (by omega) hn hj (qvars q.atoms).length
  have k7 := tops_ok (H := q.head.map fun h => atI (qvars q.atoms) h) hE (by omega) hn hj hal (fun v h => by
    obtain ⟨h1, h2⟩ := (head_bit hg).1 h
    exact List.mem_map.2 ⟨_, h2, atI_nm (qvars_nodup _) h1⟩) fun h hh => by
    obtain ⟨x, hx, rfl⟩ := List.mem_map.1 hh
    have hxv := hg.safe x hx
    obtain ⟨k, hk, hkl, hkn, _⟩ := atI_mem hxv
    refine ⟨k, hk, (head_bit hg).2 ⟨hkl, by rw [hkn]; exact hx⟩, ?_⟩
    obtain ⟨hne, a, haq, t, ht, e⟩ := mem_qvars.1 hxv
    obtain ⟨j, hjl, rfl⟩ := List.mem_iff_getElem.1 haq
    refine ⟨(j, ed (ofE q) j), mem_begin.2 ⟨by rw [ofE_length]; exact hjl, rfl⟩, ?_⟩
    have e2 : ed (ofE q) j = setOf (qvars q.atoms) (avars (q.atoms[j]).terms) := by
      rw [← ed_eq (ofE q) j (by rw [ofE_length]; exact hjl)]; simp [ofE]
    show hv (ed (ofE q) j) k
    rw [e2]
    unfold hv
    rw [getLsbD_setOf _ (by omega)]
    have : nm (qvars q.atoms) k ∈ avars (q.atoms[j]).terms := by rw [hkn]; exact mem_avars.2 ⟨hne, t, ht, e⟩
    simp [hkl, this]
  clear hr hrl hc hf hF hn hal hj
  unfold planE
  generalize nodesE (ofE q) (headW q) n = N at k1 k2 k3 k4 k5 k6 k7 ⊢
  generalize topsE (ofE q) (headW q) n = T at k7 ⊢
  generalize rootE (ofE q) (headW q) n = R at k3 k5 k6 k7 ⊢
  exact ⟨hs, rfl, rfl, k1, k2, k3, k4, k5, k6, k7⟩
end Go.Proofs.YtdemmjofggemhaaGreatDoor

/- The plain law of hierarchical graphs: their removal takes an edge into another one only where both are the same set. No program in sight. -/
namespace Go.Proofs.YtdemmjofggemhaaGreatDoor

/-- Each Meet holds two things with the same vertices against each other. -/
def FlatG (N : List GN) : Prop := ∀ i, i < N.length → (gn N i).kind = 3 → (gn N (gn N i).side).set = (gn N i).set
theorem FlatG.step {E : List (BitVec 32)} {L : Lt} {g : Gr} {keep : BitVec 32} {s : Stp} (hg : GInv E L g) (h : FlatG g.nodes) (hs : IsStp L keep s) (hk : s.kind = 1 ∨ s.kind = 2) : FlatG (stepG L g s).nodes := by
  intro i hi hk3
  have hn : (stepG L g s).nodes = g.nodes ++ [nodeG L g.at_ s] := rfl
  rw [hn] at hi hk3 ⊢
  rcases Nat.lt_or_ge i g.nodes.length with c | c
  · rw [gn_old c] at hk3 ⊢
    have hlt : (gn g.nodes i).side < g.nodes.length := Nat.lt_trans (hg.chlt c (.inr ⟨hk3, rfl⟩)) c
    rw [gn_old hlt]
    exact h i c hk3
  · obtain rfl : i = g.nodes.length := by simp at hi; omega
    rw [gn_new] at hk3 ⊢
    rcases hs with ⟨x, hx, _, rfl⟩ | ⟨x, hx, y, hy, h1, h2, rfl⟩ | ⟨x, hx, y, hy, h1, h2, rfl⟩
    · simp [nodeG] at hk3
    · have e : nodeG L g.at_ ⟨2, y.1, x.1, 0#32⟩ = ⟨3, 0, setAt L x.1, g.at_ x.1, g.at_ y.1⟩ := by simp [nodeG]
      rw [e]
      show (gn (g.nodes ++ [_]) (g.at_ y.1)).set = setAt L x.1
      rw [gn_old (hg.pl y hy), hg.ps y hy, setAt_eq hg.srt hx, h2]
    · rcases hk with hk | hk <;> simp at hk
end Go.Proofs.YtdemmjofggemhaaGreatDoor

/- The plan of a query without a clash: each Meet holds two things with the same variables against each other. When there is a plan. No program in sight. -/
namespace Go.Proofs.YtdemmjofggemhaaGreatDoor

theorem FlatG.run {E : List (BitVec 32)} {keep : BitVec 32} {L M : Lt} {ss : List Stp} (r : Rch keep L ss M) (hk : ∀ s ∈ ss, s.kind = 1 ∨ s.kind = 2) : ∀ {g : Gr}, GInv E L g → FlatG g.nodes → FlatG (growG L g ss).nodes := by
  induction r with
  | nil => exact fun _ h => h
  | @cons L M s ss st _ ih => exact fun hg h => ih (fun s hs => hk s (List.mem_cons_of_mem _ hs)) (hg.step st) (h.step hg st (hk s List.mem_cons_self))
section
variable {E : List (BitVec 32)} {head : BitVec 32} {n : Nat}
end
/-- There is no end of the first phase where the extended graph has no join tree; there is one where it has one. -/
theorem first_conn {E : List (BitVec 32)} {head : BitVec 32} (h6 : E.length ≤ 6) {n : Nat} {ok : Bool} (hF : FirstOk E head (runE E head).1 n ok) : ok = true ↔ ∃ p, JT (extE E head) p := by
  constructor
  · rintro rfl
    rcases hF.2.2 with ⟨_, h⟩ | ⟨h, _⟩
    · exact conn_back ((runE_rch E head).take n hF.1) ((allIn_iff _ _).1 h)
    · cases h
  · intro hj
    rcases hF.2.2 with ⟨h, _⟩ | ⟨_, he, h⟩
    · exact h
    · have h2 := conn_end h6 (runE_rch E head) (runE_Stuck head (by omega)) hj
      rw [he, (runE_rch E head).end_] at h
      rw [(allIn_iff _ _).2 h2] at h
      cases h
/-- When Make gives a plan, and what it is; and when it gives none. -/
theorem make_cases {q : Qy} {p : PPlan} {code : Int} (h : MakeIs q p code) (hs : shapeC q = 0) : (acyB (qvars q.atoms).length (ofE q) = false ∧ p = noPlan ∧ code = 161) ∨
    (acyB (qvars q.atoms).length (ofE q) = true ∧ acyB (qvars q.atoms).length (extE (ofE q) (headW q)) = false ∧ p = noPlan ∧ code = 170) ∨
    (acyB (qvars q.atoms).length (ofE q) = true ∧ acyB (qvars q.atoms).length (extE (ofE q) (headW q)) = true ∧ CheckOk q p ∧ code = 0) := by
  have hg := shapeC_iff.1 hs
  have hv := ofE_valid hg
  have h6 : (ofE q).length ≤ 6 := by rw [ofE_length]; exact hg.few
  have hx := ext_valid (V := (qvars q.atoms).length) (E := ofE q) (head := headW q) (goodB_iff.2 ⟨hv, h6⟩)
  rcases h with ⟨h1, _⟩ | ⟨_, h2, rfl, rfl⟩ | ⟨_, h2, ⟨n, h3⟩, rfl, rfl⟩ | ⟨_, h2, n, h3, rfl, rfl⟩
  · exact absurd hs h1
  · exact .inl ⟨h2, rfl, rfl⟩
  · refine .inr (.inl ⟨h2, ?_, rfl, rfl⟩)
    rw [Bool.eq_false_iff]
    intro c
    exact absurd ((first_conn h6 h3).2 ((acyB_iff hx).1 c)) (by decide)
  · exact .inr (.inr ⟨h2, (acyB_iff hx).2 ((first_conn h6 h3).1 rfl), plan_ok hs h2 h3, rfl⟩)
theorem make_shape {q : Qy} {p : PPlan} {code : Int} (h : MakeIs q p code) (hs : shapeC q ≠ 0) : p = noPlan ∧ code = shapeC q := by
  rcases h with ⟨_, h2, h3⟩ | ⟨h1, _⟩ | ⟨h1, _⟩ | ⟨h1, _⟩
  · exact ⟨h2, h3⟩
  all_goals exact absurd h1 hs
end Go.Proofs.YtdemmjofggemhaaGreatDoor
