/- Slices that are read: what their cells hold, as plain lists; small lemmas on worlds, lists and words. No program in sight. -/
import Derived.Test.YtaongngoacbodaaDoorW32
import Derived.Lib.Hide
import Derived.Maps.AppendAt
import Derived.Deep.AppendLies
import Derived.Deep.QuietTactic
import Derived.BigQuiet
import Derived.Lib.QuietBelow
import Derived.Deep.RegionHeld3
namespace Go.Proofs.YtaongngoacbodaaDoor
open Go.RowKit

theorem block_add (a : Addr) (n : Nat) : (a.add n).block = a.block := by unfold Addr.add; split <;> rfl

/-- What a slice's cells hold, below block B. -/
def Rd (w : World) (B : Nat) (A : Option Addr) (xs : List Value) : Prop :=
  ∀ k (h : k < xs.length), ∃ ad, A = some ad ∧ ad.block < B ∧ w.cell? (ad.add k) = some xs[k]

section
variable {w w' : World} {B B' : Nat} {A : Option Addr} {xs : List Value}
theorem Rd.nil : Rd w B A [] := fun k hk => absurd hk (by simp)
theorem Rd.keep (h : Rd w B A xs) (hk : ∀ p : Addr, p.block < B → w'.cell? p = w.cell? p) : Rd w' B A xs := fun k hx => by
  obtain ⟨ad, e, hl, hc⟩ := h k hx
  exact ⟨ad, e, hl, (hk _ (by rw [block_add]; exact hl)).trans hc⟩
theorem Rd.below (h : Rd w B A xs) (hb : Below B w w') : Rd w' B A xs := h.keep fun _ hp => hb.cell hp
theorem Rd.mono (h : Rd w B A xs) (hb : B ≤ B') : Rd w B' A xs := fun k hk => by
  obtain ⟨ad, e, hl, hc⟩ := h k hk
  exact ⟨ad, e, by omega, hc⟩
/-- In a later world, read below its own size. -/
theorem Rd.later (h : Rd w w.heap.size A xs) (hb : Below w.heap.size w w') : Rd w' w'.heap.size A xs := (h.below hb).mono hb.size
theorem Rd.of_own {base : Nat} {e : TypeId} {v : Value} {n : Nat} (h : w.ownsRow base e 1 v n xs) :
    ∃ A c, v = .slice A n c ∧ n ≤ c ∧ xs.length = n ∧ Rd w w.heap.size A xs ∧ (∀ ad, A = some ad → base ≤ ad.block) := by
  have hl := h.1
  rcases h.2 with ⟨rfl, rfl⟩ | ⟨g, cap, cur, rfl, hb, hg, hn, _⟩
  · exact ⟨none, 0, rfl, Nat.le_refl _, by omega, fun k hk => absurd hk (by omega), fun _ e => by cases e⟩
  · have hlt := (h.lt g (by simp [Value.ownBlock])).2
    exact ⟨some ⟨g, 0, none⟩, cap, rfl, hn, by omega, fun k hk => ⟨_, rfl, hlt, h.cells (g := g) rfl k _ (List.getElem?_eq_getElem hk)⟩, fun ad e => by injection e with e; subst e; exact hb⟩
end

/-- The values of words, of numbers, of truth values. -/
def us (E : List (BitVec 32)) : List Value := E.map fun x => .int .u32 (uz x)
def is (Z : List Int) : List Value := Z.map fun x => .int .i64 x
@[simp] theorem us_length (E : List (BitVec 32)) : (us E).length = E.length := by simp [us]
@[simp] theorem is_length (Z : List Int) : (is Z).length = Z.length := by simp [is]
theorem us_snoc (E : List (BitVec 32)) (x : BitVec 32) : us (E ++ [x]) = us E ++ [.int .u32 (uz x)] := by simp [us]
theorem is_snoc (Z : List Int) (x : Int) : is (Z ++ [x]) = is Z ++ [.int .i64 x] := by simp [is]
theorem us_one (E : List (BitVec 32)) : ∀ u ∈ us E, u.oneCell' = true := by
  intro u hu
  obtain ⟨_, _, rfl⟩ := List.mem_map.1 hu
  rfl
theorem is_one (Z : List Int) : ∀ u ∈ is Z, u.oneCell' = true := by
  intro u hu
  obtain ⟨_, _, rfl⟩ := List.mem_map.1 hu
  rfl
theorem Rd.u_at {w : World} {B : Nat} {A : Option Addr} {E : List (BitVec 32)} (h : Rd w B A (us E)) {k : Nat} (hk : k < E.length) :
    ∃ ad, A = some ad ∧ ad.block < B ∧ w.cell? (ad.add k) = some (.int .u32 (uz E[k])) := by
  obtain ⟨ad, e, hl, hc⟩ := h k (by simpa using hk)
  exact ⟨ad, e, hl, by simpa [us] using hc⟩
theorem Rd.i_at {w : World} {B : Nat} {A : Option Addr} {Z : List Int} (h : Rd w B A (is Z)) {k : Nat} (hk : k < Z.length) :
    ∃ ad, A = some ad ∧ ad.block < B ∧ w.cell? (ad.add k) = some (.int .i64 Z[k]) := by
  obtain ⟨ad, e, hl, hc⟩ := h k (by simpa using hk)
  exact ⟨ad, e, hl, by simpa [is] using hc⟩

theorem take_snoc {α : Type} (l : List α) (k : Nat) (h : k < l.length) : l.take (k + 1) = l.take k ++ [l[k]] := by
  rw [List.take_succ_eq_append_getElem h]
/-- The next element, under a name of its own, and what it does to the part that has been seen. -/
theorem next_at {α : Type} (l : List α) (k : Nat) (h : k < l.length) : ∃ x, l[k] = x ∧ l[k]? = some x ∧ l.take (k + 1) = l.take k ++ [x] :=
  ⟨l[k], rfl, List.getElem?_eq_getElem h, take_snoc l k h⟩

/-- In every world that has only grown: the old cells and marks, as two rules. -/
theorem bcell {W w1 : World} (hb : Below W.heap.size W w1) : (∀ b o, b < W.heap.size → w1.cell? ⟨b, o, none⟩ = W.cell? ⟨b, o, none⟩) ∧ (∀ b o, b < W.heap.size → w1.frozen? ⟨b, o, none⟩ = W.frozen? ⟨b, o, none⟩) :=
  ⟨fun b o h => hb.cell (p := ⟨b, o, none⟩) h, fun b o h => hb.frozen (p := ⟨b, o, none⟩) h⟩
/-- A cell that is there stays. -/
theorem Tab_cell {W w1 : World} (hb : Below W.heap.size W w1) {p : Addr} {v : Value} (h : W.cell? p = some v) : w1.cell? p = some v := (hb.cell (World.block_lt_of_cell? W _ h)).trans h
theorem bcellB {B : Nat} {W w1 : World} (hb : Below B W w1) : (∀ b o, b < B → w1.cell? ⟨b, o, none⟩ = W.cell? ⟨b, o, none⟩) ∧ (∀ b o, b < B → w1.frozen? ⟨b, o, none⟩ = W.frozen? ⟨b, o, none⟩) :=
  ⟨fun b o h => hb.cell (p := ⟨b, o, none⟩) h, fun b o h => hb.frozen (p := ⟨b, o, none⟩) h⟩
theorem below_drewN {B : Nat} {a w : World} (h : Below B a w) (n : Nat) : Below B a (w.drewN n) := ⟨h.os, h.tape, h.output, h.size, h.block⟩
/-- Behind one step more that has only grown what was there. -/
theorem bnext {B : Nat} {a b c : World} (h : Below B a b) (k : Below b.heap.size b c) (hB : B ≤ b.heap.size) : Below B a c := h.trans (k.mono hB)
theorem bthen {a b c : World} (h : Below a.heap.size a b) (k : Below b.heap.size b c) : Below a.heap.size a c := h.trans (k.mono h.size)
theorem below_alloc (w : World) (o : Obj) : Below w.heap.size w (w.alloc o) := (Below.refl _ _).alloc (Nat.le_refl _) _

/-! ### Words -/
/-- Is the vertex in the set? -/
def inB (s : BitVec 32) (v : Int) : Bool := decide (0 ≤ v) && s.getLsbD v.toNat
theorem inB_nat (s : BitVec 32) (k : Nat) : inB s (k : Int) = s.getLsbD k := by simp [inB]
theorem inB_neg (s : BitVec 32) (v : Int) (h : v < 0) : inB s v = false := by simp [inB]; omega
theorem inB_big (s : BitVec 32) (v : Int) (h : 32 ≤ v) : inB s v = false := by
  simp only [inB, Bool.and_eq_false_iff]; right; exact BitVec.getLsbD_of_ge _ _ (by omega)
theorem two_pow_toNat (k : Nat) (hk : k < 32) : (1#32 <<< k).toNat = 2 ^ k := by
  rw [BitVec.toNat_shiftLeft, Nat.shiftLeft_eq]
  have : 2 ^ k < 2 ^ 32 := Nat.pow_lt_pow_right (by omega) hk
  simp; omega
theorem bit_ne (k : Nat) (hk : k < 32) : ¬ uz (1#32 <<< k) = 0 := by
  unfold uz; rw [two_pow_toNat k hk]
  have := Nat.two_pow_pos k
  omega
theorem bit_div (s : BitVec 32) (k : Nat) (hk : k < 32) : ((uz s).tdiv (uz (1#32 <<< k)) % 2 == 1) = s.getLsbD k := by
  unfold uz
  rw [two_pow_toNat k hk, BitVec.getLsbD, Nat.testBit_eq_decide_div_mod_eq, Int.tdiv_eq_ediv_of_nonneg (by omega), ← Int.natCast_ediv]
  rw [Bool.eq_iff_iff, beq_iff_eq, decide_eq_true_iff]
  omega
theorem shr_one (x : BitVec 32) (k : Nat) : (x >>> k &&& 1#32 == 1#32) = x.getLsbD k := by
  have e : x >>> k &&& 1#32 = if x.getLsbD k then 1#32 else 0#32 := by
    apply BitVec.eq_of_getLsbD_eq
    intro i hi
    by_cases h : x.getLsbD k <;> simp [h] <;> rcases i with _ | i <;> simp [h]
  rw [e]; cases x.getLsbD k <;> rfl
/-- The set of all vertices. -/
def allOf (V : Int) : BitVec 32 := 1#32 <<< V.toNat - 1#32
theorem getLsbD_allOf (V : Int) (h : V ≤ 32) (i : Nat) : (allOf V).getLsbD i = decide (i < V.toNat) := by
  obtain ⟨n, hn⟩ : ∃ n, V.toNat = n := ⟨_, rfl⟩
  have h32 : n ≤ 32 := by omega
  have hd : (allOf V).toNat = 2 ^ n - 1 := by
    unfold allOf
    rw [hn, BitVec.toNat_sub, BitVec.toNat_shiftLeft, Nat.shiftLeft_eq]
    have h1 := Nat.two_pow_pos n
    rcases Nat.lt_or_eq_of_le h32 with h2 | h2
    · have h3 : 2 ^ n < 2 ^ 32 := Nat.pow_lt_pow_right (by omega) h2
      simp; omega
    · subst h2; rfl
  rw [BitVec.getLsbD, hd, Nat.testBit_two_pow_sub_one, hn]
theorem sub_and (a b : BitVec 32) : a - (a &&& b) = a &&& ~~~b := by
  have h0 : (a &&& b) &&& (a &&& ~~~b) = 0#32 := by
    apply BitVec.eq_of_getLsbD_eq; intro i hi; simp only [BitVec.getLsbD_and, BitVec.getLsbD_not, hi, decide_true, Bool.true_and, BitVec.getLsbD_zero]; cases a.getLsbD i <;> cases b.getLsbD i <;> rfl
  have h1 : (a &&& b) + (a &&& ~~~b) = a := by
    rw [BitVec.add_eq_or_of_and_eq_zero _ _ h0]
    apply BitVec.eq_of_getLsbD_eq; intro i hi; simp only [BitVec.getLsbD_or, BitVec.getLsbD_and, BitVec.getLsbD_not, hi, decide_true, Bool.true_and]; cases a.getLsbD i <;> cases b.getLsbD i <;> rfl
  calc a - (a &&& b) = ((a &&& b) + (a &&& ~~~b)) - (a &&& b) := by rw [h1]
    _ = a &&& ~~~b := by rw [BitVec.add_comm, BitVec.add_sub_cancel]
/-- The lowest bits of a word, put together one by one. -/
def lows (x : BitVec 32) : Nat → BitVec 32
  | 0 => 0#32
  | k + 1 => if x.getLsbD k then lows x k + 1#32 <<< k else lows x k
theorem getLsbD_lows (x : BitVec 32) : ∀ k, k ≤ 32 → ∀ i, (lows x k).getLsbD i = (decide (i < k) && x.getLsbD i)
  | 0, _, i => by simp [lows]
  | k + 1, hk, i => by
    have ih := getLsbD_lows x k (by omega)
    have h0 : lows x k &&& 1#32 <<< k = 0#32 := by
      apply BitVec.eq_of_getLsbD_eq; intro j hj
      simp only [BitVec.getLsbD_and, ih, BitVec.getLsbD_shiftLeft, BitVec.getLsbD_zero]
      by_cases h : j < k <;> simp [h]
    unfold lows
    by_cases hx : x.getLsbD k = true
    · rw [if_pos hx, BitVec.add_eq_or_of_and_eq_zero _ _ h0, BitVec.getLsbD_or, ih, BitVec.getLsbD_shiftLeft]
      rcases Nat.lt_trichotomy i k with h | h | h
      · simp [h, show i < k + 1 by omega]
      · subst h; simp [hx, show i < 32 by omega]
      · simp [show ¬ i < k by omega, show ¬ i < k + 1 by omega]; omega
    · rw [if_neg hx, ih]
      rcases Nat.lt_trichotomy i k with h | h | h
      · simp [h, show i < k + 1 by omega]
      · subst h; simp [hx]
      · simp [show ¬ i < k by omega, show ¬ i < k + 1 by omega]
theorem lows_all (x : BitVec 32) : lows x 32 = x := by
  apply BitVec.eq_of_getLsbD_eq; intro i hi
  rw [getLsbD_lows x 32 (Nat.le_refl _)]; simp [hi]
end Go.Proofs.YtaongngoacbodaaDoor
