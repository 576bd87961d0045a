/- Several texts in one: W32 Mem Leaf Gr1 Own Gr2 Gr3 Ed Zed FlatMem Tz. -/
import Derived.WalkKit
import Derived.WalkSpells
import Derived.WalkLawsBesides
import Derived.Lib.Hide
import Derived.Maps.AppendAt
import Derived.Deep.AppendLies
import Derived.Deep.QuietTactic
import Derived.BigQuiet
import Derived.Lib.QuietBelow
import Derived.Deep.RegionHeld3
import Derived.Test.YtdemmjofggemhaaDoorProg
import Derived.Lib.TrailingZeros
import Derived.Deep.OwnRows
import Derived.Laws.CopyOwn
import Derived.Deep.DeepCutAuto
import Derived.Deep.LoopGhost
import Derived.Deep.CutBlock
import Derived.Deep.CutRange
import Derived.WalkMore
/- Words of 32 bits as BitVec 32, kept behind a name that the walk does not open; the laws by which the walk reckons with them. Plain: no program in sight. -/
namespace Go.Proofs.YtdemmjofggemhaaDoor
open Go.RowKit

/-- The number that a word of 32 bits is. -/
def uz (x : BitVec 32) : Int := (x.toNat : Int)
theorem uz_inj {x y : BitVec 32} (h : uz x = uz y) : x = y := by
  unfold uz at h; exact BitVec.eq_of_toNat_eq (by omega)
theorem uz_beq (x y : BitVec 32) : (uz x == uz y) = (x == y) := by
  rw [Bool.eq_iff_iff, beq_iff_eq, beq_iff_eq]
  exact ⟨uz_inj, fun h => by rw [h]⟩
theorem uz_bne (x y : BitVec 32) : (uz x != uz y) = (x != y) := by
  simp only [bne, uz_beq]
theorem uz_beq_zero (x : BitVec 32) : (uz x == 0) = (x == 0#32) := uz_beq x 0#32
theorem uz_bne_zero (x : BitVec 32) : (uz x != 0) = (x != 0#32) := uz_bne x 0#32
theorem uz_beq_one (x : BitVec 32) : (uz x == 1) = (x == 1#32) := uz_beq x 1#32
theorem uz_and (x y : BitVec 32) : Op.intBits .and .u32 (uz x) (uz y) = pure (.int .u32 (uz (x &&& y))) := by
  rw [intBits_and]; unfold uz; rw [u32_and_nat _ _ x.isLt y.isLt, BitVec.toNat_and]
theorem uz_or (x y : BitVec 32) : Op.intBits .or .u32 (uz x) (uz y) = pure (.int .u32 (uz (x ||| y))) := by
  rw [intBits_or]; unfold uz; rw [u32_or_nat _ _ x.isLt y.isLt, BitVec.toNat_or]
theorem uz_andNot (x y : BitVec 32) : Op.intBits .andNot .u32 (uz x) (uz y) = pure (.int .u32 (uz (x &&& ~~~y))) := by
  rw [intBits_andNot]; unfold uz; rw [u32_andNot_nat _ _ x.isLt y.isLt, BitVec.toNat_and, BitVec.toNat_not]
theorem uz_and_one (x : BitVec 32) : Op.intBits .and .u32 (uz x) 1 = pure (.int .u32 (uz (x &&& 1#32))) := uz_and x 1#32
theorem uz_shr (x : BitVec 32) (k : IntKind) (y : Int) (h : 0 ≤ y) : Op.shift .shr .u32 (uz x) k y = pure (.int .u32 (uz (x >>> y.toNat))) := by
  unfold Op.shift
  rw [if_neg (by omega)]
  simp only [IntKind.bits]
  congr 2
  unfold uz
  rw [BitVec.toNat_ushiftRight, Nat.shiftRight_eq_div_pow]
  rw [show ((2 : Int) ^ min y.toNat 32) = (((2 : Nat) ^ min y.toNat 32 : Nat) : Int) by norm_cast, Int.fdiv_eq_ediv_of_nonneg _ (Int.natCast_nonneg _)]
  rw [← Int.natCast_ediv]
  congr 1
  rcases Nat.le_total y.toNat 32 with hh | hh
  · rw [Nat.min_eq_left hh]
  · rw [Nat.min_eq_right hh, Nat.div_eq_of_lt (by simpa using x.isLt), Nat.div_eq_of_lt]
    exact Nat.lt_of_lt_of_le x.isLt (Nat.pow_le_pow_right (by omega) hh)
theorem uz_shl_one (k : IntKind) (y : Int) (h : 0 ≤ y) : Op.shift .shl .u32 1 k y = pure (.int .u32 (uz (1#32 <<< y.toNat))) := by
  unfold Op.shift
  rw [if_neg (by omega)]
  simp only [IntKind.bits]
  congr 2
  unfold uz
  rw [BitVec.toNat_shiftLeft, Nat.shiftLeft_eq, IntKind.wrap_u32]
  rw [show ((2 : Int) ^ min y.toNat 32) = (((2 : Nat) ^ min y.toNat 32 : Nat) : Int) by norm_cast]
  rcases Nat.le_total y.toNat 32 with hh | hh
  · rw [Nat.min_eq_left hh]; simp
  · rw [Nat.min_eq_right hh]
    obtain ⟨d, hd⟩ := Nat.exists_eq_add_of_le hh
    rw [hd, Nat.pow_add]
    simp [Nat.mul_mod_right]
theorem uz_shl (x : BitVec 32) (k : IntKind) (y : Int) (h : 0 ≤ y) : Op.shift .shl .u32 (uz x) k y = pure (.int .u32 (uz (x <<< y.toNat))) := by
  unfold Op.shift
  rw [if_neg (by omega)]
  simp only [IntKind.bits]
  congr 2
  unfold uz
  rw [BitVec.toNat_shiftLeft, Nat.shiftLeft_eq, IntKind.wrap_u32]
  rw [show ((2 : Int) ^ min y.toNat 32) = (((2 : Nat) ^ min y.toNat 32 : Nat) : Int) by norm_cast]
  rcases Nat.le_total y.toNat 32 with hh | hh
  · rw [Nat.min_eq_left hh, ← Int.natCast_mul]
    generalize x.toNat * 2 ^ y.toNat = m
    omega
  · rw [Nat.min_eq_right hh]
    obtain ⟨d, hd⟩ := Nat.exists_eq_add_of_le hh
    rw [hd, Nat.pow_add]
    have e1 : (x.toNat * (2 ^ 32 * 2 ^ d)) % 2 ^ 32 = 0 := by
      rw [show x.toNat * (2 ^ 32 * 2 ^ d) = 2 ^ 32 * (x.toNat * 2 ^ d) by rw [Nat.mul_left_comm]]; exact Nat.mul_mod_right _ _
    rw [e1]
    have e2 : ((x.toNat : Int) * ((2 ^ 32 : Nat) : Int)) % 4294967296 = 0 := by
      rw [show ((2 ^ 32 : Nat) : Int) = 4294967296 from rfl]; omega
    rw [e2]; rfl
theorem uz_sub (x y : BitVec 32) : IntKind.u32.wrap (uz x - uz y) = uz (x - y) := by
  rw [IntKind.wrap_u32]; unfold uz; rw [BitVec.toNat_sub]
  have := x.isLt; have := y.isLt; omega
theorem uz_sub_one (x : BitVec 32) : IntKind.u32.wrap (uz x - 1) = uz (x - 1#32) := uz_sub x 1#32
theorem uz_add (x y : BitVec 32) : IntKind.u32.wrap (uz x + uz y) = uz (x + y) := by
  rw [IntKind.wrap_u32]; unfold uz; rw [BitVec.toNat_add]
  have := x.isLt; have := y.isLt; omega
end Go.Proofs.YtdemmjofggemhaaDoor

/- Slices that are read: what their cells hold, as plain lists; small lemmas on worlds, lists and words. No program in sight. -/
namespace Go.Proofs.YtdemmjofggemhaaDoor
open Go.RowKit

theorem block_add (a : Addr) (n : Nat) : (a.add n).block = a.block := by unfold Addr.add; split <;> rfl

/-- What a slice's cells hold, below block B. -/
def Rd (w : World) (B : Nat) (A : Option Addr) (xs : List Value) : Prop :=
  ∀ k (h : k < xs.length), ∃ ad, A = some ad ∧ ad.block < B ∧ w.cell? (ad.add k) = some xs[k]

section
variable {w w' : World} {B B' : Nat} {A : Option Addr} {xs : List Value}
theorem Rd.nil : Rd w B A [] := fun k hk => absurd hk (by simp)
theorem Rd.keep (h : Rd w B A xs) (hk : ∀ p : Addr, p.block < B → w'.cell? p = w.cell? p) : Rd w' B A xs := fun k hx => by
  obtain ⟨ad, e, hl, hc⟩ := h k hx
  exact ⟨ad, e, hl, (hk _ (by rw [block_add]; exact hl)).trans hc⟩
theorem Rd.below (h : Rd w B A xs) (hb : Below B w w') : Rd w' B A xs := h.keep fun _ hp => hb.cell hp
theorem Rd.mono (h : Rd w B A xs) (hb : B ≤ B') : Rd w B' A xs := fun k hk => by
  obtain ⟨ad, e, hl, hc⟩ := h k hk
  exact ⟨ad, e, by omega, hc⟩
/-- In a later world, read below its own size. -/
theorem Rd.later (h : Rd w w.heap.size A xs) (hb : Below w.heap.size w w') : Rd w' w'.heap.size A xs := (h.below hb).mono hb.size
theorem Rd.of_own {base : Nat} {e : TypeId} {v : Value} {n : Nat} (h : w.ownsRow base e 1 v n xs) :
    ∃ A c, v = .slice A n c ∧ n ≤ c ∧ xs.length = n ∧ Rd w w.heap.size A xs ∧ (∀ ad, A = some ad → base ≤ ad.block) := by
  have hl := h.1
  rcases h.2 with ⟨rfl, rfl⟩ | ⟨g, cap, cur, rfl, hb, hg, hn, _⟩
  · exact ⟨none, 0, rfl, Nat.le_refl _, by omega, fun k hk => absurd hk (by omega), fun _ e => by cases e⟩
  · have hlt := (h.lt g (by simp [Value.ownBlock])).2
    exact ⟨some ⟨g, 0, none⟩, cap, rfl, hn, by omega, fun k hk => ⟨_, rfl, hlt, h.cells (g := g) rfl k _ (List.getElem?_eq_getElem hk)⟩, fun ad e => by injection e with e; subst e; exact hb⟩
end

/-- The values of words, of numbers, of truth values. -/
def us (E : List (BitVec 32)) : List Value := E.map fun x => .int .u32 (uz x)
def is (Z : List Int) : List Value := Z.map fun x => .int .i64 x
@[simp] theorem us_length (E : List (BitVec 32)) : (us E).length = E.length := by simp [us]
@[simp] theorem is_length (Z : List Int) : (is Z).length = Z.length := by simp [is]
theorem us_snoc (E : List (BitVec 32)) (x : BitVec 32) : us (E ++ [x]) = us E ++ [.int .u32 (uz x)] := by simp [us]
theorem is_snoc (Z : List Int) (x : Int) : is (Z ++ [x]) = is Z ++ [.int .i64 x] := by simp [is]
theorem us_one (E : List (BitVec 32)) : ∀ u ∈ us E, u.oneCell' = true := by
  intro u hu
  obtain ⟨_, _, rfl⟩ := List.mem_map.1 hu
  rfl
theorem is_one (Z : List Int) : ∀ u ∈ is Z, u.oneCell' = true := by
  intro u hu
  obtain ⟨_, _, rfl⟩ := List.mem_map.1 hu
  rfl
theorem Rd.u_at {w : World} {B : Nat} {A : Option Addr} {E : List (BitVec 32)} (h : Rd w B A (us E)) {k : Nat} (hk : k < E.length) :
    ∃ ad, A = some ad ∧ ad.block < B ∧ w.cell? (ad.add k) = some (.int .u32 (uz E[k])) := by
  obtain ⟨ad, e, hl, hc⟩ := h k (by simpa using hk)
  exact ⟨ad, e, hl, by simpa [us] using hc⟩
theorem Rd.i_at {w : World} {B : Nat} {A : Option Addr} {Z : List Int} (h : Rd w B A (is Z)) {k : Nat} (hk : k < Z.length) :
    ∃ ad, A = some ad ∧ ad.block < B ∧ w.cell? (ad.add k) = some (.int .i64 Z[k]) := by
  obtain ⟨ad, e, hl, hc⟩ := h k (by simpa using hk)
  exact ⟨ad, e, hl, by simpa [is] using hc⟩

theorem take_snoc {α : Type} (l : List α) (k : Nat) (h : k < l.length) : l.take (k + 1) = l.take k ++ [l[k]] := by
  rw [List.take_succ_eq_append_getElem h]
/-- A cell that is there stays. -/
theorem Tab_cell {W w1 : World} (hb : Below W.heap.size W w1) {p : Addr} {v : Value} (h : W.cell? p = some v) : w1.cell? p = some v := (hb.cell (World.block_lt_of_cell? W _ h)).trans h
theorem below_drewN {B : Nat} {a w : World} (h : Below B a w) (n : Nat) : Below B a (w.drewN n) := ⟨h.os, h.tape, h.output, h.size, h.block⟩
theorem bthen {a b c : World} (h : Below a.heap.size a b) (k : Below b.heap.size b c) : Below a.heap.size a c := h.trans (k.mono h.size)
theorem below_alloc (w : World) (o : Obj) : Below w.heap.size w (w.alloc o) := (Below.refl _ _).alloc (Nat.le_refl _) _

/-! ### Words -/
/-- Is the vertex in the set? -/
def inB (s : BitVec 32) (v : Int) : Bool := decide (0 ≤ v) && s.getLsbD v.toNat
theorem inB_nat (s : BitVec 32) (k : Nat) : inB s (k : Int) = s.getLsbD k := by simp [inB]
/-- The set of all vertices. -/
def allOf (V : Int) : BitVec 32 := 1#32 <<< V.toNat - 1#32
theorem getLsbD_allOf (V : Int) (h : V ≤ 32) (i : Nat) : (allOf V).getLsbD i = decide (i < V.toNat) := by
  obtain ⟨n, hn⟩ : ∃ n, V.toNat = n := ⟨_, rfl⟩
  have h32 : n ≤ 32 := by omega
  have hd : (allOf V).toNat = 2 ^ n - 1 := by
    unfold allOf
    rw [hn, BitVec.toNat_sub, BitVec.toNat_shiftLeft, Nat.shiftLeft_eq]
    have h1 := Nat.two_pow_pos n
    rcases Nat.lt_or_eq_of_le h32 with h2 | h2
    · have h3 : 2 ^ n < 2 ^ 32 := Nat.pow_lt_pow_right (by omega) h2
      simp; omega
    · subst h2; rfl
  rw [BitVec.getLsbD, hd, Nat.testBit_two_pow_sub_one, hn]
end Go.Proofs.YtdemmjofggemhaaDoor

/- Contracts of the functions on words alone: the reference's In, Within, Meet, Both. -/
namespace Go.Proofs.YtdemmjofggemhaaDoor
open Go.RowKit

attribute [local go_sem ↓] uz_and uz_or uz_andNot uz_and_one uz_shr uz_shl_one uz_shl uz_sub uz_sub_one uz_add uz_beq_zero uz_bne_zero uz_beq uz_bne uz_beq_one

/-! ### In -/
/-! ### Within, Meet, Both -/
/-- Is a part of b? -/
def subB (a b : BitVec 32) : Bool := a &&& ~~~b == 0#32
/-! ### The least vertex of a set -/
/-- The least vertex of a set; 32 if there is none. -/
def ctz (x : BitVec 32) : Nat := Lib.ctz 32 x.toNat
theorem ctz_lt (x : BitVec 32) (h0 : x ≠ 0#32) : ctz x < 32 := by
  have hx0 : x.toNat ≠ 0 := fun h => h0 (BitVec.eq_of_toNat_eq (by simpa using h))
  exact (Lib.lowest_bit 32 x.toNat hx0 x.isLt).2
end Go.Proofs.YtdemmjofggemhaaDoor

/- Contracts of hyper.all, hyper.Valid (with slices.ContainsFunc, slices.IndexFunc over words), hyper.near, hyper.Neighbours; the reference's Valid, Near, Neighbours, Copy, Same. -/
namespace Go.Proofs.YtdemmjofggemhaaDoor
open Go.RowKit

attribute [local go_sem ↓] uz_and uz_or uz_andNot uz_and_one uz_shr uz_shl_one uz_shl uz_sub uz_sub_one uz_add uz_beq_zero uz_bne_zero uz_beq uz_bne uz_beq_one

/-- Does the edge stick out of the vertices? -/
def outB (V : Int) (e : BitVec 32) : Bool := e &&& ~~~allOf V != 0#32
/-- Is it a valid graph? -/
def validB (V : Int) (E : List (BitVec 32)) : Bool := decide (0 ≤ V) && decide (V ≤ 30) && decide (E.length ≤ 7) && !E.any (outB V)
theorem validB_of {V : Int} {E : List (BitVec 32)} (h : validB V E = true) : 0 ≤ V ∧ V ≤ 30 ∧ E.length ≤ 7 ∧ E.any (outB V) = false := by
  simp only [validB, Bool.and_eq_true, decide_eq_true_eq, Bool.not_eq_true'] at h
  exact ⟨h.1.1.1, h.1.1.2, h.1.2, h.2⟩

theorem all_any (V : Int) (A : Option Addr) (n c : Nat) (w : World) (h0 : 0 ≤ V) :
    Calls Tryd.prog 65 #[.agg #[.int .i64 V, .slice A n c]] w fun e w' => e = .returned (.int .u32 (uz (allOf V))) ∧ Below w.heap.size w w' := by
  go_enter Tryd.func65, Tryd.ntmps65
  go_wp2
  go_ret
  exact ⟨rfl, below_alloc _ _⟩

theorem validFn_any (x : BitVec 32) (V : Int) (A : Option Addr) (n c b : Nat) (w : World) (h0 : 0 ≤ V) (h1 : w.cell? ⟨b, 0, none⟩ = some (.int .i64 V)) (h2 : w.cell? ⟨b, 1, none⟩ = some (.slice A n c)) :
    Calls Tryd.prog 64 #[.int .u32 (uz x), .pointer (some ⟨b, 0, none⟩)] w fun e w' => e = .returned (.bool (outB V x)) ∧ Below w.heap.size w w' := by
  go_enter Tryd.func64, Tryd.ntmps64
  go_wp2_with fail
  refine (all_any V A n c _ h0).mono ?_
  rintro e w1 ⟨rfl, hb⟩
  go_wp2
  go_ret
  exact ⟨rfl, hb⟩

/-- The place of the first that has the property; -1 if none. -/
def idxOf {α : Type} (p : α → Bool) (E : List α) : Int := match E.findIdx? p with | some i => i | none => -1
theorem idxOf_none {α : Type} {p : α → Bool} {E : List α} (h : E.any p = false) : idxOf p E = -1 := by
  unfold idxOf
  rw [List.findIdx?_eq_none_iff.2 (fun x hx => by simpa using List.any_eq_false.1 h x hx)]
theorem idxOf_at {α : Type} {p : α → Bool} {E : List α} {k : Nat} (hk : k < E.length) (h : (E.take k).any p = false) (hp : p E[k] = true) : idxOf p E = k := by
  unfold idxOf
  have : E.findIdx? p = some k := by
    rw [List.findIdx?_eq_some_iff_getElem]
    refine ⟨hk, hp, fun j hj => ?_⟩
    have := List.any_eq_false.1 h E[j] (List.mem_take_iff_getElem.2 ⟨j, by omega, rfl⟩)
    simpa using this
  rw [this]
theorem idxOf_nonneg {α : Type} (p : α → Bool) (E : List α) : (decide (0 ≤ idxOf p E)) = E.any p := by
  unfold idxOf
  cases h : E.findIdx? p with
  | none =>
    have : E.any p = false := by
      rw [List.any_eq_false]
      intro x hx
      have := List.findIdx?_eq_none_iff.1 h x hx
      simpa using this
    rw [this]; rfl
  | some i =>
    have hi := List.findIdx?_eq_some_iff_getElem.1 h
    have : E.any p = true := by
      rw [List.any_eq_true]
      obtain ⟨h1, h2, _⟩ := hi
      exact ⟨E[i], List.getElem_mem h1, h2⟩
    rw [this]; simp
theorem any_snoc {α : Type} (l : List α) (x : α) (p : α → Bool) : (l ++ [x]).any p = (l.any p || p x) := by simp

theorem indexFn_any (F : FuncId) (caps : Array Value) (p : BitVec 32 → Bool) (A : Option Addr) (E : List (BitVec 32)) (c : Nat) (w : World) (hl : E.length ≤ 35184372087808) (hE : Rd w w.heap.size A (us E))
    (hF : ∀ args w, (callFunc F args).run Tryd.prog w = .ok (.enter F args) w)
    (hcall : ∀ (x : BitVec 32) (wr : World), Below w.heap.size w wr → Calls Tryd.prog F (#[.int .u32 (uz x)] ++ caps) wr fun e w' => e = .returned (.bool (p x)) ∧ Below wr.heap.size wr w') :
    Calls Tryd.prog 79 #[.slice A E.length c, .func (.func F) #[] caps] w fun e w' => e = .returned (.int .i64 (idxOf p E)) ∧ Below w.heap.size w w' := by
  go_enter Tryd.func79, Tryd.ntmps79
  go_wp2_with fail
  go_loopw [5, 8] (fun _ i wr => ∃ k : Nat, k ≤ E.length ∧ i = .int .i64 k ∧ Hid ((E.take k).any p = false) ∧ Below w.heap.size w wr) (fun _ i _ => E.length - (intOf i).toNat)
  case atStart => exact ⟨0, Nat.zero_le _, rfl, rfl, Below.refl _ _⟩
  case round =>
    obtain ⟨k, hk, rfl, hno, hb⟩ := hrel
    by_cases hlt : k < E.length
    · obtain ⟨ad, hA, _, hc⟩ := (hE.below hb).u_at hlt
      subst hA
      have hs := take_snoc E k hlt
      have hat : p E[k] = true → idxOf p E = k := fun h => idxOf_at hlt hno.out h
      generalize E[k] = x at hc hs hat
      have HS := Lib.hid hs
      have HA := Lib.hid hat
      clear hs hat
      cases hp : p x
      · go_wp2_with fail
        refine (hcall x _ hb).mono ?_
        rintro e w1 ⟨rfl, hb1⟩
        go_wp2
        go_roundw
        case rel =>
          refine ⟨k + 1, by omega, by go_num, ?_, bthen hb hb1⟩
          show _ = _
          rw [HS.out, any_snoc, hno.out, hp]; rfl
        case measure => simp [intOf]; omega
      · go_wp2_with fail
        refine (hcall x _ hb).mono ?_
        rintro e w1 ⟨rfl, hb1⟩
        go_wp2
        go_ret
        exact ⟨by first | rfl | (rw [HA.out hp]; rfl), bthen hb hb1⟩
    · have hk2 : E.length ≤ k := by omega
      have hn : E.any p = false := by have := hno.out; rwa [List.take_of_length_le hk2] at this
      go_wp2
      go_ret
      exact ⟨by first | rfl | (rw [idxOf_none hn]; rfl), hb⟩
theorem containsFn_any (F : FuncId) (caps : Array Value) (p : BitVec 32 → Bool) (A : Option Addr) (E : List (BitVec 32)) (c : Nat) (w : World) (hl : E.length ≤ 35184372087808) (hE : Rd w w.heap.size A (us E))
    (hF : ∀ args w, (callFunc F args).run Tryd.prog w = .ok (.enter F args) w)
    (hcall : ∀ (x : BitVec 32) (wr : World), Below w.heap.size w wr → Calls Tryd.prog F (#[.int .u32 (uz x)] ++ caps) wr fun e w' => e = .returned (.bool (p x)) ∧ Below wr.heap.size wr w') :
    Calls Tryd.prog 63 #[.slice A E.length c, .func (.func F) #[] caps] w fun e w' => e = .returned (.bool (E.any p)) ∧ Below w.heap.size w w' := by
  have HP := Lib.hid hcall
  clear hcall
  have hi := idxOf_nonneg p E
  generalize hx : idxOf p E = x at hi
  have HX := Lib.hid hx
  have HI := Lib.hid hi
  clear hx hi
  go_enter Tryd.func63, Tryd.ntmps63
  go_wp2_with fail
  refine (indexFn_any F caps p A E c _ hl hE hF HP.out).mono ?_
  rintro e w1 ⟨rfl, hb⟩
  simp only []
  rw [HX.out]
  go_wp2
  go_ret
  exact ⟨by rw [← HI.out]; rfl, hb⟩

theorem enter_ValidFn (args : Array Value) (w : World) : (callFunc 64 args).run Tryd.prog w = .ok (.enter 64 args) w := by
  go_simp

theorem valid_any (V : Int) (A : Option Addr) (E : List (BitVec 32)) (c : Nat) (w : World) (hl : E.length ≤ 35184372087808) (hE : Rd w w.heap.size A (us E)) :
    Calls Tryd.prog 44 #[.agg #[.int .i64 V, .slice A E.length c]] w fun e w' => e = .returned (.bool (validB V E)) ∧ Below w.heap.size w w' := by
  by_cases h0 : 0 ≤ V
  · by_cases h1 : V ≤ 30
    · by_cases h2 : E.length ≤ 7
      · have hv : validB V E = !E.any (outB V) := by simp [validB, h0, h1, h2]
        rw [hv]
        go_enter Tryd.func44, Tryd.ntmps44
        go_wp2_with fail
        have hb0 := below_alloc w (.cells #[.int .i64 V, .slice A E.length c] 61)
        refine (containsFn_any 64 #[.pointer (some ⟨w.heap.size, 0, none⟩)] (outB V) A E c _ hl (hE.later hb0) enter_ValidFn ?_).mono ?_
        · intro x wr hb
          exact validFn_any x V A E.length c w.heap.size wr h0 ((hb.cell (by simp)).trans (by simp [World.cell?_alloc_new])) ((hb.cell (by simp)).trans (by simp [World.cell?_alloc_new]))
        · rintro e w1 ⟨rfl, hb⟩
          go_wp2
          go_ret
          exact ⟨rfl, bthen hb0 hb⟩
      · have hv : validB V E = false := by simp [validB, h2]
        rw [hv]
        go_enter Tryd.func44, Tryd.ntmps44
        go_wp2
        go_ret
        exact ⟨rfl, below_alloc _ _⟩
    · have hv : validB V E = false := by simp [validB, h1]
      rw [hv]
      go_enter Tryd.func44, Tryd.ntmps44
      go_wp2
      go_ret
      exact ⟨rfl, below_alloc _ _⟩
  · have hv : validB V E = false := by simp [validB, h0]
    rw [hv]
    go_enter Tryd.func44, Tryd.ntmps44
    go_wp2
    go_ret
    exact ⟨rfl, below_alloc _ _⟩
end Go.Proofs.YtdemmjofggemhaaDoor

/- Rows that a call makes itself: made, copied into, stored into, appended to: the kit's laws in the form in which the walks of this claim use them. -/
namespace Go.Proofs.YtdemmjofggemhaaDoor
open Go.RowKit

/-- Block g is just these cells. -/
def Row (w : World) (g : Nat) (e : TypeId) (xs : List Value) : Prop := w.heap[g]? = some (.cells xs.toArray e (0, 0))
section
variable {w w' : World} {g : Nat} {e : TypeId} {xs : List Value} {B : Nat}
theorem Row.lt (h : Row w g e xs) : g < w.heap.size := by
  rcases Nat.lt_or_ge g w.heap.size with hlt | hge
  · exact hlt
  · unfold Row at h; rw [Array.getElem?_eq_none hge] at h; cases h
theorem Row.cell (h : Row w g e xs) (i : Nat) : w.cell? ⟨g, i, none⟩ = xs[i]? := by rw [cell_of_row w g i xs.toArray e (0, 0) h]; simp
theorem Row.frozen (h : Row w g e xs) (i : Nat) : w.frozen? ⟨g, i, none⟩ = false := frozen_of_row w g i xs.toArray e h
theorem Row.new (w : World) (e : TypeId) (xs : List Value) : Row (w.alloc (.cells xs.toArray e)) w.heap.size e xs := heap_alloc_new w _
theorem Row.new_ {w : World} {g : Nat} {e : TypeId} {xs : List Value} (h : w.heap.size = g) : Row (w.alloc (.cells xs.toArray e)) g e xs := by subst h; exact Row.new _ _ _
theorem Row.alloc (h : Row w g e xs) (o : Obj) : Row (w.alloc o) g e xs := (Below.heap_alloc w o g h.lt).trans h
theorem Row.drew (h : Row w g e xs) : Row w.drew g e xs := h
theorem Row.drewN (h : Row w g e xs) (n : Nat) : Row (w.drewN n) g e xs := h
theorem Row.set_ (h : Row w g e xs) (i : Nat) (u : Value) : Row (w.setCell ⟨g, i, none⟩ u) g e (xs.set i u) := by
  unfold Row at h ⊢
  simp [World.setCell, Array.getElem?_modify, h]
theorem Row.far (h : Row w g e xs) {p : Addr} (hp : g ≠ p.block) (u : Value) : Row (w.setCell p u) g e xs := (Below.heap_setCell w p u g hp).trans h
theorem Row.below (h : Row w g e xs) (hb : Below B w w') (hg : g < B) : Row w' g e xs := (hb.block g hg).trans h
theorem Row.later (h : Row w g e xs) (hb : Below w.heap.size w w') : Row w' g e xs := h.below hb h.lt
theorem Row.rd (h : Row w g e xs) : Rd w w.heap.size (some ⟨g, 0, none⟩) xs := fun k hk => ⟨_, rfl, h.lt, by
  rw [Addr.add_lit, Nat.zero_add, h.cell]; exact List.getElem?_eq_getElem hk⟩
theorem Row.own (h : Row w g e xs) {base : Nat} (hb : base ≤ g) (hl : xs.length ≤ maxLen) : w.ownsRow base e 1 (.slice (some ⟨g, 0, none⟩) xs.length xs.length) xs.length xs :=
  ⟨by simp, .inr ⟨g, xs.length, xs.toArray, rfl, hb, h, Nat.le_refl _, hl, by simp, by simp⟩⟩
end
theorem own_less {w : World} {base base' : Nat} {e : TypeId} {size : Nat} {v : Value} {n : Nat} {xs : List Value} (h : w.ownsRow base e size v n xs) (hb : base' ≤ base) : w.ownsRow base' e size v n xs := by
  refine ⟨h.1, h.2.imp id ?_⟩
  rintro ⟨g, cap, cur, hv, hg, r⟩
  exact ⟨g, cap, cur, hv, by omega, r⟩
theorem own_below {w w' : World} {base : Nat} {e : TypeId} {size : Nat} {v : Value} {n : Nat} {xs : List Value} (h : w.ownsRow base e size v n xs) (hb : Below w.heap.size w w') : w'.ownsRow base e size v n xs := by
  refine ⟨h.1, ?_⟩
  rcases h.2 with h2 | ⟨g, cap, cur, hv, hg, hh, r⟩
  · exact .inl h2
  · exact .inr ⟨g, cap, cur, hv, hg, (hb.block g (Array.getElem?_eq_some_iff.1 hh).1).trans hh, r⟩

/-- n times one value; a name that the walk does not open. -/
def zeros (z : Value) (n : Nat) : List Value := List.replicate n z
theorem zeros_length (z : Value) (n : Nat) : (zeros z n).length = n := by simp [zeros]
theorem madeCells_zeros (z : Value) (n : Nat) : madeCells #[z] n = (zeros z n).toArray := by
  apply Array.toList_inj.1
  rw [toList_madeCells_one]
  simp [zeros]

theorem Tryd.info_int : (Tryd.prog.info? 3).map (fun i => (i.zero, i.size, i.bytes)) = some (some (.int .i64 0), 1, 8) := by kernel_rfl
theorem Tryd.info_u32 : (Tryd.prog.info? 62).map (fun i => (i.zero, i.size, i.bytes)) = some (some (.int .u32 0), 1, 4) := by kernel_rfl

theorem mk_int (n : Nat) (h : n ≤ 35184372087808) (w : World) : (Instr.makeSlice 28 (.int .i64 (n : Int)) (.int .i64 (n : Int))).run Tryd.prog w = .ok (.slice (some ⟨w.heap.size, 0, none⟩) n n) (w.alloc (.cells (zeros (.int .i64 0) n).toArray 3)) := by
  rw [← madeCells_zeros]
  exact run_make_row' 28 3 (.int .i64 0) 8 Tryd.underlying28 Tryd.info_int rfl .i64 .i64 n (by omega) (by omega) w
section
variable {P : Program} {w : World} {ops : Array Oper} {rest : List Oper} {o : Oper} {a : Act} {Q : Exit → Act → World → Prop}
/-- A slice copied whole into a new row of the same length. -/
theorem wp_copy_whole (hgd : o.guard = none) (d s : Operand) (T : TypeId)
    (ho : o.op = .call { callee := .builtin .copy, args := #[d, s], argTypes := #[T, T] }) (e : TypeId) (hu : P.underlying T = some (.slice e)) (hsz : (P.info? e).map (·.size) = some 1)
    (z : Value) (n c : Nat) (A : Option Addr) (xs : List Value) (hn : xs.length = n) (g : Nat) (hd : a.eval d = .slice (some ⟨g, 0, none⟩) n n) (hs : a.eval s = .slice A n c)
    (hr : Row w g e (zeros z n)) (hx : Rd w w.heap.size A xs) (h1 : ∀ v ∈ xs, v.oneCell' = true) (B : Nat) (hB : B ≤ g)
    (h : ∀ w', Row w' g e xs → Below B w w' → wpList P ops Q rest (a.put o.dst (goInt xs.length)) w') : wpList P ops Q (o :: rest) a w := by
  refine wpList_copy_splice hgd d s T T ho e hu hsz (some ⟨g, 0, none⟩) A n n n c hd hs g 0 (zeros z n) e hr xs (by simp [hn]) ?_ (by rw [zeros_length]; omega) h1 B w (Below.refl _ _) hB ?_
  · intro h0
    refine ⟨rfl, ?_⟩
    obtain ⟨ad, hA, _, _⟩ := hx 0 h0
    refine ⟨ad, hA, fun j v hj => ?_⟩
    obtain ⟨hj', rfl⟩ := List.getElem?_eq_some_iff.1 hj
    obtain ⟨ad', hA', _, hc⟩ := hx j hj'
    rw [hA] at hA'
    injection hA' with hA'
    subst hA'
    exact hc
  · intro w' hw hb
    refine h w' ?_ hb
    have := hw.out
    have e1 : splice (zeros z n) 0 xs = xs := by simp [splice, zeros, hn]
    rw [e1] at this
    exact this
end

section
variable {wr : World} {ops : Array Oper} {rest : List Oper} {o : Oper} {a : Act} {Q : Exit → Act → World → Prop}
theorem app_one {T e : TypeId} {z : Value} {bytes : Nat} (hu : Tryd.prog.underlying T = some (.slice e)) (hinfo : (Tryd.prog.info? e).map (fun i => (i.zero, i.size, i.bytes)) = some (some z, 1, bytes)) (hz1 : z.cells.size = 1) (hby : bytes ≤ 8)
    (hgd : o.guard = none) (s x : Operand) (ho : o.op = .call { callee := .builtin .append, args := #[s, x], argTypes := #[T, T] })
    (base : Nat) (v : Value) (n : Nat) (xs : List Value) (u : Value) (hs : a.eval s = v) (hx : a.eval x = .slice (some ⟨wr.heap.size, 0, none⟩) 1 1) (hown : wr.ownsRow base e 1 v n xs)
    (h1 : u.oneCell' = true) (hn : n + 1 ≤ 17592186044416) (hbase : base ≤ wr.heap.size)
    (h : ∀ v' w', w'.ownsRow base e 1 v' (n + 1) (xs ++ [u]) → Below base wr w' → wpList Tryd.prog ops Q rest (a.put o.dst v') w') : wpList Tryd.prog ops Q (o :: rest) a (wr.alloc (.cells #[u] e)) := by
  obtain ⟨i, hi, hz, hs1, hb1⟩ := info_parts hinfo
  refine wpList_append_own_at _ hgd s x T ho base e i z 1 bytes hu hi hz hs1 hb1 hz1 (by decide) v n xs hs (hown.alloc _) ⟨wr.heap.size, 0, none⟩ 1 1 [u] hx rfl (cell_one_new _ _ _) (by simpa using h1) (by unfold maxLen; omega) ?_ (by simp; omega) ?_
  · have : (n + 1) * bytes ≤ 17592186044416 * 8 := Nat.mul_le_mul hn hby
    omega
  · intro v' w' hown' hg _ _
    refine h v' w' hown' (((Below.refl _ _).alloc hbase _).grown hg (by simp; omega) fun k hk => (hown.lt k hk).1)
theorem app_int (hgd : o.guard = none) (s x : Operand) (ho : o.op = .call { callee := .builtin .append, args := #[s, x], argTypes := #[28, 28] })
    (base : Nat) (v : Value) (n : Nat) (Z : List Int) (u : Int) (hs : a.eval s = v) (hx : a.eval x = .slice (some ⟨wr.heap.size, 0, none⟩) 1 1) (hown : wr.ownsRow base 3 1 v n (is Z))
    (hn : n + 1 ≤ 17592186044416) (hbase : base ≤ wr.heap.size)
    (h : ∀ v' w', w'.ownsRow base 3 1 v' (n + 1) (is (Z ++ [u])) → Below base wr w' → wpList Tryd.prog ops Q rest (a.put o.dst v') w') : wpList Tryd.prog ops Q (o :: rest) a (wr.alloc (.cells #[.int .i64 u] 3)) :=
  app_one Tryd.underlying28 Tryd.info_int rfl (by decide) hgd s x ho base v n (is Z) (.int .i64 u) hs hx hown rfl hn hbase fun v' w' h1 => h v' w' (by rw [is_snoc]; exact h1)
theorem app_u32 (hgd : o.guard = none) (s x : Operand) (ho : o.op = .call { callee := .builtin .append, args := #[s, x], argTypes := #[59, 59] })
    (base : Nat) (v : Value) (n : Nat) (E : List (BitVec 32)) (u : BitVec 32) (hs : a.eval s = v) (hx : a.eval x = .slice (some ⟨wr.heap.size, 0, none⟩) 1 1) (hown : wr.ownsRow base 62 1 v n (us E))
    (hn : n + 1 ≤ 17592186044416) (hbase : base ≤ wr.heap.size)
    (h : ∀ v' w', w'.ownsRow base 62 1 v' (n + 1) (us (E ++ [u])) → Below base wr w' → wpList Tryd.prog ops Q rest (a.put o.dst v') w') : wpList Tryd.prog ops Q (o :: rest) a (wr.alloc (.cells #[.int .u32 (uz u)] 62)) :=
  app_one Tryd.underlying59 Tryd.info_u32 rfl (by decide) hgd s x ho base v n (us E) (.int .u32 (uz u)) hs hx hown rfl hn hbase fun v' w' h1 => h v' w' (by rw [us_snoc]; exact h1)
end
end Go.Proofs.YtdemmjofggemhaaDoor

/- Contracts of hyper.near, hyper.Neighbours; the reference's Near, Valid, Copy, Same; SameInts, Ints. -/
namespace Go.Proofs.YtdemmjofggemhaaDoor
open Go.RowKit

attribute [local go_sem ↓] uz_and uz_or uz_andNot uz_and_one uz_shr uz_shl_one uz_shl uz_sub uz_sub_one uz_add uz_beq_zero uz_bne_zero uz_beq uz_bne uz_beq_one

def orAll (l : List (BitVec 32)) : BitVec 32 := l.foldl (· ||| ·) 0#32
/-- The vertices of the edges that have v. -/
def nearU (E : List (BitVec 32)) (v : Int) : BitVec 32 := orAll (E.filter fun e => inB e v)
def nearS (E : List (BitVec 32)) (v : Int) : BitVec 32 := nearU E v &&& ~~~(1#32 <<< v.toNat)

/-! ### The reference -/
end Go.Proofs.YtdemmjofggemhaaDoor

/- Contracts of the reference's Valid, Copy, Same, Neighbours; of SameInts, Ints. -/
namespace Go.Proofs.YtdemmjofggemhaaDoor
open Go.RowKit

attribute [local go_sem ↓] uz_and uz_or uz_andNot uz_and_one uz_shr uz_shl_one uz_shl uz_sub uz_sub_one uz_add uz_beq_zero uz_bne_zero uz_beq uz_bne uz_beq_one

/-! ### Valid -/
/-- No vertex from V on, below k, is in the edge. -/
def clean (V : Int) (x : BitVec 32) (k : Nat) : Prop := ∀ v : Nat, V ≤ v → v < k → inB x v = false
theorem outB_false_of {V : Int} {x : BitVec 32} (h0 : 0 ≤ V) (h1 : V ≤ 30) (h : clean V x 32) : outB V x = false := by
  unfold outB
  rw [bne_eq_false_iff_eq]
  apply BitVec.eq_of_getLsbD_eq
  intro i hi
  simp only [BitVec.getLsbD_and, BitVec.getLsbD_not, hi, decide_true, Bool.true_and, BitVec.getLsbD_zero, getLsbD_allOf V (by omega)]
  by_cases hc : V ≤ i
  · have := h i hc hi
    rw [inB_nat] at this
    simp [this]
  · simp [show i < V.toNat by omega]
/-! ### Copy, Ints -/
theorem Tryd.size_int : (Tryd.prog.info? 3).map (·.size) = some 1 := by kernel_rfl
theorem ints_any (A : Option Addr) (Z : List Int) (c : Nat) (w : World) (hl : Z.length ≤ 35184372087808) (hE : Rd w w.heap.size A (is Z)) :
    Calls Tryd.prog 32 #[.slice A Z.length c] w fun e w' => ∃ g, e = .returned (.slice (some ⟨g, 0, none⟩) Z.length Z.length) ∧ w.heap.size ≤ g ∧ Row w' g 3 (is Z) ∧ Below w.heap.size w w' := by
  have hmk := mk_int Z.length hl
  go_enter Tryd.func32, Tryd.ntmps32
  go_wp2_with ((with_reducible show wpList _ _ _ _ _ _); refine wp_copy_whole rfl (.tmp 7) (.tmp 8) 28 rfl 3 Tryd.underlying28 Tryd.size_int (.int .i64 0) Z.length c A (is Z) (is_length Z) _ rfl rfl ?_ ?_ (is_one Z) w.heap.size ?_ ?_)
  · exact Row.new_ (by simp)
  · exact hE.later (below_alloc w _)
  · omega
  · intro w1 hr hb
    go_wp2
    go_ret
    exact ⟨_, rfl, Nat.le_refl _, hr, (below_alloc w _).trans hb⟩

/-! ### SameInts, Same -/
theorem sameInts_any (A A' : Option Addr) (Z Y : List Int) (c c' : Nat) (w : World) (hl : Z.length ≤ 35184372087808) (hl' : Y.length ≤ 35184372087808) (hZ : Rd w w.heap.size A (is Z)) (hY : Rd w w.heap.size A' (is Y)) :
    Calls Tryd.prog 34 #[.slice A Z.length c, .slice A' Y.length c'] w fun e w' => e = .returned (.bool (Z == Y)) ∧ ∃ n, w' = w.drewN n := by
  by_cases hlen : Z.length = Y.length
  · have hne : ((Z.length : Int) != (Y.length : Int)) = false := by simp [hlen]
    have HL := Lib.hid hlen
    clear hlen
    go_enter Tryd.func34, Tryd.ntmps34
    go_wp2_with fail
    go_loopw [5] (fun i wr => ∃ k : Nat, k ≤ Z.length ∧ i = .int .i64 k ∧ Hid (Z.take k = Y.take k) ∧ ∃ n, wr = w.drewN n) (fun i _ => Z.length - (intOf i).toNat)
    case atStart => exact ⟨0, Nat.zero_le _, rfl, rfl, 0, rfl⟩
    case round =>
      obtain ⟨k, hk, rfl, heq, n, rfl⟩ := hrel
      by_cases hlt : k < Z.length
      · have hlt' : k < Y.length := by have := HL.out; omega
        obtain ⟨ad, hA, _, hc⟩ := hZ.i_at hlt
        obtain ⟨ad', hA', _, hc'⟩ := hY.i_at hlt'
        subst hA
        subst hA'
        have hs := take_snoc Z k hlt
        have hs' := take_snoc Y k hlt'
        have hat : Z = Y → Z[k] = Y[k] := fun h => by subst h; rfl
        generalize Z[k] = x at hc hs hat
        generalize Y[k] = y at hc' hs' hat
        have HS := Lib.hid hs
        have HS' := Lib.hid hs'
        have HA := Lib.hid hat
        clear hs hs' hat
        have b1 : (0 : Int) ≤ k := by omega
        have b2 : (k : Int) < Z.length := by omega
        have b3 : (k : Int) < Y.length := by omega
        by_cases hxy : x = y
        · have hne' : (x != y) = false := by simpa using hxy
          have HX := Lib.hid hxy
          clear hxy
          go_wp2_with fail
          go_quiet (fail)
          go_wp2_with fail
          go_roundw
          case rel => exact ⟨k + 1, by omega, by go_num, by show _ = _; rw [HS.out, HS'.out, heq.out, HX.out], _, rfl⟩
          case measure => simp [intOf]; omega
        · have hne' : (x != y) = true := by simpa using hxy
          have hf : (Z == Y) = false := by simpa using fun h => hxy (HA.out h)
          clear hxy
          go_wp2_with fail
          go_quiet (fail)
          go_wp2_with fail
          go_ret
          exact ⟨by first | rfl | (rw [hf]; rfl), _, by first | rfl | exact World.drewN_drewN _ _ _⟩
      · have hf : (Z == Y) = true := by
          have := heq.out
          rw [List.take_of_length_le (by omega), List.take_of_length_le (by have := HL.out; omega)] at this
          simpa using this
        go_wp2_with fail
        go_ret
        exact ⟨by first | rfl | (rw [hf]; rfl), _, rfl⟩
  · have hne : ((Z.length : Int) != (Y.length : Int)) = true := by simp; omega
    have hf : (Z == Y) = false := by simpa using fun h => hlen (congrArg List.length h)
    have HL := Lib.hid hlen
    clear hlen
    go_enter Tryd.func34, Tryd.ntmps34
    go_wp2_with fail
    go_ret
    exact ⟨by first | rfl | (rw [hf]; rfl), 0, rfl⟩
end Go.Proofs.YtdemmjofggemhaaDoor

/- The i-th edge; calls that leave the world as it is. -/
namespace Go.Proofs.YtdemmjofggemhaaDoor
open Go.RowKit

attribute [local go_sem ↓] uz_and uz_or uz_andNot uz_and_one uz_shr uz_shl_one uz_shl uz_sub uz_sub_one uz_add uz_beq_zero uz_bne_zero uz_beq uz_bne uz_beq_one

/-- The i-th edge. -/
def ed (E : List (BitVec 32)) (i : Nat) : BitVec 32 := E.getD i 0#32
theorem ed_eq (E : List (BitVec 32)) (i : Nat) (h : i < E.length) : E[i] = ed E i := by simp [ed, h]
theorem ed_mem (E : List (BitVec 32)) (i : Nat) (h : i < E.length) : ed E i ∈ E := by rw [← ed_eq E i h]; exact List.getElem_mem _
theorem mem_ed {E : List (BitVec 32)} {x : BitVec 32} (h : x ∈ E) : ∃ i, i < E.length ∧ ed E i = x := by
  obtain ⟨i, hi, rfl⟩ := List.getElem_of_mem h
  exact ⟨i, hi, (ed_eq E i hi).symm⟩
theorem Rd.e_at {w : World} {B : Nat} {A : Option Addr} {E : List (BitVec 32)} (h : Rd w B A (us E)) {k : Nat} (hk : k < E.length) :
    ∃ ad, A = some ad ∧ ad.block < B ∧ w.cell? (ad.add k) = some (.int .u32 (uz (ed E k))) := by
  rw [← ed_eq E k hk]; exact h.u_at hk
theorem pure_quiet {f : FuncId} {args : Array Value} {v : Value} (h : ∀ w, Calls Tryd.prog f args w fun e w' => e = .returned v ∧ w = w') {w : World} {n : Nat} :
    Calls Tryd.prog f args (w.drewN n) fun e w'' => e = .returned v ∧ ∃ m, w'' = w.drewN m :=
  (h _).mono fun _ _ ⟨he, hm⟩ => ⟨he, n, hm.symm⟩

end Go.Proofs.YtdemmjofggemhaaDoor

/- Lists of natural numbers in memory, and rows whose cells a function tells. -/
namespace Go.Proofs.YtdemmjofggemhaaDoor
open Go.RowKit

/-- n numbers, told by a function. -/
def rowOf (n : Nat) (f : Nat → Int) : List Int := (List.range n).map f
@[simp] theorem rowOf_length (n : Nat) (f : Nat → Int) : (rowOf n f).length = n := by simp [rowOf]
theorem rowOf_at (n : Nat) (f : Nat → Int) (k : Nat) (h : k < n) : (is (rowOf n f))[k]? = some (.int .i64 (f k)) := by
  simp [is, rowOf, h]
end Go.Proofs.YtdemmjofggemhaaDoor

/- Slices of structs in memory, whatever the struct: read cell by cell; one appended; blocks of another kind stay apart. -/
namespace Go.Proofs.YtdemmjofggemhaaDoor
open Go.RowKit

theorem Rd.of_ownS {w : World} {base size : Nat} {e : TypeId} {v : Value} {n : Nat} {xs : List Value} (h : w.ownsRow base e size v n xs) :
    ∃ A c, v = .slice A n c ∧ n ≤ c ∧ xs.length = n * size ∧ Rd w w.heap.size A xs ∧ (∀ ad, A = some ad → base ≤ ad.block) := by
  have hl := h.1
  rcases h.2 with ⟨rfl, rfl⟩ | ⟨g, cap, cur, rfl, hb, hg, hn, _⟩
  · exact ⟨none, 0, rfl, Nat.le_refl _, hl, fun k hk => absurd hk (by rw [hl]; simp), fun _ e => by cases e⟩
  · have hlt := (h.lt g (by simp [Value.ownBlock])).2
    exact ⟨some ⟨g, 0, none⟩, cap, rfl, hn, hl, fun k hk => ⟨_, rfl, hlt, h.cells (g := g) rfl k _ (List.getElem?_eq_getElem hk)⟩, fun ad e => by injection e with e; subst e; exact hb⟩

theorem flat_at {α : Type} {f : α → List Value} {m : Nat} (hf : ∀ x, (f x).length = m) : ∀ (l : List α) (k j : Nat) (hk : k < l.length), j < m → (l.flatMap f)[k * m + j]? = (f l[k])[j]?
  | a :: l, 0, j, hk, hj => by
    rw [List.flatMap_cons, List.getElem?_append_left (by rw [hf]; omega)]
    simp
  | a :: l, k + 1, j, hk, hj => by
    rw [List.flatMap_cons, List.getElem?_append_right (by rw [hf, Nat.add_mul]; omega), hf, show (k + 1) * m + j - m = k * m + j by rw [Nat.add_mul]; omega]
    exact flat_at hf l k j (by simpa using hk) hj
theorem Rd.flat {w : World} {B : Nat} {A : Option Addr} {α : Type} {f : α → List Value} {m : Nat} {l : List α} (hf : ∀ x, (f x).length = m) (h : Rd w B A (l.flatMap f)) {k : Nat} (hk : k < l.length) (hm : 0 < m) :
    ∃ ad, A = some ad ∧ ad.block < B ∧ ∀ j, j < m → w.cell? (ad.add (k * m + j)) = (f l[k])[j]? := by
  have hlen : (l.flatMap f).length = l.length * m := by
    clear hk h
    induction l with
    | nil => simp
    | cons a l ih => rw [List.flatMap_cons, List.length_append, ih, hf, List.length_cons, Nat.add_mul]; omega
  have hlt : ∀ j, j < m → k * m + j < (l.flatMap f).length := fun j hj => by
    rw [hlen]
    have : (k + 1) * m ≤ l.length * m := Nat.mul_le_mul_right m hk
    rw [Nat.add_mul] at this; omega
  obtain ⟨ad, e, hl, _⟩ := h (k * m + 0) (hlt 0 hm)
  refine ⟨ad, e, hl, fun j hj => ?_⟩
  obtain ⟨ad', e', _, hc⟩ := h (k * m + j) (hlt j hj)
  rw [e] at e'
  injection e' with e'
  subst e'
  rw [hc, ← flat_at hf l k j hk hj, List.getElem?_eq_getElem (hlt j hj)]
theorem add_off (a : Addr) (k j : Nat) : a.add (k + (j + 1)) = ⟨(a.add k).block, (a.add k).off + (j + 1), none⟩ := by
  rw [← Addr.add_add]; rfl
/-! ### Appending a struct -/
section
variable {wr : World} {ops : Array Oper} {rest : List Oper} {o : Oper} {a : Act} {Q : Exit → Act → World → Prop}
theorem app_row {T e : TypeId} {z : Value} {size bytes : Nat} (hu : Tryd.prog.underlying T = some (.slice e)) (hinfo : (Tryd.prog.info? e).map (fun i => (i.zero, i.size, i.bytes)) = some (some z, size, bytes)) (hz1 : z.cells.size = size) (hsz : 0 < size) (hby : bytes ≤ 64)
    (hgd : o.guard = none) (s x : Operand) (ho : o.op = .call { callee := .builtin .append, args := #[s, x], argTypes := #[T, T] })
    (base : Nat) (v : Value) (n : Nat) (xs : List Value) (cs : Array Value) (hs : a.eval s = v) (hx : a.eval x = .slice (some ⟨wr.heap.size, 0, none⟩) 1 1) (hown : wr.ownsRow base e size v n xs)
    (hl : cs.toList.length = size) (h1 : ∀ u ∈ cs.toList, u.oneCell' = true) (hn : n + 1 ≤ 2199023255552) (hbase : base ≤ wr.heap.size)
    (h : ∀ v' w', w'.ownsRow base e size v' (n + 1) (xs ++ cs.toList) → wr.grownBy w' v.ownBlock → Below base wr w' → (v'.ownBlock = v.ownBlock ∨ ∃ g, v'.ownBlock = some g ∧ wr.heap.size ≤ g) → wpList Tryd.prog ops Q rest (a.put o.dst v') w') : wpList Tryd.prog ops Q (o :: rest) a (wr.alloc (.cells cs e)) := by
  obtain ⟨i, hi, hz, hs1, hb1⟩ := info_parts hinfo
  refine wpList_append_own_at _ hgd s x T ho base e i z size bytes hu hi hz hs1 hb1 hz1 hsz v n xs hs (hown.alloc _) ⟨wr.heap.size, 0, none⟩ 1 1 cs.toList hx (by rw [hl]; omega) (World.news_of_block (heap_alloc_new wr _)) h1 (by unfold maxLen; omega) ?_ (by simp; omega) ?_
  · have : (n + 1) * bytes ≤ 2199023255552 * 64 := Nat.mul_le_mul hn hby
    omega
  · intro v' w' hown' hg _ hat
    have hb : Below base wr w' := ((Below.refl _ _).alloc hbase _).grown hg (by simp; omega) fun k hk => (hown.lt k hk).1
    refine h v' w' hown' ⟨hg.os, hg.tape, hg.output, by have := hg.size; simp at this; omega, fun k hk hne => (hg.block k (by simp; omega) hne).trans (Below.heap_alloc wr _ k hk)⟩ hb ?_
    rcases hat with e | e
    · exact .inl e
    · exact .inr ⟨_, e, by simp⟩
end

/-! ### Blocks of another kind stay apart -/
theorem own_row_ne {w : World} {base : Nat} {e t : TypeId} {size n g : Nat} {v : Value} {xs cs : List Value} (h : w.ownsRow base e size v n xs) (hg : Row w g t cs) (hne : e ≠ t) : v.ownBlock ≠ some g := by
  rcases h.2 with ⟨rfl, _⟩ | ⟨g', cap, cur, rfl, _, hh, _⟩
  · simp [Value.ownBlock]
  · intro he
    have : g' = g := by simpa [Value.ownBlock] using he
    subst this
    unfold Row at hg
    rw [hh] at hg
    injection hg with hg
    injection hg with _ ht
    exact hne ht
theorem own_grown {w w' : World} {base : Nat} {e : TypeId} {size : Nat} {v : Value} {n : Nat} {xs : List Value} {r : Option Nat} (h : w.ownsRow base e size v n xs) (hb : w.grownBy w' r) (hne : ∀ g, r = some g → v.ownBlock ≠ some g) : w'.ownsRow base e size v n xs := by
  refine ⟨h.1, ?_⟩
  rcases h.2 with h2 | ⟨g, cap, cur, hv, hg, hh, r⟩
  · exact .inl h2
  · subst hv
    refine .inr ⟨g, cap, cur, rfl, hg, (hb.block g (Array.getElem?_eq_some_iff.1 hh).1 fun e => hne g e.symm (by simp [Value.ownBlock])).trans hh, r⟩
theorem Row.grown {w w' : World} {g : Nat} {e : TypeId} {xs : List Value} {r : Option Nat} (h : Row w g e xs) (hb : w.grownBy w' r) (hne : r ≠ some g) : Row w' g e xs := (hb.block g h.lt (fun e => hne e.symm)).trans h
end Go.Proofs.YtdemmjofggemhaaDoor

/- The contract of math/bits.TrailingZeros32 over its table. -/
namespace Go.Proofs.YtdemmjofggemhaaDoor
open Go.RowKit

attribute [local go_sem ↓] uz_and uz_or uz_andNot uz_and_one uz_shr uz_shl_one uz_shl uz_sub uz_sub_one uz_add uz_beq_zero uz_bne_zero uz_beq uz_bne uz_beq_one

/-! ### TrailingZeros32 -/
/-- The table that it reads. -/
def Tab (w : World) : Prop := ∀ k, k < 32 → w.cell? ⟨0, k, none⟩ = some (.int .u8 (Lib.deBruijn32tab.getD k 0 : Nat))
theorem Tab.later {w w' : World} (h : Tab w) (hb : Below w.heap.size w w') : Tab w' := fun k hk => by
  have h0 := h k hk
  rw [hb.cell (p := ⟨0, k, none⟩) (World.block_lt_of_cell? w _ h0)]
  exact h0
theorem uz_neg (x : BitVec 32) : IntKind.u32.wrap (-uz x) = uz (-x) := by
  rw [IntKind.wrap_u32]; unfold uz; rw [BitVec.toNat_neg]
  have := x.isLt; omega
/-- The place in the table. -/
def tzAt (x : BitVec 32) : Nat := 2 ^ ctz x * 125613361 % 4294967296 / 134217728
theorem tzAt_eq (x : BitVec 32) (h0 : x ≠ 0#32) : uz (x &&& -x) * 125613361 % 4294967296 / 134217728 = ((tzAt x : Nat) : Int) := by
  have hx0 : x.toNat ≠ 0 := fun h => h0 (BitVec.eq_of_toNat_eq (by simpa using h))
  have h1 := (Lib.lowest_bit 32 x.toNat hx0 x.isLt).1
  unfold tzAt uz ctz
  rw [BitVec.toNat_and, BitVec.toNat_neg, Nat.mod_eq_of_lt (by have := x.isLt; omega), h1]
  generalize 2 ^ Lib.ctz 32 x.toNat = q
  omega
theorem tz_zero (w : World) : Calls Tryd.prog 41 #[.int .u32 (uz 0#32)] w fun e w' => e = .returned (.int .i64 32) ∧ w = w' := by
  go_enter Tryd.func41, Tryd.ntmps41
  go_wp2
  go_ret
  exact ⟨rfl, rfl⟩
theorem tz_walk (x : BitVec 32) (m k : Nat) (w : World) (hk : k < 32) (hn0 : (x == 0#32) = false) (hm : uz (x &&& -x) * 125613361 % 4294967296 / 134217728 = (m : Int)) (h3 : m < 32)
    (hc : w.cell? ⟨0, m, none⟩ = some (.int .u8 (k : Nat))) : Calls Tryd.prog 41 #[.int .u32 (uz x)] w fun e w' => e = .returned (.int .i64 k) ∧ w = w' := by
  have ha := uz_neg x
  go_enter Tryd.func41, Tryd.ntmps41
  go_wp2
  go_ret
  exact ⟨rfl, rfl⟩
theorem tz_any (x : BitVec 32) (w : World) (hT : Tab w) :
    Calls Tryd.prog 41 #[.int .u32 (uz x)] w fun e w' => e = .returned (.int .i64 (ctz x)) ∧ w = w' := by
  by_cases h0 : x = 0#32
  · subst h0
    have hz : ctz 0#32 = 32 := rfl
    rw [hz]
    exact tz_zero w
  · have h2 := ctz_lt x h0
    obtain ⟨h3, h4⟩ := Lib.deBruijn32_at _ h2
    have hc := hT _ h3
    rw [h4] at hc
    exact tz_walk x (tzAt x) (ctz x) w h2 (by simpa using h0) (tzAt_eq x h0) h3 hc
end Go.Proofs.YtdemmjofggemhaaDoor
