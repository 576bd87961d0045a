/- Several texts in one: JtW1 JtW4 JtW5 JtW6 JtW7 JtW8. -/
import Derived.Test.YtbgbjodehbcgiaaDoorBA
import Derived.Test.YtbgbjodehbcgiaaDoorBB
import Derived.Deep.RegionWith
import Derived.Deep.DrawnRows
import Derived.Deep.QuietTactic
import Derived.StillTailTactics
/- The contracts of jointree.IsTree and jointree.Check. -/
namespace Go.Proofs.YtbgbjodehbcgiaaDoor
open Go.RowKit

attribute [local go_sem ↓] uz_and uz_or uz_andNot uz_and_one uz_shr uz_shl_one uz_shl uz_sub uz_sub_one uz_add uz_beq_zero uz_bne_zero uz_beq uz_bne uz_beq_one

theorem Rd.p_at {w : World} {B : Nat} {A : Option Addr} {P : List Int} (h : Rd w B A (is P)) {k : Nat} (hk : k < P.length) :
    ∃ ad, A = some ad ∧ ad.block < B ∧ w.cell? (ad.add k) = some (.int .i64 (pz P k)) := by
  rw [← pz_eq P k hk]; exact h.i_at hk
theorem treeB_long {P : List Int} (h : 7 < P.length) : treeB P = false := by
  unfold treeB; rw [decide_eq_false (by omega)]; rfl
theorem treeB_rng {P : List Int} {k : Nat} (hk : k < P.length) (h : pz P k < -1 ∨ (P.length : Int) ≤ pz P k) : treeB P = false := by
  cases hb : treeB P
  · rfl
  · have := ((treeB_iff P).1 hb).2.rng k hk; omega
theorem treeB_up {P : List Int} {k : Nat} (hk : k < P.length) (h : up (pz P) P.length (k : Int) ≠ -1) : treeB P = false := by
  cases hb : treeB P
  · rfl
  · exact absurd (((treeB_iff P).1 hb).2.reach k hk) h
/-- The first k parents are in range, and lead to the root. -/
def okTo (P : List Int) (k : Nat) : Prop := ∀ i : Nat, i < k → rngB P.length (pz P i) = true ∧ up (pz P) P.length (i : Int) = -1
theorem okTo_next {P : List Int} {k : Nat} (h : okTo P k) (h1 : -1 ≤ pz P k) (h2 : pz P k < P.length) (h3 : up (pz P) P.length (k : Int) = -1) : okTo P (k + 1) := fun i hi => by
  rcases Nat.lt_or_ge i k with c | c
  · exact h i c
  · obtain rfl : i = k := by omega
    exact ⟨by unfold rngB; simp [h1, h2], h3⟩
theorem okTo_all {P : List Int} (h : okTo P P.length) (h7 : P.length ≤ 7) : treeB P = (cntB (fun i => pz P i == -1) P.length == min 1 P.length) := by
  unfold treeB
  have h1 : ((List.range P.length).all fun i => rngB P.length (pz P i)) = true := by
    rw [List.all_eq_true]; intro i hi; exact (h i (List.mem_range.1 hi)).1
  have h2 : ((List.range P.length).all fun (i : Nat) => up (pz P) P.length (i : Int) == -1) = true := by
    rw [List.all_eq_true]; intro i hi; simpa using (h i (List.mem_range.1 hi)).2
  rw [decide_eq_true h7, h1, h2]; simp
theorem cntB_t {p : Nat → Bool} {k : Nat} (h : p k = true) : cntB p (k + 1) = cntB p k + 1 := by show _ + _ = _; rw [h]; rfl
theorem cntB_f {p : Nat → Bool} {k : Nat} (h : p k = false) : cntB p (k + 1) = cntB p k := by show _ + _ = _; rw [h]; rfl

end Go.Proofs.YtbgbjodehbcgiaaDoor

/- The contracts of osierref16.IsTree and reached. -/
namespace Go.Proofs.YtbgbjodehbcgiaaDoor
open Go.RowKit

attribute [local go_sem ↓] uz_and uz_or uz_andNot uz_and_one uz_shr uz_shl_one uz_shl uz_sub uz_sub_one uz_add uz_beq_zero uz_bne_zero uz_beq uz_bne uz_beq_one

/-- n truth values, told by a function. -/
def bls (n : Nat) (b : Nat → Bool) : List Value := (List.range n).map fun i => .bool (b i)
theorem bls_length (n : Nat) (b : Nat → Bool) : (bls n b).length = n := by simp [bls]
theorem bls_at (n : Nat) (b : Nat → Bool) (k : Nat) (h : k < n) : (bls n b)[k]? = some (.bool (b k)) := by simp [bls, h]
theorem bls_set (n : Nat) (b : Nat → Bool) (k : Nat) (x : Bool) : (bls n b).set k (.bool x) = bls n (updT b k x) := by
  unfold bls
  apply List.ext_getElem?
  intro i
  rw [List.getElem?_set, List.getElem?_map, List.getElem?_map]
  by_cases h : k = i
  · subst h
    by_cases h2 : k < n <;> simp [h2, updT]
  · rw [if_neg h]
    by_cases h2 : i < n <;> simp [h2, updT, Ne.symm h]

theorem zeros_bls (n : Nat) : zeros (.bool false) n = bls n fun _ => false := by
  unfold zeros bls
  apply List.ext_getElem?
  intro i
  by_cases h : i < n <;> simp [h]
theorem Tryd.info_bool : (Tryd.prog.info? 4).map (fun i => (i.zero, i.size, i.bytes)) = some (some (.bool false), 1, 1) := by kernel_rfl
end Go.Proofs.YtbgbjodehbcgiaaDoor

/- The contracts of osierref16.way, has, Between. -/
namespace Go.Proofs.YtbgbjodehbcgiaaDoor
open Go.RowKit

theorem nat_snoc (l : List Nat) (k : Nat) : (l ++ [k]).map Int.ofNat = l.map Int.ofNat ++ [(k : Int)] := by simp
/-- Does it stand in the list? -/
def hasB (l : List Nat) (x : Nat) : Bool := l.contains x
/-- The first of a's first k that stands in b; -1 if none does. -/
def meetTo (a b : List Nat) (k : Nat) : Int := meetOf (a.take k) b
theorem meetOf_lo (a b : List Nat) : -1 ≤ meetOf a b := by unfold meetOf; split <;> omega
theorem meetTo_next {a b : List Nat} {k : Nat} (hk : k < a.length) : meetTo a b (k + 1) = if meetTo a b k < 0 ∧ hasB b (zed a k) = true then (zed a k : Int) else meetTo a b k := by
  unfold meetTo meetOf hasB
  rw [take_snoc a k hk, zed_eq a k hk, List.find?_append]
  cases h : (a.take k).find? fun x => b.contains x with
  | none =>
    by_cases c : zed a k ∈ b
    · simp [c]
    · simp [c]
  | some y => simp; omega
theorem takeWhile_at {a : List Nat} {m k : Nat} (h : ∀ x ∈ a.take k, x ≠ m) (hk : k < a.length) (hm : zed a k = m) : a.takeWhile (fun x => x != m) = a.take k := by
  induction a generalizing k with
  | nil => simp at hk
  | cons x a ih =>
    cases k with
    | zero =>
      have : x = m := by simpa [zed] using hm
      simp [this]
    | succ k =>
      have hx : x ≠ m := h x (by simp)
      rw [List.takeWhile_cons, if_pos (by simpa using hx), List.take_succ_cons, ih (k := k) (fun y hy => h y (by simp [hy])) (by simpa using hk) (by simpa [zed] using hm)]

end Go.Proofs.YtbgbjodehbcgiaaDoor

/- The contract of osierref16.Check. -/
namespace Go.Proofs.YtbgbjodehbcgiaaDoor
open Go.RowKit

attribute [local go_sem ↓] uz_and uz_or uz_andNot uz_and_one uz_shr uz_shl_one uz_shl uz_sub uz_sub_one uz_add uz_beq_zero uz_bne_zero uz_beq uz_bne uz_beq_one

/-- The first k between i and j have what the two have in common. -/
def btwTo (E : List (BitVec 32)) (p : Nat → Int) (i j k : Nat) : Prop := ∀ m, m ∈ (betweenL (way E.length p i) (way E.length p j)).take k → subB (ed E i &&& ed E j) (ed E m) = true
def jTo (E : List (BitVec 32)) (p : Nat → Int) (i j : Nat) : Prop := ∀ j', j' < j → betwB E p i j' = true
def iTo (E : List (BitVec 32)) (p : Nat → Int) (i : Nat) : Prop := ∀ i', i' < i → jTo E p i' i'
theorem iTo_all {E : List (BitVec 32)} {p : Nat → Int} (h : iTo E p E.length) : allBetw E p = true := by
  unfold allBetw
  rw [List.all_eq_true]; intro i hi
  rw [List.all_eq_true]; intro j hj
  exact h i (List.mem_range.1 hi) j (List.mem_range.1 hj)
theorem allBetw_false {E : List (BitVec 32)} {p : Nat → Int} {i j m : Nat} (hi : i < E.length) (hj : j < i) (hm : m ∈ betweenL (way E.length p i) (way E.length p j)) (h : subB (ed E i &&& ed E j) (ed E m) = false) : allBetw E p = false := by
  cases hb : allBetw E p
  · rfl
  · unfold allBetw betwB at hb
    simp only [List.all_eq_true, List.mem_range] at hb
    rw [hb i hi j hj m hm] at h; cases h
theorem below_step {P : Nat → Prop} {k : Nat} (h : ∀ b, b < k → P b) (hk : P k) : ∀ b, b < k + 1 → P b := fun b hb => by
  rcases Nat.lt_or_ge b k with c | c
  · exact h b c
  · obtain rfl : b = k := by omega
    exact hk

end Go.Proofs.YtbgbjodehbcgiaaDoor

/- The contracts of osierref14.Size, osierref15.SameSets, jointree.Keys, osierref16.Keys. -/
namespace Go.Proofs.YtbgbjodehbcgiaaDoor
open Go.RowKit

attribute [local go_sem ↓] uz_and uz_or uz_andNot uz_and_one uz_shr uz_shl_one uz_shl uz_sub uz_sub_one uz_add uz_beq_zero uz_bne_zero uz_beq uz_bne uz_beq_one

end Go.Proofs.YtbgbjodehbcgiaaDoor

/- The contracts of jointree.Keys and osierref16.Keys. -/
namespace Go.Proofs.YtbgbjodehbcgiaaDoor
open Go.RowKit

attribute [local go_sem ↓] uz_and uz_or uz_andNot uz_and_one uz_shr uz_shl_one uz_shl uz_sub uz_sub_one uz_add uz_beq_zero uz_bne_zero uz_beq uz_bne uz_beq_one

/-- n words, told by a function. -/
def wrow (n : Nat) (f : Nat → BitVec 32) : List (BitVec 32) := (List.range n).map f
@[simp] theorem wrow_length (n : Nat) (f : Nat → BitVec 32) : (wrow n f).length = n := by simp [wrow]
theorem wrow_set (n : Nat) (f : Nat → BitVec 32) (k : Nat) (x : BitVec 32) : (us (wrow n f)).set k (.int .u32 (uz x)) = us (wrow n (updS f k x)) := by
  unfold us wrow
  rw [List.map_map, List.map_map]
  apply List.ext_getElem?
  intro i
  rw [List.getElem?_set, List.getElem?_map, List.getElem?_map]
  by_cases h : k = i
  · subst h
    by_cases h2 : k < n <;> simp [h2, updS]
  · rw [if_neg h]
    by_cases h2 : i < n <;> simp [h2, updS, Ne.symm h]
theorem zeros_wrow (n : Nat) : zeros (.int .u32 0) n = us (wrow n fun _ => 0#32) := by
  unfold zeros us wrow
  rw [List.map_map]
  apply List.ext_getElem?
  intro i
  by_cases h : i < n <;> simp [h, uz]

/-- What edge i has in common with its parent. -/
def keyAt (E : List (BitVec 32)) (p : Nat → Int) (i : Nat) : BitVec 32 := if 0 ≤ p i then ed E i &&& ed E (p i).toNat else 0#32
def keyTo (E : List (BitVec 32)) (p : Nat → Int) (k i : Nat) : BitVec 32 := if i < k then keyAt E p i else 0#32
def keyL (E : List (BitVec 32)) (p : Nat → Int) (n : Nat) : List (BitVec 32) := wrow n (keyAt E p)
theorem keyTo_zero (E : List (BitVec 32)) (p : Nat → Int) : keyTo E p 0 = fun _ => 0#32 := by funext i; simp [keyTo]
theorem keyTo_all (E : List (BitVec 32)) (p : Nat → Int) (n : Nat) : wrow n (keyTo E p n) = keyL E p n := by
  unfold keyL wrow
  apply List.map_congr_left
  intro i hi
  simp [keyTo, List.mem_range.1 hi]
theorem keyTo_neg {E : List (BitVec 32)} {p : Nat → Int} {k : Nat} (h : p k < 0) : keyTo E p (k + 1) = keyTo E p k := by
  funext i
  unfold keyTo
  by_cases h1 : i = k
  · subst h1
    have : ¬ 0 ≤ p i := by omega
    simp [keyAt, this]
  · by_cases h2 : i < k
    · simp [h2, Nat.lt_succ_of_lt h2]
    · have : ¬ i < k + 1 := by omega
      simp [h2, this]
theorem keyTo_pos {E : List (BitVec 32)} {p : Nat → Int} {k q : Nat} (h : p k = (q : Int)) : updS (keyTo E p k) k (ed E k &&& ed E q) = keyTo E p (k + 1) := by
  funext i
  unfold keyTo updS
  by_cases h1 : i = k
  · subst h1
    simp [keyAt, h]
  · by_cases h2 : i < k
    · simp [h1, h2, Nat.lt_succ_of_lt h2]
    · have : ¬ i < k + 1 := by omega
      simp [h1, h2, this]

/-- What Keys answers. -/
def keysB (V : Int) (E : List (BitVec 32)) (P : List Int) : List (BitVec 32) := if validB V E = true ∧ checkB V E P = true then keyL E (pz P) P.length else []
def keysC (V : Int) (E : List (BitVec 32)) (P : List Int) : Int := if validB V E = true then if checkB V E P = true then 0 else 160 else 140

theorem check_tree {V : Int} {E : List (BitVec 32)} {P : List Int} (h : checkB V E P = true) : P.length = E.length ∧ treeB P = true ∧ E.length ≤ 7 := by
  unfold checkB at h
  simp only [Bool.and_eq_true, beq_iff_eq] at h
  exact ⟨h.1.1.2, h.1.2, (validB_of h.1.1.1).2.2.1⟩

end Go.Proofs.YtbgbjodehbcgiaaDoor
