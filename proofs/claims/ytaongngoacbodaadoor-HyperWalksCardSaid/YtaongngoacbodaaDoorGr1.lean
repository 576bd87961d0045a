/- Contracts of hyper.all, hyper.Valid (with slices.ContainsFunc, slices.IndexFunc over words), hyper.near, hyper.Neighbours; the reference's Valid, Near, Neighbours, Copy, Same. -/
import Derived.Test.YtaongngoacbodaaDoorLeaf
namespace Go.Proofs.YtaongngoacbodaaDoor
open Go.RowKit

attribute [local go_sem ↓] uz_and uz_or uz_andNot uz_and_one uz_shr uz_shl_one uz_shl uz_sub uz_sub_one uz_add uz_beq_zero uz_bne_zero uz_beq uz_bne uz_beq_one

/-- Does the edge stick out of the vertices? -/
def outB (V : Int) (e : BitVec 32) : Bool := e &&& ~~~allOf V != 0#32
/-- Is it a valid graph? -/
def validB (V : Int) (E : List (BitVec 32)) : Bool := decide (0 ≤ V) && decide (V ≤ 30) && decide (E.length ≤ 7) && !E.any (outB V)
theorem validB_of {V : Int} {E : List (BitVec 32)} (h : validB V E = true) : 0 ≤ V ∧ V ≤ 30 ∧ E.length ≤ 7 ∧ E.any (outB V) = false := by
  simp only [validB, Bool.and_eq_true, decide_eq_true_eq, Bool.not_eq_true'] at h
  exact ⟨h.1.1.1, h.1.1.2, h.1.2, h.2⟩

theorem all_any (V : Int) (A : Option Addr) (n c : Nat) (w : World) (h0 : 0 ≤ V) :
    Calls Tryd.prog 36 #[.agg #[.int .i64 V, .slice A n c]] w fun e w' => e = .returned (.int .u32 (uz (allOf V))) ∧ Below w.heap.size w w' := by
  go_enter Tryd.func36, Tryd.ntmps36
  go_wp2
  go_ret
  exact ⟨rfl, below_alloc _ _⟩

theorem validFn_any (x : BitVec 32) (V : Int) (A : Option Addr) (n c b : Nat) (w : World) (h0 : 0 ≤ V) (h1 : w.cell? ⟨b, 0, none⟩ = some (.int .i64 V)) (h2 : w.cell? ⟨b, 1, none⟩ = some (.slice A n c)) :
    Calls Tryd.prog 35 #[.int .u32 (uz x), .pointer (some ⟨b, 0, none⟩)] w fun e w' => e = .returned (.bool (outB V x)) ∧ Below w.heap.size w w' := by
  go_enter Tryd.func35, Tryd.ntmps35
  go_wp2_with fail
  refine (all_any V A n c _ h0).mono ?_
  rintro e w1 ⟨rfl, hb⟩
  go_wp2
  go_ret
  exact ⟨rfl, hb⟩

/-- The place of the first that has the property; -1 if none. -/
def idxOf {α : Type} (p : α → Bool) (E : List α) : Int := match E.findIdx? p with | some i => i | none => -1
theorem idxOf_none {α : Type} {p : α → Bool} {E : List α} (h : E.any p = false) : idxOf p E = -1 := by
  unfold idxOf
  rw [List.findIdx?_eq_none_iff.2 (fun x hx => by simpa using List.any_eq_false.1 h x hx)]
theorem idxOf_at {α : Type} {p : α → Bool} {E : List α} {k : Nat} (hk : k < E.length) (h : (E.take k).any p = false) (hp : p E[k] = true) : idxOf p E = k := by
  unfold idxOf
  have : E.findIdx? p = some k := by
    rw [List.findIdx?_eq_some_iff_getElem]
    refine ⟨hk, hp, fun j hj => ?_⟩
    have := List.any_eq_false.1 h E[j] (List.mem_take_iff_getElem.2 ⟨j, by omega, rfl⟩)
    simpa using this
  rw [this]
theorem idxOf_nonneg {α : Type} (p : α → Bool) (E : List α) : (decide (0 ≤ idxOf p E)) = E.any p := by
  unfold idxOf
  cases h : E.findIdx? p with
  | none =>
    have : E.any p = false := by
      rw [List.any_eq_false]
      intro x hx
      have := List.findIdx?_eq_none_iff.1 h x hx
      simpa using this
    rw [this]; rfl
  | some i =>
    have hi := List.findIdx?_eq_some_iff_getElem.1 h
    have : E.any p = true := by
      rw [List.any_eq_true]
      obtain ⟨h1, h2, _⟩ := hi
      exact ⟨E[i], List.getElem_mem h1, h2⟩
    rw [this]; simp
theorem any_snoc {α : Type} (l : List α) (x : α) (p : α → Bool) : (l ++ [x]).any p = (l.any p || p x) := by simp

theorem indexFn_any (F : FuncId) (caps : Array Value) (p : BitVec 32 → Bool) (A : Option Addr) (E : List (BitVec 32)) (c : Nat) (w : World) (hl : E.length ≤ 35184372087808) (hE : Rd w w.heap.size A (us E))
    (hF : ∀ args w, (callFunc F args).run Tryd.prog w = .ok (.enter F args) w)
    (hcall : ∀ (x : BitVec 32) (wr : World), Below w.heap.size w wr → Calls Tryd.prog F (#[.int .u32 (uz x)] ++ caps) wr fun e w' => e = .returned (.bool (p x)) ∧ Below wr.heap.size wr w') :
    Calls Tryd.prog 53 #[.slice A E.length c, .func (.func F) #[] caps] w fun e w' => e = .returned (.int .i64 (idxOf p E)) ∧ Below w.heap.size w w' := by
  go_enter Tryd.func53, Tryd.ntmps53
  go_wp2_with fail
  go_loopw [5, 8] (fun _ i wr => ∃ k : Nat, k ≤ E.length ∧ i = .int .i64 k ∧ Hid ((E.take k).any p = false) ∧ Below w.heap.size w wr) (fun _ i _ => E.length - (intOf i).toNat)
  case atStart => exact ⟨0, Nat.zero_le _, rfl, rfl, Below.refl _ _⟩
  case round =>
    obtain ⟨k, hk, rfl, hno, hb⟩ := hrel
    by_cases hlt : k < E.length
    · obtain ⟨ad, hA, _, hc⟩ := (hE.below hb).u_at hlt
      subst hA
      have hs := take_snoc E k hlt
      have hat : p E[k] = true → idxOf p E = k := fun h => idxOf_at hlt hno.out h
      generalize E[k] = x at hc hs hat
      have HS := Lib.hid hs
      have HA := Lib.hid hat
      clear hs hat
      cases hp : p x
      · go_wp2_with fail
        refine (hcall x _ hb).mono ?_
        rintro e w1 ⟨rfl, hb1⟩
        go_wp2
        go_roundw
        case rel =>
          refine ⟨k + 1, by omega, by go_num, ?_, bthen hb hb1⟩
          show _ = _
          rw [HS.out, any_snoc, hno.out, hp]; rfl
        case measure => simp [intOf]; omega
      · go_wp2_with fail
        refine (hcall x _ hb).mono ?_
        rintro e w1 ⟨rfl, hb1⟩
        go_wp2
        go_ret
        exact ⟨by first | rfl | (rw [HA.out hp]; rfl), bthen hb hb1⟩
    · have hk2 : E.length ≤ k := by omega
      have hn : E.any p = false := by have := hno.out; rwa [List.take_of_length_le hk2] at this
      go_wp2
      go_ret
      exact ⟨by first | rfl | (rw [idxOf_none hn]; rfl), hb⟩
theorem containsFn_any (F : FuncId) (caps : Array Value) (p : BitVec 32 → Bool) (A : Option Addr) (E : List (BitVec 32)) (c : Nat) (w : World) (hl : E.length ≤ 35184372087808) (hE : Rd w w.heap.size A (us E))
    (hF : ∀ args w, (callFunc F args).run Tryd.prog w = .ok (.enter F args) w)
    (hcall : ∀ (x : BitVec 32) (wr : World), Below w.heap.size w wr → Calls Tryd.prog F (#[.int .u32 (uz x)] ++ caps) wr fun e w' => e = .returned (.bool (p x)) ∧ Below wr.heap.size wr w') :
    Calls Tryd.prog 34 #[.slice A E.length c, .func (.func F) #[] caps] w fun e w' => e = .returned (.bool (E.any p)) ∧ Below w.heap.size w w' := by
  have HP := Lib.hid hcall
  clear hcall
  have hi := idxOf_nonneg p E
  generalize hx : idxOf p E = x at hi
  have HX := Lib.hid hx
  have HI := Lib.hid hi
  clear hx hi
  go_enter Tryd.func34, Tryd.ntmps34
  go_wp2_with fail
  refine (indexFn_any F caps p A E c _ hl hE hF HP.out).mono ?_
  rintro e w1 ⟨rfl, hb⟩
  simp only []
  rw [HX.out]
  go_wp2
  go_ret
  exact ⟨by rw [← HI.out]; rfl, hb⟩

theorem enter_ValidFn (args : Array Value) (w : World) : (callFunc 35 args).run Tryd.prog w = .ok (.enter 35 args) w := by
  go_simp

theorem valid_any (V : Int) (A : Option Addr) (E : List (BitVec 32)) (c : Nat) (w : World) (hl : E.length ≤ 35184372087808) (hE : Rd w w.heap.size A (us E)) :
    Calls Tryd.prog 12 #[.agg #[.int .i64 V, .slice A E.length c]] w fun e w' => e = .returned (.bool (validB V E)) ∧ Below w.heap.size w w' := by
  by_cases h0 : 0 ≤ V
  · by_cases h1 : V ≤ 30
    · by_cases h2 : E.length ≤ 7
      · have hv : validB V E = !E.any (outB V) := by simp [validB, h0, h1, h2]
        rw [hv]
        go_enter Tryd.func12, Tryd.ntmps12
        go_wp2_with fail
        have hb0 := below_alloc w (.cells #[.int .i64 V, .slice A E.length c] 24)
        refine (containsFn_any 35 #[.pointer (some ⟨w.heap.size, 0, none⟩)] (outB V) A E c _ hl (hE.later hb0) enter_ValidFn ?_).mono ?_
        · intro x wr hb
          exact validFn_any x V A E.length c w.heap.size wr h0 ((hb.cell (by simp)).trans (by simp [World.cell?_alloc_new])) ((hb.cell (by simp)).trans (by simp [World.cell?_alloc_new]))
        · rintro e w1 ⟨rfl, hb⟩
          go_wp2
          go_ret
          exact ⟨rfl, bthen hb0 hb⟩
      · have hv : validB V E = false := by simp [validB, h2]
        rw [hv]
        go_enter Tryd.func12, Tryd.ntmps12
        go_wp2
        go_ret
        exact ⟨rfl, below_alloc _ _⟩
    · have hv : validB V E = false := by simp [validB, h1]
      rw [hv]
      go_enter Tryd.func12, Tryd.ntmps12
      go_wp2
      go_ret
      exact ⟨rfl, below_alloc _ _⟩
  · have hv : validB V E = false := by simp [validB, h0]
    rw [hv]
    go_enter Tryd.func12, Tryd.ntmps12
    go_wp2
    go_ret
    exact ⟨rfl, below_alloc _ _⟩
end Go.Proofs.YtaongngoacbodaaDoor
