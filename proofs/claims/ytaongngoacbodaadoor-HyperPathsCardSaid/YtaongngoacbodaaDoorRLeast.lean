/- The reference's lists: what less and Least answer; a row of slices. -/
import Derived.Test.YtaongngoacbodaaDoorPathLaw3
import Derived.Deep.DeepCutAuto
import Derived.Deep.LoopGhost
import Derived.Deep.CutBlock
import Derived.Deep.CutRange
namespace Go.Proofs.YtaongngoacbodaaDoor
open Go.RowKit

attribute [local go_sem ↓] uz_and uz_or uz_andNot uz_and_one uz_shr uz_shl_one uz_shl uz_sub uz_sub_one uz_add uz_beq_zero uz_bne_zero uz_beq uz_bne uz_beq_one

/-- The values of natural numbers. -/
def ns (Z : List Nat) : List Value := is (Z.map Int.ofNat)
@[simp] theorem ns_length (Z : List Nat) : (ns Z).length = Z.length := by simp [ns]
theorem Rd.n_at {w : World} {B : Nat} {A : Option Addr} {Z : List Nat} (h : Rd w B A (ns Z)) {k : Nat} (hk : k < Z.length) :
    ∃ ad, A = some ad ∧ ad.block < B ∧ w.cell? (ad.add k) = some (.int .i64 ((Z[k] : Nat) : Int)) := by
  obtain ⟨ad, e, hl, hc⟩ := h.i_at (by simpa using hk : k < (Z.map Int.ofNat).length)
  refine ⟨ad, e, hl, hc.trans ?_⟩
  rw [List.getElem_map]; rfl
theorem lexLt_from : ∀ (a b : List Nat) (k : Nat) (ha : k < a.length) (hb : k < b.length), a.take k = b.take k → a[k] ≠ b[k] → lexLt a b = decide (a[k] < b[k])
  | x :: a, y :: b, 0, _, _, _, hne => by
    have : x ≠ y := hne
    simp [lexLt, this]
  | x :: a, y :: b, k + 1, ha, hb, ht, hne => by
    simp only [List.take_succ_cons, List.cons.injEq] at ht
    unfold lexLt
    rw [if_pos ht.1]
    simpa using lexLt_from a b k (by simpa using ha) (by simpa using hb) ht.2 (by simpa using hne)

theorem less_any (A A' : Option Addr) (Z Y : List Nat) (c c' : Nat) (w : World) (hl : Z.length ≤ 35184372087808) (hl' : Y.length ≤ 35184372087808) (hZ : Rd w w.heap.size A (ns Z)) (hY : Rd w w.heap.size A' (ns Y)) :
    Calls Tryd.prog 54 #[.slice A Z.length c, .slice A' Y.length c'] w fun e w' => e = .returned (.bool (lessL Z Y)) ∧ ∃ n, w' = w.drewN n := by
  by_cases hlen : Z.length = Y.length
  · have hne : ((Z.length : Int) != (Y.length : Int)) = false := by simp [hlen]
    have hlx : lessL Z Y = lexLt Z Y := by rw [lessL, if_pos hlen]
    rw [hlx]
    have HL := Lib.hid hlen
    clear hlen hlx
    go_enter Tryd.func54, Tryd.ntmps54
    go_wp2_with fail
    go_loopw [5] (fun i wr => ∃ k : Nat, k ≤ Z.length ∧ i = .int .i64 k ∧ Hid (Z.take k = Y.take k) ∧ ∃ n, wr = w.drewN n) (fun i _ => Z.length - (intOf i).toNat)
    case atStart => exact ⟨0, Nat.zero_le _, rfl, rfl, 0, rfl⟩
    case round =>
      obtain ⟨k, hk, rfl, heq, n, rfl⟩ := hrel
      by_cases hlt : k < Z.length
      · have hlt' : k < Y.length := by have := HL.out; omega
        obtain ⟨ad, hA, _, hc⟩ := hZ.n_at hlt
        obtain ⟨ad', hA', _, hc'⟩ := hY.n_at hlt'
        subst hA
        subst hA'
        have hs := take_snoc Z k hlt
        have hs' := take_snoc Y k hlt'
        have hat : Z[k] ≠ Y[k] → lexLt Z Y = decide (Z[k] < Y[k]) := fun h => lexLt_from Z Y k hlt hlt' heq.out h
        generalize Z[k] = x at hc hs hat
        generalize Y[k] = y at hc' hs' hat
        have HS := Lib.hid hs
        have HS' := Lib.hid hs'
        have HA := Lib.hid hat
        clear hs hs' hat
        have b1 : (0 : Int) ≤ k := by omega
        have b2 : (k : Int) < Z.length := by omega
        have b3 : (k : Int) < Y.length := by omega
        by_cases hxy : x = y
        · have hne' : ((x : Int) != (y : Int)) = false := by simp [hxy]
          have HX := Lib.hid hxy
          clear hxy
          go_wp2_with fail
          go_quiet (fail)
          go_wp2_with fail
          go_roundw
          case rel => exact ⟨k + 1, by omega, by go_num, by show _ = _; rw [HS.out, HS'.out, heq.out, HX.out], _, rfl⟩
          case measure => simp [intOf]; omega
        · have hne' : ((x : Int) != (y : Int)) = true := by simp; omega
          have hf := HA.out hxy
          clear hxy
          go_wp2_with fail
          go_quiet (fail)
          go_wp2_with fail
          go_quiet (fail)
          go_wp2_with fail
          go_ret
          refine ⟨?_, _, by rw [World.drewN_drewN, World.drewN_drewN]⟩
          rw [hf]
          refine congrArg (fun b => Ending.returned (.bool b)) ?_
          first | rfl | (rw [Bool.eq_iff_iff]; simp)
      · have hZY : Z = Y := by
          have := heq.out
          rw [List.take_of_length_le (by omega), List.take_of_length_le (by have := HL.out; omega)] at this
          exact this
        have hf : lexLt Z Y = false := by rw [hZY]; exact lexLt_irrefl _
        clear hZY
        go_wp2_with fail
        go_ret
        exact ⟨by first | rfl | (rw [hf]; rfl), _, rfl⟩
  · have hne : ((Z.length : Int) != (Y.length : Int)) = true := by simp; omega
    have hf : lessL Z Y = decide (Z.length < Y.length) := by rw [lessL, if_neg hlen]
    rw [hf]
    clear hlen hf
    go_enter Tryd.func54, Tryd.ntmps54
    go_wp2_with fail
    go_ret
    refine ⟨?_, 0, rfl⟩
    refine congrArg (fun b => Ending.returned (.bool b)) ?_
    first | rfl | (rw [Bool.eq_iff_iff]; simp)

/-- Least, the second list not empty: it says which it gives. -/
theorem least_any (A A' : Option Addr) (Z Y : List Nat) (c c' : Nat) (w : World) (hl : Z.length ≤ 35184372087808) (hl' : Y.length ≤ 35184372087808) (hZ : Rd w w.heap.size A (ns Z)) (hY : Rd w w.heap.size A' (ns Y)) (hne : 0 < Y.length) :
    Calls Tryd.prog 39 #[.slice A Z.length c, .slice A' Y.length c'] w fun e w' => ∃ (A1 : Option Addr) (c1 : Nat), e = .returned (.slice A1 (leastL Z Y).length c1) ∧ ((A1 = A ∧ leastL Z Y = Z) ∨ (A1 = A' ∧ leastL Z Y = Y)) ∧ ∃ n, w' = w.drewN n := by
  have hY0 : Y ≠ [] := fun e => by subst e; simp at hne
  by_cases h0 : Z.length = 0
  · have hZ0 : Z = [] := List.length_eq_zero_iff.1 h0
    have hL : leastL Z Y = Y := by rw [leastL, if_pos (.inl hZ0)]
    rw [hL]
    have h0' : ((Z.length : Int) == 0) = true := by simp [h0]
    clear h0 hZ0 hL hY0
    go_enter Tryd.func39, Tryd.ntmps39
    go_wp2_with fail
    go_ret
    exact ⟨A', c', rfl, by simp, 0, rfl⟩
  · have hZ0 : Z ≠ [] := fun e => h0 (by rw [e]; rfl)
    have h0' : ((Z.length : Int) == 0) = false := by simpa using hZ0
    have hlt0 : (0 : Int) < Y.length := by omega
    cases hb : lessL Y Z
    · have hL : leastL Z Y = Z := by exact if_neg (fun h => h.elim (fun h => hZ0 h) (fun h => by rw [hb] at h; cases h.2))
      rw [hL]
      clear h0 hZ0 hL hY0
      go_enter Tryd.func39, Tryd.ntmps39
      go_wp2_with fail
      refine (less_any A' A Y Z c' c w hl' hl hY hZ).mono ?_
      rintro e w1 ⟨rfl, n, rfl⟩
      rw [hb]
      go_wp2
      go_ret
      exact ⟨A, c, rfl, by simp, n, rfl⟩
    · have hL : leastL Z Y = Y := by rw [leastL, if_pos (.inr ⟨hY0, hb⟩)]
      rw [hL]
      clear h0 hZ0 hL hY0
      go_enter Tryd.func39, Tryd.ntmps39
      go_wp2_with fail
      refine (less_any A' A Y Z c' c w hl' hl hY hZ).mono ?_
      rintro e w1 ⟨rfl, n, rfl⟩
      rw [hb]
      go_wp2
      go_ret
      exact ⟨A', c', rfl, by simp, n, rfl⟩

/-! ### A row of lists -/
/-- Block g holds V slices: the v-th's cells, which lie elsewhere, hold the list b v; none is longer than L. -/
structure Grid (w : World) (g : Nat) (V : Nat) (b : Nat → List Nat) (L : Nat) : Prop where
  row : ∃ S : List Value, S.length = V ∧ Row w g 31 S ∧ ∀ v, v < V → ∃ A c, S[v]? = some (.slice A (b v).length c) ∧ Rd w w.heap.size A (ns (b v)) ∧ ∀ ad, A = some ad → ad.block ≠ g
  len : ∀ v, (b v).length ≤ L
theorem Grid.at_ {w : World} {g V L : Nat} {b : Nat → List Nat} (h : Grid w g V b L) {v : Nat} (hv : v < V) :
    ∃ A c, w.cell? ⟨g, v, none⟩ = some (.slice A (b v).length c) ∧ w.frozen? ⟨g, v, none⟩ = false ∧ Rd w w.heap.size A (ns (b v)) ∧ ∀ ad, A = some ad → ad.block ≠ g := by
  obtain ⟨S, hS, hR, hA⟩ := h.row
  obtain ⟨A, c, h1, h2, h3⟩ := hA v hv
  exact ⟨A, c, (hR.cell v).trans h1, hR.frozen v, h2, h3⟩
theorem Grid.later {w w' : World} {g V L : Nat} {b : Nat → List Nat} (h : Grid w g V b L) (hb : Below w.heap.size w w') : Grid w' g V b L := by
  obtain ⟨S, hS, hR, hA⟩ := h.row
  exact ⟨⟨S, hS, hR.later hb, fun v hv => by
    obtain ⟨A, c, h1, h2, h3⟩ := hA v hv
    exact ⟨A, c, h1, h2.later hb, h3⟩⟩, h.len⟩
theorem Grid.lt {w : World} {g V L : Nat} {b : Nat → List Nat} (h : Grid w g V b L) : g < w.heap.size := by
  obtain ⟨S, _, hR, _⟩ := h.row
  exact hR.lt
theorem Grid.mono {w : World} {g V L L' : Nat} {b : Nat → List Nat} (h : Grid w g V b L) (hL : L ≤ L') : Grid w g V b L' := ⟨h.row, fun v => Nat.le_trans (h.len v) hL⟩
/-- One list more, stored at v. -/
theorem Grid.set_ {w : World} {g V L : Nat} {b : Nat → List Nat} (h : Grid w g V b L) {v : Nat} (hv : v < V) {A : Option Addr} {c : Nat} {x : List Nat} (hx : Rd w w.heap.size A (ns x)) (hn : ∀ ad, A = some ad → ad.block ≠ g) {L' : Nat} (hL : L ≤ L') (hl : x.length ≤ L') :
    Grid (w.setCell ⟨g, v, none⟩ (.slice A x.length c)) g V (upd b v x) L' := by
  obtain ⟨S, hS, hR, hA⟩ := h.row
  have far : ∀ (A : Option Addr) (ys : List Value), Rd w w.heap.size A ys → (∀ ad, A = some ad → ad.block ≠ g) → Rd (w.setCell ⟨g, v, none⟩ (.slice A x.length c)) (w.setCell ⟨g, v, none⟩ (.slice A x.length c)).heap.size A ys := fun A ys hr hg k hk => by
    obtain ⟨ad, e, hl, hc⟩ := hr k hk
    refine ⟨ad, e, by simpa using hl, ?_⟩
    rw [World.cell?_of_block (Below.heap_setCell w ⟨g, v, none⟩ _ (ad.add k).block (by rw [block_add]; exact hg ad e))]
    exact hc
  have far' : ∀ (u : Value) (A : Option Addr) (ys : List Value), Rd w w.heap.size A ys → (∀ ad, A = some ad → ad.block ≠ g) → Rd (w.setCell ⟨g, v, none⟩ u) (w.setCell ⟨g, v, none⟩ u).heap.size A ys := fun u A ys hr hg k hk => by
    obtain ⟨ad, e, hl, hc⟩ := hr k hk
    refine ⟨ad, e, by simpa using hl, ?_⟩
    rw [World.cell?_of_block (Below.heap_setCell w ⟨g, v, none⟩ _ (ad.add k).block (by rw [block_add]; exact hg ad e))]
    exact hc
  clear far
  refine ⟨⟨S.set v (.slice A x.length c), by simpa using hS, hR.set_ v _, fun u hu => ?_⟩, fun u => ?_⟩
  · by_cases e : u = v
    · subst e
      refine ⟨A, c, ?_, ?_, hn⟩
      · simp [upd, hS, hu]
      · simp only [upd, if_true]
        exact far' _ A _ hx hn
    · obtain ⟨A1, c1, h1, h2, h3⟩ := hA u hu
      refine ⟨A1, c1, ?_, ?_, h3⟩
      · rw [List.getElem?_set_ne (Ne.symm e)]; simpa [upd, e] using h1
      · simp only [upd, if_neg e]; exact far' _ A1 _ h2 h3
  · unfold upd
    split
    · exact hl
    · exact Nat.le_trans (h.len u) hL
theorem Tryd.info_ints : (Tryd.prog.info? 31).map (fun i => (i.zero, i.size, i.bytes)) = some (some (.slice none 0 0), 1, 24) := by kernel_rfl
theorem mk_lists (n : Nat) (h : n ≤ 1000) (w : World) : (Instr.makeSlice 71 (.int .i64 (n : Int)) (.int .i64 (n : Int))).run Tryd.prog w = .ok (.slice (some ⟨w.heap.size, 0, none⟩) n n) (w.alloc (.cells (zeros (.slice none 0 0) n).toArray 31)) := by
  rw [← madeCells_zeros]
  exact run_make_row' 71 31 (.slice none 0 0) 24 Tryd.underlying71 Tryd.info_ints rfl .i64 .i64 n (by omega) (by omega) w
theorem Grid.new (w : World) (V : Nat) : Grid (w.alloc (.cells (zeros (.slice none 0 0) V).toArray 31)) w.heap.size V (fun _ => []) 0 := by
  refine ⟨⟨zeros (.slice none 0 0) V, zeros_length _ _, Row.new _ _ _, fun v hv => ⟨none, 0, ?_, Rd.nil, fun ad e => by cases e⟩⟩, fun _ => Nat.le_refl _⟩
  simp [zeros, hv]
theorem Grid.of_eq {w : World} {g V L : Nat} {b b' : Nat → List Nat} (h : Grid w g V b L) (he : b = b') : Grid w g V b' L := he ▸ h
end Go.Proofs.YtaongngoacbodaaDoor
