/- Rows that a call makes itself: made, copied into, stored into, appended to: the kit's laws in the form in which the walks of this claim use them. -/
import Derived.Test.YtaongngoacbodaaDoorLeaf
import Derived.Deep.OwnRows
import Derived.Laws.CopyOwn
namespace Go.Proofs.YtaongngoacbodaaDoor
open Go.RowKit

/-- Block g is just these cells. -/
def Row (w : World) (g : Nat) (e : TypeId) (xs : List Value) : Prop := w.heap[g]? = some (.cells xs.toArray e (0, 0))
section
variable {w w' : World} {g : Nat} {e : TypeId} {xs : List Value} {B : Nat}
theorem Row.lt (h : Row w g e xs) : g < w.heap.size := by
  rcases Nat.lt_or_ge g w.heap.size with hlt | hge
  · exact hlt
  · unfold Row at h; rw [Array.getElem?_eq_none hge] at h; cases h
theorem Row.cell (h : Row w g e xs) (i : Nat) : w.cell? ⟨g, i, none⟩ = xs[i]? := by rw [cell_of_row w g i xs.toArray e (0, 0) h]; simp
theorem Row.frozen (h : Row w g e xs) (i : Nat) : w.frozen? ⟨g, i, none⟩ = false := frozen_of_row w g i xs.toArray e h
theorem Row.new (w : World) (e : TypeId) (xs : List Value) : Row (w.alloc (.cells xs.toArray e)) w.heap.size e xs := heap_alloc_new w _
theorem Row.new_ {w : World} {g : Nat} {e : TypeId} {xs : List Value} (h : w.heap.size = g) : Row (w.alloc (.cells xs.toArray e)) g e xs := by subst h; exact Row.new _ _ _
theorem Row.alloc (h : Row w g e xs) (o : Obj) : Row (w.alloc o) g e xs := (Below.heap_alloc w o g h.lt).trans h
theorem Row.drew (h : Row w g e xs) : Row w.drew g e xs := h
theorem Row.drewN (h : Row w g e xs) (n : Nat) : Row (w.drewN n) g e xs := h
theorem Row.set_ (h : Row w g e xs) (i : Nat) (u : Value) : Row (w.setCell ⟨g, i, none⟩ u) g e (xs.set i u) := by
  unfold Row at h ⊢
  simp [World.setCell, Array.getElem?_modify, h]
theorem Row.far (h : Row w g e xs) {p : Addr} (hp : g ≠ p.block) (u : Value) : Row (w.setCell p u) g e xs := (Below.heap_setCell w p u g hp).trans h
theorem Row.below (h : Row w g e xs) (hb : Below B w w') (hg : g < B) : Row w' g e xs := (hb.block g hg).trans h
theorem Row.later (h : Row w g e xs) (hb : Below w.heap.size w w') : Row w' g e xs := h.below hb h.lt
theorem Row.rd (h : Row w g e xs) : Rd w w.heap.size (some ⟨g, 0, none⟩) xs := fun k hk => ⟨_, rfl, h.lt, by
  rw [Addr.add_lit, Nat.zero_add, h.cell]; exact List.getElem?_eq_getElem hk⟩
theorem Row.own (h : Row w g e xs) {base : Nat} (hb : base ≤ g) (hl : xs.length ≤ maxLen) : w.ownsRow base e 1 (.slice (some ⟨g, 0, none⟩) xs.length xs.length) xs.length xs :=
  ⟨by simp, .inr ⟨g, xs.length, xs.toArray, rfl, hb, h, Nat.le_refl _, hl, by simp, by simp⟩⟩
end
theorem own_less {w : World} {base base' : Nat} {e : TypeId} {size : Nat} {v : Value} {n : Nat} {xs : List Value} (h : w.ownsRow base e size v n xs) (hb : base' ≤ base) : w.ownsRow base' e size v n xs := by
  refine ⟨h.1, h.2.imp id ?_⟩
  rintro ⟨g, cap, cur, hv, hg, r⟩
  exact ⟨g, cap, cur, hv, by omega, r⟩
theorem own_below {w w' : World} {base : Nat} {e : TypeId} {size : Nat} {v : Value} {n : Nat} {xs : List Value} (h : w.ownsRow base e size v n xs) (hb : Below w.heap.size w w') : w'.ownsRow base e size v n xs := by
  refine ⟨h.1, ?_⟩
  rcases h.2 with h2 | ⟨g, cap, cur, hv, hg, hh, r⟩
  · exact .inl h2
  · exact .inr ⟨g, cap, cur, hv, hg, (hb.block g (Array.getElem?_eq_some_iff.1 hh).1).trans hh, r⟩

/-- n times one value; a name that the walk does not open. -/
def zeros (z : Value) (n : Nat) : List Value := List.replicate n z
theorem zeros_length (z : Value) (n : Nat) : (zeros z n).length = n := by simp [zeros]
theorem madeCells_zeros (z : Value) (n : Nat) : madeCells #[z] n = (zeros z n).toArray := by
  apply Array.toList_inj.1
  rw [toList_madeCells_one]
  simp [zeros]

theorem Tryd.info_int : (Tryd.prog.info? 3).map (fun i => (i.zero, i.size, i.bytes)) = some (some (.int .i64 0), 1, 8) := by kernel_rfl
theorem Tryd.info_u32 : (Tryd.prog.info? 28).map (fun i => (i.zero, i.size, i.bytes)) = some (some (.int .u32 0), 1, 4) := by kernel_rfl

theorem mk_int (n : Nat) (h : n ≤ 35184372087808) (w : World) : (Instr.makeSlice 31 (.int .i64 (n : Int)) (.int .i64 (n : Int))).run Tryd.prog w = .ok (.slice (some ⟨w.heap.size, 0, none⟩) n n) (w.alloc (.cells (zeros (.int .i64 0) n).toArray 3)) := by
  rw [← madeCells_zeros]
  exact run_make_row' 31 3 (.int .i64 0) 8 Tryd.underlying31 Tryd.info_int rfl .i64 .i64 n (by omega) (by omega) w
theorem mk_u32 (n : Nat) (h : n ≤ 35184372087808) (w : World) : (Instr.makeSlice 22 (.int .i64 (n : Int)) (.int .i64 (n : Int))).run Tryd.prog w = .ok (.slice (some ⟨w.heap.size, 0, none⟩) n n) (w.alloc (.cells (zeros (.int .u32 0) n).toArray 28)) := by
  rw [← madeCells_zeros]
  exact run_make_row' 22 28 (.int .u32 0) 4 Tryd.underlying22 Tryd.info_u32 rfl .i64 .i64 n (by omega) (by omega) w

section
variable {P : Program} {w : World} {ops : Array Oper} {rest : List Oper} {o : Oper} {a : Act} {Q : Exit → Act → World → Prop}
/-- A slice copied whole into a new row of the same length. -/
theorem wp_copy_whole (hgd : o.guard = none) (d s : Operand) (T : TypeId)
    (ho : o.op = .call { callee := .builtin .copy, args := #[d, s], argTypes := #[T, T] }) (e : TypeId) (hu : P.underlying T = some (.slice e)) (hsz : (P.info? e).map (·.size) = some 1)
    (z : Value) (n c : Nat) (A : Option Addr) (xs : List Value) (hn : xs.length = n) (g : Nat) (hd : a.eval d = .slice (some ⟨g, 0, none⟩) n n) (hs : a.eval s = .slice A n c)
    (hr : Row w g e (zeros z n)) (hx : Rd w w.heap.size A xs) (h1 : ∀ v ∈ xs, v.oneCell' = true) (B : Nat) (hB : B ≤ g)
    (h : ∀ w', Row w' g e xs → Below B w w' → wpList P ops Q rest (a.put o.dst (goInt xs.length)) w') : wpList P ops Q (o :: rest) a w := by
  refine wpList_copy_splice hgd d s T T ho e hu hsz (some ⟨g, 0, none⟩) A n n n c hd hs g 0 (zeros z n) e hr xs (by simp [hn]) ?_ (by rw [zeros_length]; omega) h1 B w (Below.refl _ _) hB ?_
  · intro h0
    refine ⟨rfl, ?_⟩
    obtain ⟨ad, hA, _, _⟩ := hx 0 h0
    refine ⟨ad, hA, fun j v hj => ?_⟩
    obtain ⟨hj', rfl⟩ := List.getElem?_eq_some_iff.1 hj
    obtain ⟨ad', hA', _, hc⟩ := hx j hj'
    rw [hA] at hA'
    injection hA' with hA'
    subst hA'
    exact hc
  · intro w' hw hb
    refine h w' ?_ hb
    have := hw.out
    have e1 : splice (zeros z n) 0 xs = xs := by simp [splice, zeros, hn]
    rw [e1] at this
    exact this
end

section
variable {wr : World} {ops : Array Oper} {rest : List Oper} {o : Oper} {a : Act} {Q : Exit → Act → World → Prop}
theorem app_one {T e : TypeId} {z : Value} {bytes : Nat} (hu : Tryd.prog.underlying T = some (.slice e)) (hinfo : (Tryd.prog.info? e).map (fun i => (i.zero, i.size, i.bytes)) = some (some z, 1, bytes)) (hz1 : z.cells.size = 1) (hby : bytes ≤ 8)
    (hgd : o.guard = none) (s x : Operand) (ho : o.op = .call { callee := .builtin .append, args := #[s, x], argTypes := #[T, T] })
    (base : Nat) (v : Value) (n : Nat) (xs : List Value) (u : Value) (hs : a.eval s = v) (hx : a.eval x = .slice (some ⟨wr.heap.size, 0, none⟩) 1 1) (hown : wr.ownsRow base e 1 v n xs)
    (h1 : u.oneCell' = true) (hn : n + 1 ≤ 17592186044416) (hbase : base ≤ wr.heap.size)
    (h : ∀ v' w', w'.ownsRow base e 1 v' (n + 1) (xs ++ [u]) → Below base wr w' → wpList Tryd.prog ops Q rest (a.put o.dst v') w') : wpList Tryd.prog ops Q (o :: rest) a (wr.alloc (.cells #[u] e)) := by
  obtain ⟨i, hi, hz, hs1, hb1⟩ := info_parts hinfo
  refine wpList_append_own_at _ hgd s x T ho base e i z 1 bytes hu hi hz hs1 hb1 hz1 (by decide) v n xs hs (hown.alloc _) ⟨wr.heap.size, 0, none⟩ 1 1 [u] hx rfl (cell_one_new _ _ _) (by simpa using h1) (by unfold maxLen; omega) ?_ (by simp; omega) ?_
  · have : (n + 1) * bytes ≤ 17592186044416 * 8 := Nat.mul_le_mul hn hby
    omega
  · intro v' w' hown' hg _ _
    refine h v' w' hown' (((Below.refl _ _).alloc hbase _).grown hg (by simp; omega) fun k hk => (hown.lt k hk).1)
theorem app_int (hgd : o.guard = none) (s x : Operand) (ho : o.op = .call { callee := .builtin .append, args := #[s, x], argTypes := #[31, 31] })
    (base : Nat) (v : Value) (n : Nat) (Z : List Int) (u : Int) (hs : a.eval s = v) (hx : a.eval x = .slice (some ⟨wr.heap.size, 0, none⟩) 1 1) (hown : wr.ownsRow base 3 1 v n (is Z))
    (hn : n + 1 ≤ 17592186044416) (hbase : base ≤ wr.heap.size)
    (h : ∀ v' w', w'.ownsRow base 3 1 v' (n + 1) (is (Z ++ [u])) → Below base wr w' → wpList Tryd.prog ops Q rest (a.put o.dst v') w') : wpList Tryd.prog ops Q (o :: rest) a (wr.alloc (.cells #[.int .i64 u] 3)) :=
  app_one Tryd.underlying31 Tryd.info_int rfl (by decide) hgd s x ho base v n (is Z) (.int .i64 u) hs hx hown rfl hn hbase fun v' w' h1 => h v' w' (by rw [is_snoc]; exact h1)
theorem app_u32 (hgd : o.guard = none) (s x : Operand) (ho : o.op = .call { callee := .builtin .append, args := #[s, x], argTypes := #[22, 22] })
    (base : Nat) (v : Value) (n : Nat) (E : List (BitVec 32)) (u : BitVec 32) (hs : a.eval s = v) (hx : a.eval x = .slice (some ⟨wr.heap.size, 0, none⟩) 1 1) (hown : wr.ownsRow base 28 1 v n (us E))
    (hn : n + 1 ≤ 17592186044416) (hbase : base ≤ wr.heap.size)
    (h : ∀ v' w', w'.ownsRow base 28 1 v' (n + 1) (us (E ++ [u])) → Below base wr w' → wpList Tryd.prog ops Q rest (a.put o.dst v') w') : wpList Tryd.prog ops Q (o :: rest) a (wr.alloc (.cells #[.int .u32 (uz u)] 28)) :=
  app_one Tryd.underlying22 Tryd.info_u32 rfl (by decide) hgd s x ho base v n (us E) (.int .u32 (uz u)) hs hx hown rfl hn hbase fun v' w' h1 => h v' w' (by rw [us_snoc]; exact h1)
end
end Go.Proofs.YtaongngoacbodaaDoor
