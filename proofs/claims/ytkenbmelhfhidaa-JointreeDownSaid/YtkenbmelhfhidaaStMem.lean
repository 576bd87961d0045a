/- Slices of structs: steps and edges that are left, as lists; appending one. -/
import Derived.Test.YtkenbmelhfhidaaEars4
import Derived.Deep.AppendLies
namespace Go.Proofs.Ytkenbmelhfhidaa
open Go.RowKit

theorem Rd.of_ownS {w : World} {base size : Nat} {e : TypeId} {v : Value} {n : Nat} {xs : List Value} (h : w.ownsRow base e size v n xs) :
    ∃ A c, v = .slice A n c ∧ n ≤ c ∧ xs.length = n * size ∧ Rd w w.heap.size A xs ∧ (∀ ad, A = some ad → base ≤ ad.block) := by
  have hl := h.1
  rcases h.2 with ⟨rfl, rfl⟩ | ⟨g, cap, cur, rfl, hb, hg, hn, _⟩
  · exact ⟨none, 0, rfl, Nat.le_refl _, hl, fun k hk => absurd hk (by rw [hl]; simp), fun _ e => by cases e⟩
  · have hlt := (h.lt g (by simp [Value.ownBlock])).2
    exact ⟨some ⟨g, 0, none⟩, cap, rfl, hn, hl, fun k hk => ⟨_, rfl, hlt, h.cells (g := g) rfl k _ (List.getElem?_eq_getElem hk)⟩, fun ad e => by injection e with e; subst e; exact hb⟩

/-! ### Steps, edges left -/
def stC (s : Stp) : List Value := [.int .i64 s.kind, .int .i64 s.edge, .int .i64 s.into, .int .u32 (uz s.cut)]
def sts (ss : List Stp) : List Value := ss.flatMap stC
def lfC (x : Nat × BitVec 32) : List Value := [.int .i64 (x.1 : Nat), .int .u32 (uz x.2)]
def lfs (L : Lt) : List Value := L.flatMap lfC
theorem sts_snoc (ss : List Stp) (s : Stp) : sts (ss ++ [s]) = sts ss ++ stC s := by simp [sts]
theorem lfs_snoc (L : Lt) (x : Nat × BitVec 32) : lfs (L ++ [x]) = lfs L ++ lfC x := by simp [lfs]
theorem sts_length (ss : List Stp) : (sts ss).length = ss.length * 4 := by
  induction ss with
  | nil => rfl
  | cons s ss ih => show (stC s ++ sts ss).length = _; rw [List.length_append, ih]; simp [stC]; omega
theorem lfs_length (L : Lt) : (lfs L).length = L.length * 2 := by
  induction L with
  | nil => rfl
  | cons s ss ih => show (lfC s ++ lfs ss).length = _; rw [List.length_append, ih]; simp [lfC]; omega
theorem flat_at {α : Type} {f : α → List Value} {m : Nat} (hf : ∀ x, (f x).length = m) : ∀ (l : List α) (k j : Nat) (hk : k < l.length), j < m → (l.flatMap f)[k * m + j]? = (f l[k])[j]?
  | a :: l, 0, j, hk, hj => by
    rw [List.flatMap_cons, List.getElem?_append_left (by rw [hf]; omega)]
    simp
  | a :: l, k + 1, j, hk, hj => by
    rw [List.flatMap_cons, List.getElem?_append_right (by rw [hf, Nat.add_mul]; omega), hf, show (k + 1) * m + j - m = k * m + j by rw [Nat.add_mul]; omega]
    exact flat_at hf l k j (by simpa using hk) hj
theorem Rd.flat {w : World} {B : Nat} {A : Option Addr} {α : Type} {f : α → List Value} {m : Nat} {l : List α} (hf : ∀ x, (f x).length = m) (h : Rd w B A (l.flatMap f)) {k : Nat} (hk : k < l.length) (hm : 0 < m) :
    ∃ ad, A = some ad ∧ ad.block < B ∧ ∀ j, j < m → w.cell? (ad.add (k * m + j)) = (f l[k])[j]? := by
  have hlen : (l.flatMap f).length = l.length * m := by
    clear hk h
    induction l with
    | nil => simp
    | cons a l ih => rw [List.flatMap_cons, List.length_append, ih, hf, List.length_cons, Nat.add_mul]; omega
  have hlt : ∀ j, j < m → k * m + j < (l.flatMap f).length := fun j hj => by
    rw [hlen]
    have : (k + 1) * m ≤ l.length * m := Nat.mul_le_mul_right m hk
    rw [Nat.add_mul] at this; omega
  obtain ⟨ad, e, hl, _⟩ := h (k * m + 0) (hlt 0 hm)
  refine ⟨ad, e, hl, fun j hj => ?_⟩
  obtain ⟨ad', e', _, hc⟩ := h (k * m + j) (hlt j hj)
  rw [e] at e'
  injection e' with e'
  subst e'
  rw [hc, ← flat_at hf l k j hk hj, List.getElem?_eq_getElem (hlt j hj)]
/-- The k-th step, the k-th edge left. -/
def stp (ss : List Stp) (k : Nat) : Stp := ss.getD k ⟨0, 0, 0, 0#32⟩
def lft (L : Lt) (k : Nat) : Nat × BitVec 32 := L.getD k (0, 0#32)
theorem stp_eq (ss : List Stp) (k : Nat) (h : k < ss.length) : ss[k] = stp ss k := by simp [stp, h]
theorem lft_eq (L : Lt) (k : Nat) (h : k < L.length) : L[k] = lft L k := by simp [lft, h]
theorem Rd.st_at {w : World} {B : Nat} {A : Option Addr} {ss : List Stp} (h : Rd w B A (sts ss)) {k : Nat} (hk : k < ss.length) :
    ∃ ad, A = some ad ∧ ad.block < B ∧ w.cell? (ad.add (k * 4)) = some (.int .i64 (stp ss k).kind) ∧ w.cell? (ad.add (k * 4 + 1)) = some (.int .i64 (stp ss k).edge) ∧
      w.cell? (ad.add (k * 4 + 2)) = some (.int .i64 (stp ss k).into) ∧ w.cell? (ad.add (k * 4 + 3)) = some (.int .u32 (uz (stp ss k).cut)) := by
  obtain ⟨ad, e, hl, hc⟩ := Rd.flat (f := stC) (m := 4) (fun _ => rfl) h hk (by omega)
  rw [stp_eq ss k hk] at hc
  exact ⟨ad, e, hl, hc 0 (by omega), hc 1 (by omega), hc 2 (by omega), hc 3 (by omega)⟩
theorem Rd.lf_at {w : World} {B : Nat} {A : Option Addr} {L : Lt} (h : Rd w B A (lfs L)) {k : Nat} (hk : k < L.length) :
    ∃ ad, A = some ad ∧ ad.block < B ∧ w.cell? (ad.add (k * 2)) = some (.int .i64 ((lft L k).1 : Nat)) ∧ w.cell? (ad.add (k * 2 + 1)) = some (.int .u32 (uz (lft L k).2)) := by
  obtain ⟨ad, e, hl, hc⟩ := Rd.flat (f := lfC) (m := 2) (fun _ => rfl) h hk (by omega)
  rw [lft_eq L k hk] at hc
  exact ⟨ad, e, hl, hc 0 (by omega), hc 1 (by omega)⟩

/-! ### Appending a struct -/
section
variable {wr : World} {ops : Array Oper} {rest : List Oper} {o : Oper} {a : Act} {Q : Exit → Act → World → Prop}
theorem app_row {T e : TypeId} {z : Value} {size bytes : Nat} (hu : Try.prog.underlying T = some (.slice e)) (hinfo : (Try.prog.info? e).map (fun i => (i.zero, i.size, i.bytes)) = some (some z, size, bytes)) (hz1 : z.cells.size = size) (hsz : 0 < size) (hby : bytes ≤ 64)
    (hgd : o.guard = none) (s x : Operand) (ho : o.op = .call { callee := .builtin .append, args := #[s, x], argTypes := #[T, T] })
    (base : Nat) (v : Value) (n : Nat) (xs : List Value) (cs : Array Value) (hs : a.eval s = v) (hx : a.eval x = .slice (some ⟨wr.heap.size, 0, none⟩) 1 1) (hown : wr.ownsRow base e size v n xs)
    (hl : cs.toList.length = size) (h1 : ∀ u ∈ cs.toList, u.oneCell' = true) (hn : n + 1 ≤ 2199023255552) (hbase : base ≤ wr.heap.size)
    (h : ∀ v' w', w'.ownsRow base e size v' (n + 1) (xs ++ cs.toList) → wr.grownBy w' v.ownBlock → Below base wr w' → (v'.ownBlock = v.ownBlock ∨ ∃ g, v'.ownBlock = some g ∧ wr.heap.size ≤ g) → wpList Try.prog ops Q rest (a.put o.dst v') w') : wpList Try.prog ops Q (o :: rest) a (wr.alloc (.cells cs e)) := by
  obtain ⟨i, hi, hz, hs1, hb1⟩ := info_parts hinfo
  refine wpList_append_own_at _ hgd s x T ho base e i z size bytes hu hi hz hs1 hb1 hz1 hsz v n xs hs (hown.alloc _) ⟨wr.heap.size, 0, none⟩ 1 1 cs.toList hx (by rw [hl]; omega) (World.news_of_block (heap_alloc_new wr _)) h1 (by unfold maxLen; omega) ?_ (by simp; omega) ?_
  · have : (n + 1) * bytes ≤ 2199023255552 * 64 := Nat.mul_le_mul hn hby
    omega
  · intro v' w' hown' hg _ hat
    have hb : Below base wr w' := ((Below.refl _ _).alloc hbase _).grown hg (by simp; omega) fun k hk => (hown.lt k hk).1
    refine h v' w' hown' ⟨hg.os, hg.tape, hg.output, by have := hg.size; simp at this; omega, fun k hk hne => (hg.block k (by simp; omega) hne).trans (Below.heap_alloc wr _ k hk)⟩ hb ?_
    rcases hat with e | e
    · exact .inl e
    · exact .inr ⟨_, e, by simp⟩
theorem Try.info_Left : (Try.prog.info? 118).map (fun i => (i.zero, i.size, i.bytes)) = some (some (.agg #[.int .i64 0, .int .u32 0]), 2, 16) := by kernel_rfl
theorem Try.info_Step : (Try.prog.info? 66).map (fun i => (i.zero, i.size, i.bytes)) = some (some (.agg #[.int .i64 0, .int .i64 0, .int .i64 0, .int .u32 0]), 4, 32) := by kernel_rfl
theorem app_left (hgd : o.guard = none) (s x : Operand) (ho : o.op = .call { callee := .builtin .append, args := #[s, x], argTypes := #[55, 55] })
    (base : Nat) (v : Value) (L : Lt) (y : Nat × BitVec 32) (hs : a.eval s = v) (hx : a.eval x = .slice (some ⟨wr.heap.size, 0, none⟩) 1 1) (hown : wr.ownsRow base 118 2 v L.length (lfs L))
    (hn : L.length + 1 ≤ 2199023255552) (hbase : base ≤ wr.heap.size)
    (h : ∀ v' w', w'.ownsRow base 118 2 v' (L ++ [y]).length (lfs (L ++ [y])) → wr.grownBy w' v.ownBlock → Below base wr w' → wpList Try.prog ops Q rest (a.put o.dst v') w') : wpList Try.prog ops Q (o :: rest) a (wr.alloc (.cells #[.int .i64 (y.1 : Nat), .int .u32 (uz y.2)] 118)) :=
  app_row Try.underlying55 Try.info_Left rfl (by decide) (by decide) hgd s x ho base v L.length (lfs L) _ hs hx hown rfl (by simp [Value.oneCell']) hn hbase fun v' w' h1 h2 h3 _ => h v' w' (by rw [lfs_snoc, List.length_append]; exact h1) h2 h3
theorem app_step (hgd : o.guard = none) (s x : Operand) (ho : o.op = .call { callee := .builtin .append, args := #[s, x], argTypes := #[54, 54] })
    (base : Nat) (v : Value) (ss : List Stp) (y : Stp) (hs : a.eval s = v) (hx : a.eval x = .slice (some ⟨wr.heap.size, 0, none⟩) 1 1) (hown : wr.ownsRow base 66 4 v ss.length (sts ss))
    (hn : ss.length + 1 ≤ 2199023255552) (hbase : base ≤ wr.heap.size)
    (h : ∀ v' w', w'.ownsRow base 66 4 v' (ss ++ [y]).length (sts (ss ++ [y])) → wr.grownBy w' v.ownBlock → Below base wr w' → wpList Try.prog ops Q rest (a.put o.dst v') w') : wpList Try.prog ops Q (o :: rest) a (wr.alloc (.cells #[.int .i64 y.kind, .int .i64 y.edge, .int .i64 y.into, .int .u32 (uz y.cut)] 66)) :=
  app_row Try.underlying54 Try.info_Step rfl (by decide) (by decide) hgd s x ho base v ss.length (sts ss) _ hs hx hown rfl (by simp [Value.oneCell']) hn hbase fun v' w' h1 h2 h3 _ => h v' w' (by rw [sts_snoc, List.length_append]; exact h1) h2 h3
end

/-! ### Blocks of another kind stay apart -/
theorem own_row_ne {w : World} {base : Nat} {e t : TypeId} {size n g : Nat} {v : Value} {xs cs : List Value} (h : w.ownsRow base e size v n xs) (hg : Row w g t cs) (hne : e ≠ t) : v.ownBlock ≠ some g := by
  rcases h.2 with ⟨rfl, _⟩ | ⟨g', cap, cur, rfl, _, hh, _⟩
  · simp [Value.ownBlock]
  · intro he
    have : g' = g := by simpa [Value.ownBlock] using he
    subst this
    unfold Row at hg
    rw [hh] at hg
    injection hg with hg
    injection hg with _ ht
    exact hne ht
theorem own_grown {w w' : World} {base : Nat} {e : TypeId} {size : Nat} {v : Value} {n : Nat} {xs : List Value} {r : Option Nat} (h : w.ownsRow base e size v n xs) (hb : w.grownBy w' r) (hne : ∀ g, r = some g → v.ownBlock ≠ some g) : w'.ownsRow base e size v n xs := by
  refine ⟨h.1, ?_⟩
  rcases h.2 with h2 | ⟨g, cap, cur, hv, hg, hh, r⟩
  · exact .inl h2
  · subst hv
    refine .inr ⟨g, cap, cur, rfl, hg, (hb.block g (Array.getElem?_eq_some_iff.1 hh).1 fun e => hne g e.symm (by simp [Value.ownBlock])).trans hh, r⟩
theorem Row.grown {w w' : World} {g : Nat} {e : TypeId} {xs : List Value} {r : Option Nat} (h : Row w g e xs) (hb : w.grownBy w' r) (hne : r ≠ some g) : Row w' g e xs := (hb.block g h.lt (fun e => hne e.symm)).trans h
theorem Rem.grown {w w' : World} {g n : Nat} {S : Nat → BitVec 32} {T : Nat → Bool} {keep : BitVec 32} {r : Option Nat} (h : Rem w g S T n keep) (hb : w.grownBy w' r) (hne : r ≠ some g) : Rem w' g S T n keep := Row.grown h hb hne
end Go.Proofs.Ytkenbmelhfhidaa
