/- What the memory of a query holds. -/
import Derived.Test.YtbgbjodehbcgiaaGreatDoorQLaw
namespace Go.Proofs.YtbgbjodehbcgiaaGreatDoor
open Go.RowKit

/-- The values of texts; the cells of terms. -/
def ss (L : List ByteArray) : List Value := L.map Value.string
def tC (t : Tm) : List Value := [.string t.var, .int .i64 t.kind, .int .i64 t.num, .string t.text]
def tms (ts : List Tm) : List Value := ts.flatMap tC
@[simp] theorem ss_length (L : List ByteArray) : (ss L).length = L.length := by simp [ss]
theorem ss_snoc (L : List ByteArray) (x : ByteArray) : ss (L ++ [x]) = ss L ++ [.string x] := by simp [ss]
theorem ss_one (L : List ByteArray) : ∀ u ∈ ss L, u.oneCell' = true := by
  intro u hu
  obtain ⟨_, _, rfl⟩ := List.mem_map.1 hu
  rfl
theorem tms_length (ts : List Tm) : (tms ts).length = ts.length * 4 := by
  induction ts with
  | nil => rfl
  | cons t ts ih => show (tC t ++ tms ts).length = _; rw [List.length_append, ih]; simp [tC]; omega
theorem tms_append (ts us : List Tm) : tms (ts ++ us) = tms ts ++ tms us := by simp [tms]
theorem tms_one (ts : List Tm) : ∀ u ∈ tms ts, u.oneCell' = true := by
  intro u hu
  obtain ⟨t, _, h⟩ := List.mem_flatMap.1 hu
  simp only [tC, List.mem_cons, List.not_mem_nil, or_false] at h
  rcases h with rfl | rfl | rfl | rfl <;> rfl
theorem Rd.s_at {w : World} {B : Nat} {A : Option Addr} {L : List ByteArray} (h : Rd w B A (ss L)) {k : Nat} (hk : k < L.length) :
    ∃ ad, A = some ad ∧ ad.block < B ∧ w.cell? (ad.add k) = some (.string (nm L k)) := by
  obtain ⟨ad, e, hl, hc⟩ := h k (by simpa using hk)
  refine ⟨ad, e, hl, hc.trans ?_⟩
  simp only [ss, List.getElem_map]
  rw [nm_eq L k hk]
theorem Rd.t_cells {w : World} {B : Nat} {A : Option Addr} {ts : List Tm} (h : Rd w B A (tms ts)) {k : Nat} (hk : k < ts.length) :
    ∃ ad, A = some ad ∧ ad.block < B ∧ w.cell? (ad.add (k * 4)) = some (.string (tm ts k).var) ∧ w.cell? ⟨(ad.add (k * 4)).block, (ad.add (k * 4)).off + 1, none⟩ = some (.int .i64 (tm ts k).kind) ∧
      w.cell? ⟨(ad.add (k * 4)).block, (ad.add (k * 4)).off + 2, none⟩ = some (.int .i64 (tm ts k).num) ∧ w.cell? ⟨(ad.add (k * 4)).block, (ad.add (k * 4)).off + 3, none⟩ = some (.string (tm ts k).text) := by
  obtain ⟨ad, e, hl, hc⟩ := Rd.flat (f := tC) (m := 4) (fun _ => rfl) h hk (by omega)
  rw [tm_eq ts k hk] at hc
  exact ⟨ad, e, hl, hc 0 (by omega), (add_off ad (k * 4) 0) ▸ hc 1 (by omega), (add_off ad (k * 4) 1) ▸ hc 2 (by omega), (add_off ad (k * 4) 2) ▸ hc 3 (by omega)⟩
theorem Rd.take {w : World} {B : Nat} {A : Option Addr} {xs : List Value} (h : Rd w B A xs) (n : Nat) : Rd w B A (xs.take n) := fun k hk => by
  have hk' : k < xs.length := by rw [List.length_take] at hk; omega
  obtain ⟨ad, e, hl, hc⟩ := h k hk'
  exact ⟨ad, e, hl, by rw [hc, List.getElem_take]⟩
theorem ss_take (L : List ByteArray) (n : Nat) : (ss L).take n = ss (L.take n) := by simp [ss, List.map_take]

/-- What the cells of atoms hold. -/
def Ats (w : World) (B : Nat) (A : Option Addr) (xs : List Am) : Prop :=
  ∀ k, k < xs.length → ∃ ad, A = some ad ∧ ad.block < B ∧ w.cell? (ad.add (k * 2)) = some (.string (am xs k).rel) ∧
    ∃ T c, w.cell? ⟨(ad.add (k * 2)).block, (ad.add (k * 2)).off + 1, none⟩ = some (.slice T (am xs k).terms.length c) ∧ Rd w B T (tms (am xs k).terms) ∧ (T = none → c = 0)
section
variable {w w' : World} {B B' : Nat} {A : Option Addr} {xs : List Am}
theorem Ats.keep (h : Ats w B A xs) (hk : ∀ p : Addr, p.block < B → w'.cell? p = w.cell? p) : Ats w' B A xs := fun k hx => by
  obtain ⟨ad, e, hl, h1, T, c, h2, h3, h4⟩ := h k hx
  exact ⟨ad, e, hl, (hk _ (by rw [block_add]; exact hl)).trans h1, T, c, (hk _ (by rw [block_add]; exact hl)).trans h2, h3.keep hk, h4⟩
theorem Ats.below (h : Ats w B A xs) (hb : Below B w w') : Ats w' B A xs := h.keep fun _ hp => hb.cell hp
theorem Ats.mono (h : Ats w B A xs) (hb : B ≤ B') : Ats w B' A xs := fun k hk => by
  obtain ⟨ad, e, hl, h1, T, c, h2, h3, h4⟩ := h k hk
  exact ⟨ad, e, by omega, h1, T, c, h2, h3.mono hb, h4⟩
theorem Ats.later (h : Ats w w.heap.size A xs) (hb : Below w.heap.size w w') : Ats w' w'.heap.size A xs := (h.below hb).mono hb.size
theorem Ats.nil : Ats w B A [] := fun k hk => absurd hk (by simp)
end

/-- No text is longer than a machine holds, no list either. -/
structure SzT (t : Tm) : Prop where
  var : t.var.size ≤ 9223372036854775807
  text : t.text.size ≤ 9223372036854775807
structure SzA (a : Am) : Prop where
  rel : a.rel.size ≤ 9223372036854775807
  few : a.terms.length ≤ 2932031007402
  terms : ∀ t ∈ a.terms, SzT t
structure SzQ (q : Qy) : Prop where
  name : q.name.size ≤ 9223372036854775807
  few : q.head.length ≤ 8796093022208
  head : ∀ x ∈ q.head, x.size ≤ 9223372036854775807
  fewA : q.atoms.length ≤ 3518437208883
  atoms : ∀ a ∈ q.atoms, SzA a

/-! ### Appending a text -/
section
variable {wr : World} {ops : Array Oper} {rest : List Oper} {o : Oper} {a : Act} {Q : Exit → Act → World → Prop}
theorem Tryz.info_str : (Tryz.prog.info? 9).map (fun i => (i.zero, i.size, i.bytes)) = some (some (.string ByteArray.empty), 1, 16) := by kernel_rfl
theorem app_str (hgd : o.guard = none) (s x : Operand) (ho : o.op = .call { callee := .builtin .append, args := #[s, x], argTypes := #[22, 22] })
    (base : Nat) (v : Value) (L : List ByteArray) (y : ByteArray) (hs : a.eval s = v) (hx : a.eval x = .slice (some ⟨wr.heap.size, 0, none⟩) 1 1) (hown : wr.ownsRow base 9 1 v L.length (ss L))
    (hn : L.length + 1 ≤ 2199023255552) (hbase : base ≤ wr.heap.size)
    (h : ∀ v' w', w'.ownsRow base 9 1 v' (L ++ [y]).length (ss (L ++ [y])) → Below base wr w' → wpList Tryz.prog ops Q rest (a.put o.dst v') w') : wpList Tryz.prog ops Q (o :: rest) a (wr.alloc (.cells #[.string y] 9)) :=
  app_row Tryz.underlying22 Tryz.info_str rfl (by decide) (by decide) hgd s x ho base v L.length (ss L) _ hs hx hown rfl (by simp [Value.oneCell']) hn hbase fun v' w' h1 _ h3 _ => h v' w' (by rw [ss_snoc, List.length_append]; exact h1) h3
theorem app_strG (hgd : o.guard = none) (s x : Operand) (ho : o.op = .call { callee := .builtin .append, args := #[s, x], argTypes := #[22, 22] })
    (base : Nat) (v : Value) (L : List ByteArray) (y : ByteArray) (hs : a.eval s = v) (hx : a.eval x = .slice (some ⟨wr.heap.size, 0, none⟩) 1 1) (hown : wr.ownsRow base 9 1 v L.length (ss L))
    (hn : L.length + 1 ≤ 2199023255552) (hbase : base ≤ wr.heap.size)
    (h : ∀ v' w', w'.ownsRow base 9 1 v' (L ++ [y]).length (ss (L ++ [y])) → wr.grownBy w' v.ownBlock → Below base wr w' → (v'.ownBlock = v.ownBlock ∨ ∃ g, v'.ownBlock = some g ∧ wr.heap.size ≤ g) → wpList Tryz.prog ops Q rest (a.put o.dst v') w') : wpList Tryz.prog ops Q (o :: rest) a (wr.alloc (.cells #[.string y] 9)) :=
  app_row Tryz.underlying22 Tryz.info_str rfl (by decide) (by decide) hgd s x ho base v L.length (ss L) _ hs hx hown rfl (by simp [Value.oneCell']) hn hbase fun v' w' h1 h2 h3 h4 => h v' w' (by rw [ss_snoc, List.length_append]; exact h1) h2 h3 h4
end
end Go.Proofs.YtbgbjodehbcgiaaGreatDoor
