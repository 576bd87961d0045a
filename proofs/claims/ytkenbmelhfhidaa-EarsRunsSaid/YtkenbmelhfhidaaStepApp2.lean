/- Steps of drawn regions: an append of one struct or word onto a row that the call owns. -/
import Derived.Test.YtkenbmelhfhidaaR15a
import Derived.Deep.AppendLies
import Derived.Deep.RegionLaw
namespace Go.Proofs.Ytkenbmelhfhidaa
open Go.RowKit

theorem below_undrew {w w' : World} (h : Below w.drew.heap.size w.drew w') : Below w.heap.size w w' := ⟨h.os, h.tape, h.output, h.size, h.block⟩
theorem below_undrew2 {B : Nat} {w w' : World} (h : Below B w.drew w') : Below B w w' := ⟨h.os, h.tape, h.output, h.size, h.block⟩
theorem grown_undrew {w w' : World} {r : Option Nat} (h : w.drew.grownBy w' r) : w.grownBy w' r := ⟨h.os, h.tape, h.output, h.size, h.block⟩
theorem grown_alloc {w w' : World} {o : Obj} {r : Option Nat} (h : (w.alloc o).grownBy w' r) (hr : ∀ g, r = some g → g < w.heap.size) : w.grownBy w' r :=
  ⟨h.os, h.tape, h.output, by have := h.size; simp at this; omega, fun k hk hne => (h.block k (by simp; omega) hne).trans (Below.heap_alloc w o k hk)⟩
section
variable {wr : World} {ops : Array Oper} {o : Oper} {a : Act} {K : Act → World → Prop} {Q : Exit → Act → World → Prop} {F : Prop}
theorem step_row {T e : TypeId} {z : Value} {size bytes : Nat} (hu : Try.prog.underlying T = some (.slice e)) (hinfo : (Try.prog.info? e).map (fun i => (i.zero, i.size, i.bytes)) = some (some z, size, bytes)) (hz1 : z.cells.size = size) (hsz : 0 < size) (hby : bytes ≤ 64)
    (hgd : o.guard = none) (s x : Operand) (ho : o.op = .call { callee := .builtin .append, args := #[s, x], argTypes := #[T, T] })
    (base : Nat) (v : Value) (n : Nat) (xs : List Value) (cs : Array Value) (hs : a.eval s = v) (hx : a.eval x = .slice (some ⟨wr.heap.size, 0, none⟩) 1 1) (hown : wr.ownsRow base e size v n xs)
    (hl : cs.toList.length = size) (h1 : ∀ u ∈ cs.toList, u.oneCell' = true) (hn : n + 1 ≤ 2199023255552) (hbase : base ≤ wr.heap.size)
    (h : ∀ g cap w', w'.ownsRow base e size (.slice (some ⟨g, 0, none⟩) (n + 1) cap) (n + 1) (xs ++ cs.toList) → wr.grownBy w' v.ownBlock → Below base wr w' → g < w'.heap.size → K (a.put o.dst (.slice (some ⟨g, 0, none⟩) (n + 1) cap)) w') :
    if Region.wanted o (yielded ops a.tmps) = true then Oper.wp Try.prog o a (wr.alloc (.cells cs e)) K Q else F := by
  obtain ⟨i, hi, hz, hs1, hb1⟩ := info_parts hinfo
  refine step_append_lies _ hgd s x T ho base e i z size bytes hu hi hz hs1 hb1 hz1 hsz v n xs hs (hown.alloc _) ⟨wr.heap.size, 0, none⟩ 1 1 cs.toList hx (by rw [hl]; omega) (World.news_of_block (heap_alloc_new wr _)) h1 (by omega) (by unfold maxLen; omega) ?_ (by simp; omega) _ rfl ?_
  · have : (n + 1) * bytes ≤ 2199023255552 * 64 := Nat.mul_le_mul hn hby
    omega
  · intro g cap w' hown' hg _ hlt
    exact h g cap w' hown' (grown_alloc hg fun k hk => (hown.lt k hk).2) (((Below.refl _ _).alloc hbase _).grown hg (by simp; omega) fun k hk => (hown.lt k hk).1) hlt
theorem step_u32 (hgd : o.guard = none) (s x : Operand) (ho : o.op = .call { callee := .builtin .append, args := #[s, x], argTypes := #[22, 22] })
    (base : Nat) (v : Value) (E : List (BitVec 32)) (y : BitVec 32) (hs : a.eval s = v) (hx : a.eval x = .slice (some ⟨wr.heap.size, 0, none⟩) 1 1) (hown : wr.ownsRow base 39 1 v E.length (us E))
    (hn : E.length + 1 ≤ 2199023255552) (hbase : base ≤ wr.heap.size)
    (h : ∀ g cap w', w'.ownsRow base 39 1 (.slice (some ⟨g, 0, none⟩) (E.length + 1) cap) (E.length + 1) (us (E ++ [y])) → wr.grownBy w' v.ownBlock → Below base wr w' → g < w'.heap.size → K (a.put o.dst (.slice (some ⟨g, 0, none⟩) (E.length + 1) cap)) w') :
    if Region.wanted o (yielded ops a.tmps) = true then Oper.wp Try.prog o a (wr.alloc (.cells #[.int .u32 (uz y)] 39)) K Q else F :=
  step_row Try.underlying22 Try.info_u32 rfl (by decide) (by decide) hgd s x ho base v E.length (us E) _ hs hx hown rfl (by simp [Value.oneCell']) hn hbase fun g cap w' h1 h2 h3 h4 => h g cap w' (by rw [us_snoc]; exact h1) h2 h3 h4
theorem step_rstep (hgd : o.guard = none) (s x : Operand) (ho : o.op = .call { callee := .builtin .append, args := #[s, x], argTypes := #[58, 58] })
    (base : Nat) (v : Value) (ss : List Stp) (y : Stp) (hs : a.eval s = v) (hx : a.eval x = .slice (some ⟨wr.heap.size, 0, none⟩) 1 1) (hown : wr.ownsRow base 68 4 v ss.length (sts ss))
    (hn : ss.length + 1 ≤ 2199023255552) (hbase : base ≤ wr.heap.size)
    (h : ∀ g cap w', w'.ownsRow base 68 4 (.slice (some ⟨g, 0, none⟩) (ss.length + 1) cap) (ss.length + 1) (sts (ss ++ [y])) → wr.grownBy w' v.ownBlock → Below base wr w' → g < w'.heap.size → K (a.put o.dst (.slice (some ⟨g, 0, none⟩) (ss.length + 1) cap)) w') :
    if Region.wanted o (yielded ops a.tmps) = true then Oper.wp Try.prog o a (wr.alloc (.cells #[.int .i64 y.kind, .int .i64 y.edge, .int .i64 y.into, .int .u32 (uz y.cut)] 68)) K Q else F :=
  step_row Try.underlying58 Try.info_rStep rfl (by decide) (by decide) hgd s x ho base v ss.length (sts ss) _ hs hx hown rfl (by simp [Value.oneCell']) hn hbase fun g cap w' h1 h2 h3 h4 => h g cap w' (by rw [sts_snoc]; exact h1) h2 h3 h4
end
end Go.Proofs.Ytkenbmelhfhidaa
