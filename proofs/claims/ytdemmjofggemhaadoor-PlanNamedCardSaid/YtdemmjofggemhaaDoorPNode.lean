/- A plan's nodes, read; plan.children, plan.isNode. -/
import Derived.Test.YtdemmjofggemhaaDoorNdMem2
import Derived.Test.YtdemmjofggemhaaDoorBF
namespace Go.Proofs.YtdemmjofggemhaaDoor
open Go.RowKit

def pndC (n : PNd) (T : Option Addr) (c : Nat) : List Value := [.int .i64 n.kind, .int .i64 n.atom, .slice T n.vars.length c, .int .i64 n.source, .int .i64 n.side, .int .i64 n.parent, .bool n.top]
/-- Nodes to be read, wherever their vertices lie. -/
def NdR (w : World) (B : Nat) (A : Option Addr) (N : List PNd) : Prop :=
  ∀ k, k < N.length → ∃ ad, A = some ad ∧ ad.block < B ∧ ∃ T c, (∀ j, j < 7 → w.cell? (ad.add (k * 7 + j)) = (pndC (nd N k) T c)[j]?) ∧ Rd w B T (is (nd N k).vars)
section
variable {w w' : World} {B B' : Nat} {A : Option Addr} {N : List PNd}
theorem NdR.keep (h : NdR w B A N) (hk : ∀ p : Addr, p.block < B → w'.cell? p = w.cell? p) : NdR w' B A N := fun k hx => by
  obtain ⟨ad, e, hl, T, c, hc, hv⟩ := h k hx
  exact ⟨ad, e, hl, T, c, fun j hj => (hk _ (by rw [block_add]; exact hl)).trans (hc j hj), hv.keep hk⟩
theorem NdR.below (h : NdR w B A N) (hb : Below B w w') : NdR w' B A N := h.keep fun _ hp => hb.cell hp
theorem NdR.mono (h : NdR w B A N) (hb : B ≤ B') : NdR w B' A N := fun k hk => by
  obtain ⟨ad, e, hl, T, c, hc, hv⟩ := h k hk
  exact ⟨ad, e, Nat.lt_of_lt_of_le hl hb, T, c, hc, hv.mono hb⟩
theorem NdR.later (h : NdR w w.heap.size A N) (hb : Below w.heap.size w w') : NdR w' w'.heap.size A N := (h.below hb).mono hb.size
theorem NdR.cells (h : NdR w B A N) {k : Nat} (hk : k < N.length) : ∃ ad, A = some ad ∧ ad.block < B ∧ ∃ T c, Rd w B T (is (nd N k).vars) ∧
    w.cell? (ad.add (k * 7)) = some (.int .i64 (nd N k).kind) ∧ w.cell? ⟨(ad.add (k * 7)).block, (ad.add (k * 7)).off + 1, none⟩ = some (.int .i64 (nd N k).atom) ∧
    w.cell? ⟨(ad.add (k * 7)).block, (ad.add (k * 7)).off + 2, none⟩ = some (.slice T (nd N k).vars.length c) ∧ w.cell? ⟨(ad.add (k * 7)).block, (ad.add (k * 7)).off + 3, none⟩ = some (.int .i64 (nd N k).source) ∧
    w.cell? ⟨(ad.add (k * 7)).block, (ad.add (k * 7)).off + 4, none⟩ = some (.int .i64 (nd N k).side) ∧ w.cell? ⟨(ad.add (k * 7)).block, (ad.add (k * 7)).off + 5, none⟩ = some (.int .i64 (nd N k).parent) ∧
    w.cell? ⟨(ad.add (k * 7)).block, (ad.add (k * 7)).off + 6, none⟩ = some (.bool (nd N k).top) := by
  obtain ⟨ad, e, hl, T, c, hc, hv⟩ := h k hk
  exact ⟨ad, e, hl, T, c, hv, hc 0 (by decide), (add_off ad (k * 7) 0) ▸ hc 1 (by decide), (add_off ad (k * 7) 1) ▸ hc 2 (by decide), (add_off ad (k * 7) 2) ▸ hc 3 (by decide), (add_off ad (k * 7) 3) ▸ hc 4 (by decide), (add_off ad (k * 7) 4) ▸ hc 5 (by decide), (add_off ad (k * 7) 5) ▸ hc 6 (by decide)⟩
end
theorem nds_get (L : List Nd) (k j : Nat) (hk : k < L.length) (hj : j < 7) : (nds L)[k * 7 + j]? = (ndC L[k])[j]? := flat_at (f := ndC) (fun _ => rfl) L k j hk hj
theorem nd_pl (L : List Nd) {k : Nat} (hk : k < L.length) : nd (L.map pl) k = pl L[k] := by simp [nd, hk]
/-- Nodes that are owned can be read. -/
theorem NdR.of_own {w : World} {base base' : Nat} {A : Option Addr} {c : Nat} {L : List Nd} (h : w.ownsRow base 58 7 (.slice A L.length c) L.length (nds L)) (hv : ∀ n ∈ L, w.ownsRow base' 3 1 (vb n) n.vars.length (is n.vars)) : NdR w w.heap.size A (L.map pl) := fun k hk => by
  have hk' : k < L.length := by simpa using hk
  obtain ⟨A', c', e1, _, _, hR, _⟩ := Rd.of_ownS h
  injection e1 with e1 _ _
  subst e1
  obtain ⟨ad, e, hl, hc⟩ := Rd.flat (f := ndC) (m := 7) (fun _ => rfl) hR hk' (by decide)
  rw [nd_pl L hk']
  have hn := hv L[k] (List.getElem_mem hk')
  obtain ⟨T, c2, e2, _, _, hT, _⟩ := Rd.of_own hn
  unfold vb at e2
  injection e2 with e2 _ e3
  subst e2
  exact ⟨ad, e, hl, _, L[k].cap, hc, hT⟩

theorem chl_len (n : PNd) : (chl n).length ≤ 2 := by unfold chl; split <;> (try split) <;> simp
/-- The plan in the cell gp. -/
def PRow (w : World) (gp : Nat) (vv vh : Value) (A : Option Addr) (n c : Nat) (root : Int) (vt : Value) : Prop := Row w gp 31 [vv, vh, .slice A n c, .int .i64 root, vt]

set_option maxRecDepth 100000 in
theorem children_any (gp : Nat) (vv vh : Value) (A : Option Addr) (N : List PNd) (c : Nat) (root : Int) (vt : Value) (i : Nat) (w : World) (hi : i < N.length) (hP : PRow w gp vv vh A N.length c root vt) (hN : NdR w w.heap.size A N) :
    Calls Tryd.prog 50 #[.pointer (some ⟨gp, 0, none⟩), .int .i64 i] w fun e w' => ∃ v, e = .returned v ∧ w'.ownsRow w.heap.size 3 1 v (chl (nd N i)).length (is (chl (nd N i))) ∧ Below w.heap.size w w' := by
  obtain ⟨ad, hA, _, T, cT, _, c0, c1, c2, c3, c4, c5, c6⟩ := hN.cells hi
  subst hA
  have q2 : w.cell? ⟨gp, 2, none⟩ = some (.slice (some ad) N.length c) := Row.cell hP 2
  have a1 : (0 : Int) ≤ i := by omega
  have a2 : (i : Int) < N.length := by omega
  have HC : Hid (chl (nd N i) = if (nd N i).kind = 2 then [(nd N i).source] else if (nd N i).kind = 3 then [(nd N i).source, (nd N i).side] else []) := Lib.hid rfl
  generalize chl (nd N i) = C at HC ⊢
  generalize nd N i = x at c0 c1 c2 c3 c4 c5 c6 HC
  go_enter Tryd.func50, Tryd.ntmps50
  go_upto_region 2 with fail
  have hb0 := below_alloc w (.cells #[.int .i64 x.kind, .int .i64 x.atom, .slice T x.vars.length cT, .int .i64 x.source, .int .i64 x.side, .int .i64 x.parent, .bool x.top] 58)
  have hR0 : Row (w.alloc (.cells #[.int .i64 x.kind, .int .i64 x.atom, .slice T x.vars.length cT, .int .i64 x.source, .int .i64 x.side, .int .i64 x.parent, .bool x.top] 58)) w.heap.size 58 [.int .i64 x.kind, .int .i64 x.atom, .slice T x.vars.length cT, .int .i64 x.source, .int .i64 x.side, .int .i64 x.parent, .bool x.top] := Row.new _ _ _
  generalize w.heap.size = g at hR0 ⊢
  generalize w.alloc _ = w0 at hb0 hR0 ⊢
  have d0 : w0.cell? ⟨g, 0, none⟩ = some (.int .i64 x.kind) := hR0.cell 0
  have d3 : w0.cell? ⟨g, 3, none⟩ = some (.int .i64 x.source) := hR0.cell 3
  have d4 : w0.cell? ⟨g, 4, none⟩ = some (.int .i64 x.side) := hR0.cell 4
  clear c0 c1 c2 c3 c4 c5 c6 hR0 hN hP
  generalize x.source = a at d3 HC ⊢
  generalize x.side = b at d4 HC ⊢
  generalize x.kind = k at d0 HC ⊢
  by_cases h2 : k = 2
  · have e : C = [a] := by rw [HC.out, if_pos h2]
    subst h2
    clear HC
    go_wp2_with fail
    go_ret
    subst e
    exact ⟨_, rfl, Row.own (Row.new_ (xs := is [a]) rfl) hb0.size (by simp [maxLen]), hb0.alloc hb0.size _⟩
  · have b2 : (k == 2) = false := by simpa using h2
    by_cases h3 : k = 3
    · have e : C = [a, b] := by rw [HC.out, if_neg h2, if_pos h3]
      subst h3
      clear HC
      go_wp2_with fail
      go_ret
      subst e
      exact ⟨_, rfl, Row.own (Row.new_ (xs := is [a, b]) rfl) hb0.size (by simp [maxLen]), hb0.alloc hb0.size _⟩
    · have b3 : (k == 3) = false := by simpa using h3
      have e : C = [] := by rw [HC.out, if_neg h2, if_neg h3]
      clear HC
      go_wp2_with fail
      go_ret
      subst e
      exact ⟨_, rfl, World.ownsRow_nil _ _ _ _, hb0⟩
end Go.Proofs.YtdemmjofggemhaaDoor
