/- builder.step: a step of a removal as a node of the plan. -/
import Derived.Test.YtdemmjofggemhaaDoorNdMem
import Derived.Test.YtdemmjofggemhaaDoorBB
import Derived.Test.YtdemmjofggemhaaDoorBD
namespace Go.Proofs.YtdemmjofggemhaaDoor
open Go.RowKit
attribute [local go_sem ↓] uz_and uz_or uz_andNot uz_beq_zero uz_bne_zero uz_beq uz_bne

def pl (n : Nd) : PNd := ⟨n.kind, n.atom, n.vars, n.source, n.side, n.parent, n.top⟩
/-- Objects that no builder holds. -/
def FarO (o : Obj) : Prop := ∀ c t f, o = .cells c t f → t ≠ 69 ∧ t ≠ 58 ∧ t ≠ 62 ∧ t ≠ 3
structure KeptT (w w' : World) : Prop where
  size : w.heap.size ≤ w'.heap.size
  block : ∀ (k : Nat) (o : Obj), w.heap[k]? = some o → FarO o → w'.heap[k]? = some o
def NearT (t : TypeId) : Prop := t = 69 ∨ t = 58 ∨ t = 62 ∨ t = 3
theorem far_near {c : Array Value} {t : TypeId} {f : Nat × Nat} (h : NearT t) : ¬ FarO (.cells c t f) := fun q => by
  have := q c t f rfl
  rcases h with rfl | rfl | rfl | rfl <;> simp_all
section
variable {w w' w'' : World}
theorem KeptT.refl (w : World) : KeptT w w := ⟨Nat.le_refl _, fun _ _ h _ => h⟩
theorem KeptT.trans (h : KeptT w w') (k : KeptT w' w'') : KeptT w w'' := ⟨Nat.le_trans h.size k.size, fun i o h1 h2 => k.block i o (h.block i o h1 h2) h2⟩
theorem KeptT.later (h : KeptT w w') (hb : Below w'.heap.size w' w'') : KeptT w w'' := ⟨Nat.le_trans h.size hb.size, fun i o h1 h2 => (hb.block i (Array.getElem?_eq_some_iff.1 (h.block i o h1 h2)).1).trans (h.block i o h1 h2)⟩
theorem KeptT.set_ (h : KeptT w w') {g : Nat} {c : Array Value} {t : TypeId} {f : Nat × Nat} (hg : w'.heap[g]? = some (.cells c t f)) (ht : NearT t) (i : Nat) (u : Value) : KeptT w (w'.setCell ⟨g, i, none⟩ u) :=
  ⟨by have := h.size; simpa using this, fun k o h1 h2 => by
    have h3 := h.block k o h1 h2
    refine (Below.heap_setCell w' ⟨g, i, none⟩ u k ?_).trans h3
    rintro rfl
    rw [hg] at h3
    injection h3 with h3
    subst h3
    exact far_near ht h2⟩
theorem KeptT.two (h : KeptT w w') {gb : Nat} {r : Option Nat} (t : Two gb r w' w'') {c : Array Value} {e : TypeId} {f : Nat × Nat} (hg : w'.heap[gb]? = some (.cells c e f)) (he : NearT e) (hr : ∀ g, r = some g → ∃ c t f, w'.heap[g]? = some (.cells c t f) ∧ NearT t) : KeptT w w'' :=
  ⟨Nat.le_trans h.size t.size, fun k o h1 h2 => by
    have h3 := h.block k o h1 h2
    refine (t.block k (Array.getElem?_eq_some_iff.1 h3).1 ?_ ?_).trans h3
    · rintro rfl
      rw [hg] at h3
      injection h3 with h3
      subst h3
      exact far_near he h2
    · intro e2
      obtain ⟨c2, t2, f2, q, q2⟩ := hr k e2.symm
      rw [q] at h3
      injection h3 with h3
      subst h3
      exact far_near q2 h2⟩
theorem own_type {base : Nat} {e : TypeId} {size n : Nat} {v : Value} {xs : List Value} (h : w.ownsRow base e size v n xs) (he : NearT e) : ∀ g, v.ownBlock = some g → ∃ c t f, w.heap[g]? = some (.cells c t f) ∧ NearT t := by
  intro g hg
  rcases h.2 with ⟨rfl, _⟩ | ⟨g', cap, cur, rfl, _, hh, _⟩
  · simp [Value.ownBlock] at hg
  · have : g' = g := by simpa [Value.ownBlock] using hg
    subst this
    exact ⟨_, _, _, hh, he⟩
theorem own_put {base size g n cap m k : Nat} {e : TypeId} {xs : List Value} (h : w.ownsRow base e size (.slice (some ⟨g, 0, none⟩) n cap) m xs) (u : Value) : (w.setCell ⟨g, k, none⟩ u).ownsRow base e size (.slice (some ⟨g, 0, none⟩) n cap) m (xs.set k u) := by
  refine ⟨by rw [List.length_set]; exact h.1, ?_⟩
  rcases h.2 with ⟨e1, _⟩ | ⟨g', cap', cur, hv, hb, hh, hn, hm, hs, ht⟩
  · cases e1
  · injection hv with h1 h2 h3
    injection h1 with h1
    injection h1 with h1
    subst h1 h2 h3
    refine .inr ⟨g, cap, cur.setIfInBounds k u, rfl, hb, ?_, hn, hm, by simpa using hs, ?_⟩
    · simp [World.setCell, Array.getElem?_modify, hh]
    · rw [Array.toList_setIfInBounds, List.take_set, ht]
theorem own_frozen {base size g n cap m : Nat} {e : TypeId} {xs : List Value} (h : w.ownsRow base e size (.slice (some ⟨g, 0, none⟩) n cap) m xs) (k : Nat) : w.frozen? ⟨g, k, none⟩ = false := by
  rcases h.2 with ⟨e1, _⟩ | ⟨g', cap', cur, hv, hb, hh, _⟩
  · cases e1
  · injection hv with h1 _ _
    injection h1 with h1
    injection h1 with h1
    subst h1
    exact frozen_of_row w g k cur e hh
theorem own_cell {base g n cap m : Nat} {e : TypeId} {xs : List Value} (h : w.ownsRow base e 1 (.slice (some ⟨g, 0, none⟩) n cap) m xs) {k : Nat} (hk : k < xs.length) : w.cell? ⟨g, k, none⟩ = some xs[k] := by
  obtain ⟨A, c, e1, _, _, hR, _⟩ := Rd.of_own h
  injection e1 with e1
  subst e1
  obtain ⟨ad, e2, _, hc⟩ := hR k hk
  injection e2 with e2
  subst e2
  rwa [Addr.add_lit, Nat.zero_add] at hc
end

/-- A builder in memory. -/
structure BS (base gb : Nat) (L : List Nd) (S : List (BitVec 32)) (P : List Int) (AN : Option Addr) (cN gS cS gP cP : Nat) (w : World) : Prop where
  row : Row w gb 69 [.slice AN L.length cN, .slice (some ⟨gS, 0, none⟩) S.length cS, .slice (some ⟨gP, 0, none⟩) P.length cP]
  nodes : w.ownsRow base 58 7 (.slice AN L.length cN) L.length (nds L)
  sets : w.ownsRow base 62 1 (.slice (some ⟨gS, 0, none⟩) S.length cS) S.length (us S)
  pres : w.ownsRow base 3 1 (.slice (some ⟨gP, 0, none⟩) P.length cP) P.length (is P)
  vars : ∀ n ∈ L, w.ownsRow base 3 1 (vb n) n.vars.length (is n.vars)
  apart : ∀ n ∈ L, (vb n).ownBlock ≠ some gP
  dist : L.Pairwise fun a b => ∀ g, (vb a).ownBlock = some g → (vb b).ownBlock ≠ some g
end Go.Proofs.YtdemmjofggemhaaDoor
