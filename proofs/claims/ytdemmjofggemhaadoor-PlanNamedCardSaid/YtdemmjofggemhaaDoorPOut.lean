/- The query's copy as it is named anew: what of it is turned. -/
import Derived.Test.YtdemmjofggemhaaDoorPSeen
namespace Go.Proofs.YtdemmjofggemhaaDoor
open Go.RowKit

theorem own_off {w : World} {base : Nat} {e t : TypeId} {size n g : Nat} {v : Value} {xs ys : List Value} (h : w.ownsRow base e size v n xs) (hr : Row w g t ys) (hne : e ≠ t) (i : Nat) (u : Value) : (w.setCell ⟨g, i, none⟩ u).ownsRow base e size v n xs :=
  own_grown h (grown_set9 (grown_below9 (Below.refl w.heap.size w) (some g)) i u) fun x hx => by
    injection hx with hx
    subst hx
    exact own_row_ne h hr hne
/-- The copy: its head H, the terms X i of its i-th atom. -/
structure OutS (base gh go : Nat) (A1 : Option Addr) (c1 : Nat) (G : Nat → Nat) (q : Qy) (H : List ByteArray) (X : Nat → List Tm) (y : World) : Prop where
  hd : Row y gh 9 (ss H)
  out : Row y go 25 [.string q.name, .slice (some ⟨gh, 0, none⟩) q.head.length q.head.length, .slice A1 q.atoms.length c1]
  ats : y.ownsRow base 47 2 (.slice A1 q.atoms.length c1) q.atoms.length (atC q.atoms G q.atoms.length)
  tms_ : ∀ i, i < q.atoms.length → Row y (G i) 52 (tms (X i))
  up : GsUp base G q.atoms.length
  low : base ≤ gh
section
variable {base gh go : Nat} {A1 : Option Addr} {c1 : Nat} {G : Nat → Nat} {q : Qy} {H : List ByteArray} {X : Nat → List Tm} {y : World}
theorem OutS.later (h : OutS base gh go A1 c1 G q H X y) {y' : World} (hb : Below y.heap.size y y') : OutS base gh go A1 c1 G q H X y' :=
  ⟨h.hd.later hb, h.out.later hb, own_below h.ats hb, fun i hi => (h.tms_ i hi).later hb, h.up, h.low⟩
theorem OutS.setH (h : OutS base gh go A1 c1 G q H X y) (k : Nat) (x : ByteArray) : OutS base gh go A1 c1 G q (H.set k x) X (y.setCell ⟨gh, k, none⟩ (.string x)) :=
  ⟨by rw [← ss_set]; exact h.hd.set_ k _, h.out.far (p := ⟨gh, k, none⟩) (rowq_ne h.out h.hd (by decide)) _, own_off h.ats h.hd (by decide) k _, fun i hi => (h.tms_ i hi).far (p := ⟨gh, k, none⟩) (rowq_ne (h.tms_ i hi) h.hd (by decide)) _, h.up, h.low⟩
theorem OutS.setT (h : OutS base gh go A1 c1 G q H X y) {j : Nat} (hj : j < q.atoms.length) (k : Nat) (x : ByteArray) {T : List Tm} (hT : (tms (X j)).set k (.string x) = tms T) :
    OutS base gh go A1 c1 G q H (fun i => if i = j then T else X i) (y.setCell ⟨G j, k, none⟩ (.string x)) :=
  ⟨h.hd.far (p := ⟨G j, k, none⟩) (rowq_ne h.hd (h.tms_ j hj) (by decide)) _, h.out.far (p := ⟨G j, k, none⟩) (rowq_ne h.out (h.tms_ j hj) (by decide)) _, own_off h.ats (h.tms_ j hj) (by decide) k _, fun i hi => by
    by_cases c : i = j
    · subst c
      rw [if_pos rfl, ← hT]
      exact (h.tms_ i hi).set_ k _
    · rw [if_neg c]
      exact (h.tms_ i hi).far (p := ⟨G j, k, none⟩) (h.up.ne hi hj c) _, h.up, h.low⟩
theorem OutS.same (h : OutS base gh go A1 c1 G q H X y) {Z : Nat → List Tm} (e : ∀ i, i < q.atoms.length → X i = Z i) : OutS base gh go A1 c1 G q H Z y :=
  ⟨h.hd, h.out, h.ats, fun i hi => by rw [← e i hi]; exact h.tms_ i hi, h.up, h.low⟩
/-- Where an atom's terms lie. -/
theorem OutS.at_ (h : OutS base gh go A1 c1 G q H X y) {i : Nat} (hi : i < q.atoms.length) : ∃ ad, A1 = some ad ∧ ad.block < y.heap.size ∧ y.cell? (ad.add (i * 2 + 1)) = some (.slice (some ⟨G i, 0, none⟩) (am q.atoms i).terms.length (am q.atoms i).terms.length) := by
  obtain ⟨_, _, e5, _, hl, hRd, _⟩ := Rd.of_ownS h.ats
  injection e5 with e5 _ _
  subst e5
  obtain ⟨ad, e, hlt, hc⟩ := hRd (i * 2 + 1) (by omega)
  have h1 := atC_at q.atoms G q.atoms.length i 1 hi (by omega)
  rw [List.getElem?_eq_getElem (by omega)] at h1
  exact ⟨ad, e, hlt, hc.trans h1⟩
end
/-- The terms when the atoms ahead of the k-th are turned, and of the k-th the terms ahead of the m-th. -/
def termsTo (f : ByteArray → ByteArray) (q : Qy) (k m : Nat) (i : Nat) : List Tm := if i < k then (am q.atoms i).terms.map (renT f) else if i = k then mapTo (renT f) (am q.atoms i).terms m else (am q.atoms i).terms
theorem termsTo_zero (f : ByteArray → ByteArray) (q : Qy) (i : Nat) : termsTo f q 0 0 i = (am q.atoms i).terms := by
  unfold termsTo
  rw [if_neg (Nat.not_lt_zero _)]
  split
  · exact mapTo_zero _ _
  · rfl
theorem termsTo_next (f : ByteArray → ByteArray) (q : Qy) (k i : Nat) : termsTo f q k (am q.atoms k).terms.length i = termsTo f q (k + 1) 0 i := by
  unfold termsTo
  rcases Nat.lt_trichotomy i k with c | rfl | c
  · rw [if_pos c, if_pos (by omega)]
  · rw [if_neg (by omega), if_pos rfl, if_pos (by omega), mapTo_all]
  · rw [if_neg (by omega), if_neg (by omega), if_neg (by omega)]
    split
    · rw [mapTo_zero]
    · rfl
theorem termsTo_end (f : ByteArray → ByteArray) (q : Qy) {i : Nat} (hi : i < q.atoms.length) : termsTo f q q.atoms.length 0 i = (am (q.atoms.map (renA f)) i).terms := by
  rw [am_ren f hi]
  exact if_pos hi
theorem termsTo_here (f : ByteArray → ByteArray) (q : Qy) (k m : Nat) : termsTo f q k m k = mapTo (renT f) (am q.atoms k).terms m := by
  unfold termsTo
  rw [if_neg (by omega), if_pos rfl]
theorem termsTo_other (f : ByteArray → ByteArray) (q : Qy) (k m m' : Nat) {i : Nat} (h : i ≠ k) : termsTo f q k m i = termsTo f q k m' i := by
  unfold termsTo
  split
  · rfl
  · first | rfl | simp only [if_neg h]
section
variable {base gh go : Nat} {A1 : Option Addr} {c1 : Nat} {G : Nat → Nat} {q : Qy} {H : List ByteArray} {X : Nat → List Tm} {y : World} {f : ByteArray → ByteArray} {k m : Nat}
/-- A term is turned; one without a name stays. -/
theorem OutS.turn (h : OutS base gh go A1 c1 G q H (termsTo f q k m) y) (hk : k < q.atoms.length) (hm : m < (am q.atoms k).terms.length) (hn : (tm (am q.atoms k).terms m).var ≠ ByteArray.empty) :
    OutS base gh go A1 c1 G q H (termsTo f q k (m + 1)) (y.setCell ⟨G k, m * 4, none⟩ (.string (f (tm (am q.atoms k).terms m).var))) := by
  refine (h.setT hk (m * 4) _ (T := mapTo (renT f) (am q.atoms k).terms (m + 1)) ?_).same fun i hi => ?_
  · rw [termsTo_here, ← tm_eq _ m hm]
    exact tms_ren hm (by rw [tm_eq]; exact hn)
  · by_cases c : i = k
    · subst c
      rw [if_pos rfl, termsTo_here]
    · rw [if_neg c]
      exact termsTo_other f q k m (m + 1) c
theorem OutS.stay (h : OutS base gh go A1 c1 G q H (termsTo f q k m) y) (hm : m < (am q.atoms k).terms.length) (hn : (tm (am q.atoms k).terms m).var = ByteArray.empty) : OutS base gh go A1 c1 G q H (termsTo f q k (m + 1)) y :=
  h.same fun i hi => by
    by_cases c : i = k
    · subst c
      rw [termsTo_here, termsTo_here]
      exact (mapTo_keep (renT f) hm (by rw [tm_eq]; exact ren_same hn)).symm
    · exact termsTo_other f q k m (m + 1) c
theorem OutS.next (h : OutS base gh go A1 c1 G q H (termsTo f q k (am q.atoms k).terms.length) y) : OutS base gh go A1 c1 G q H (termsTo f q (k + 1) 0) y :=
  h.same fun i _ => termsTo_next f q k i
/-- A term's name, not turned yet. -/
theorem OutS.var_ (h : OutS base gh go A1 c1 G q H (termsTo f q k m) y) (hk : k < q.atoms.length) (hm : m < (am q.atoms k).terms.length) : y.cell? ⟨G k, m * 4, none⟩ = some (.string (tm (am q.atoms k).terms m).var) := by
  have h1 := h.tms_ k hk
  rw [termsTo_here] at h1
  obtain ⟨ad, e, _, hc, _⟩ := h1.rd.t_cells (k := m) (by simpa using hm)
  injection e with e
  subst e
  have h2 := mapTo_at? (renT f) hm
  have h3 : tm (mapTo (renT f) (am q.atoms k).terms m) m = tm (am q.atoms k).terms m := by
    rw [← tm_eq _ m (by simpa using hm), ← tm_eq _ m hm]
    rw [List.getElem?_eq_getElem (by simpa using hm)] at h2
    exact Option.some.inj h2
  rw [h3] at hc
  simpa [Addr.add_lit] using hc
theorem OutS.head_ (h : OutS base gh go A1 c1 G q (mapTo f q.head k) X y) (hk : k < q.head.length) : OutS base gh go A1 c1 G q (mapTo f q.head (k + 1)) X (y.setCell ⟨gh, k, none⟩ (.string (f (nm q.head k)))) := by
  have h1 := h.setH k (f (nm q.head k))
  rw [← nm_eq _ k hk, mapTo_set f hk, nm_eq] at h1
  exact h1
/-- What the caller gets. -/
theorem OutS.fin (h : OutS base gh go A1 c1 G q (mapTo f q.head q.head.length) (termsTo f q q.atoms.length 0) y) : Row y gh 9 (ss (renQ f q).head) ∧ Ats y y.heap.size A1 (renQ f q).atoms := by
  have h1 := h.hd
  rw [mapTo_all] at h1
  refine ⟨h1, ?_⟩
  obtain ⟨_, _, e5, _, hl, hRd, _⟩ := Rd.of_ownS h.ats
  injection e5 with e5 _ _
  subst e5
  refine Ats.of_own (G := G) ?_ (fun i hi => ?_) rfl
  · show Rd y y.heap.size A1 (atC (q.atoms.map (renA f)) G (q.atoms.map (renA f)).length)
    rw [List.length_map, atC_ren f q.atoms G q.atoms.length (Nat.le_refl _)]
    exact hRd
  · have hi' : i < q.atoms.length := by simpa [renQ] using hi
    have h2 := h.tms_ i hi'
    rw [termsTo_end f q hi'] at h2
    exact h2
end
end Go.Proofs.YtdemmjofggemhaaDoor
