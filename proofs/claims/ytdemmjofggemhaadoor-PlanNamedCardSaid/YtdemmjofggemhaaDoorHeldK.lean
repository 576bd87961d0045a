/- Short forms of the moves through a drawn region that only reads and calls (wip/tools/mkreg.py prints them). -/
import Derived.Deep.RegionHeld3
import Derived.Lib.Hide
namespace Go.Proofs.YtdemmjofggemhaaDoor
section
variable {P : Program} {ops : Array Oper} {Q : Exit → Act → World → Prop} {md : Region.Mode} {S : World → Prop}
/-- May the operation be taken first? -/
def fitH (md : Region.Mode) (ops : Array Oper) (listed : Array Bool) (i : Nat) : Bool := Region.noSelect ops && (Region.free md ops listed i && (Region.ready md ops listed).contains i)
theorem nth_of {i : Nat} {oi : Oper} {rest : List Oper} (hi : ops.toList.drop i = oi :: rest) : ops[i]? = some oi := by
  rw [← Array.getElem?_toList, ← List.head?_drop, hi]; rfl
/-- An operation that yields its value where S holds is taken. -/
theorem kY (i : Nat) {oi : Oper} {rest : List Oper} {v : Value} {fuel : Nat} {listed : Array Bool} {a : Act} {w : World} (hS : S w)
    (h : wpAnyH P md ops Q S fuel (listed.setIfInBounds i true) (a.put oi.dst v) w)
    (hi : ops.toList.drop i = oi :: rest := by rfl) (hc : fitH md ops listed i = true := by kernel_rfl)
    (hQ : ∀ c a w, Q (.panic c) (a.put oi.dst v) w → Q (.panic c) a w := by exact fun _ _ _ h => h) (hw : Region.wanted oi (yielded ops a.tmps) = true := by rfl)
    (hy : ∀ w, S w → (execOp a.eval oi).run P w = .ok (.value v) w := by (intro w h; (try dsimp only at h); go_simp; try with_reducible rfl)) : wpAnyH P md ops Q S (fuel + 1) listed a w := by
  unfold fitH at hc
  simp only [Bool.and_eq_true] at hc
  exact wpAnyH_take (nth_of hi) hc.1 hc.2.1 hc.2.2 hQ (.inl ⟨hw, hy⟩) hS h
/-- Operations that are not wanted, one behind another: (number, slot). -/
def fitN (md : Region.Mode) (ops : Array Oper) : List (Nat × Nat) → Array Bool → Act → Bool
  | [], _, _ => true
  | p :: l, listed, a => fitH md ops listed p.1 && ((ops[p.1]?.any fun o => decide (o.dst = some p.2) && !Region.wanted o (yielded ops a.tmps)) && fitN md ops l (listed.setIfInBounds p.1 true) (a.put (some p.2) undef))
theorem kN (n : Nat) (l : List (Nat × Nat)) {fuel : Nat} {listed : Array Bool} {a : Act} {w : World} (hf : fuel = n + l.length) (hc : fitN md ops l listed a = true)
    (hQ : ∀ d c a w, Q (.panic c) (a.put (some d) undef) w → Q (.panic c) a w) (hS : S w)
    (h : wpAnyH P md ops Q S n (l.foldl (fun x p => x.setIfInBounds p.1 true) listed) (l.foldl (fun a p => a.put (some p.2) undef) a) w) : wpAnyH P md ops Q S fuel listed a w := by
  subst hf
  induction l generalizing listed a with
  | nil => exact h
  | cons p l ih =>
    unfold fitN fitH at hc
    simp only [Bool.and_eq_true] at hc
    obtain ⟨⟨h1, h2, h3⟩, h4, h5⟩ := hc
    obtain ⟨o, ho, hd⟩ : ∃ o, ops[p.1]? = some o ∧ (o.dst = some p.2 ∧ Region.wanted o (yielded ops a.tmps) = false) := by
      cases e : ops[p.1]? with
      | none => rw [e] at h4; cases h4
      | some o =>
        rw [e] at h4
        simp only [Option.any_some, Bool.and_eq_true, decide_eq_true_eq, Bool.not_eq_true'] at h4
        exact ⟨o, rfl, h4⟩
    refine wpAnyH_take ho h1 h2 h3 (by rw [hd.1]; exact hQ p.2) (.inr ⟨hd.2, rfl⟩) hS ?_
    rw [hd.1]
    exact ih h5 h
/-- The one operation that may come up is carried out. -/
theorem kC (i : Nat) {oi : Oper} {rest : List Oper} {fuel : Nat} {listed : Array Bool} {a : Act} {w : World} (hi : ops.toList.drop i = oi :: rest) (hr : Region.ready md ops listed = [i])
    (h : ∀ K' : Act → World → Prop, Shut (∀ a w, S w → (S w → wpAnyH P md ops Q S fuel (listed.setIfInBounds i true) a w) → K' a w) → if Region.wanted oi (yielded ops a.tmps) = true then Oper.wp P oi a w K' Q else K' (a.put oi.dst undef) w) :
    wpAnyH P md ops Q S (fuel + 1) listed a w := wpAnyH_ready hr (by simp) (AllReadyH.cons (nth_of hi) h AllReadyH.nil)
end
theorem k0 {α : Type} {l : List α} {i : Nat} {a : α} : l.toArray.setIfInBounds i a = (l.set i a).toArray := List.setIfInBounds_toArray ..
theorem k1 {α : Type} {x a : α} {l : List α} : (x :: l).set 0 a = a :: l := rfl
theorem k2 {α : Type} {x a : α} {l : List α} {n : Nat} : (x :: l).set (n + 1) a = x :: l.set n a := rfl
theorem k3 {α β : Type} {f : α → β → α} {a : α} {b : β} {l : List β} : (b :: l).foldl f a = l.foldl f (f a b) := rfl
theorem k4 {α β : Type} {f : α → β → α} {a : α} : ([] : List β).foldl f a = a := rfl
theorem ceT {α : Type} [DecidableEq α] {a b : α} (h : a = b) : decide (a = b) = true ∧ (a == b) = true ∧ (a != b) = false := by subst h; simp
theorem ceF {α : Type} [DecidableEq α] {a b : α} (h : ¬ a = b) : decide (a = b) = false ∧ (a == b) = false ∧ (a != b) = true := by simp [h]
end Go.Proofs.YtdemmjofggemhaaDoor
