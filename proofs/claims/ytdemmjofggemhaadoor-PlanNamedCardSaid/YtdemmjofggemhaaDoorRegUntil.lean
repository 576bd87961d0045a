/- A drawn region whose loads are held as far as one of its operations, a store, that must wait for them: what holds of the memory is asked no longer than that. -/
import Derived.Deep.RegionHeld
namespace Go.Proofs.YtdemmjofggemhaaDoor
open Go

section
variable {P : Program} {ops : Array Oper} {Q : Exit → Act → World → Prop} {md : Region.Mode} {S : World → Prop} {l : Nat}

/-- What is listed has what it waits for listed. -/
def shutB (md : Region.Mode) (ops : Array Oper) (listed : Array Bool) : Bool :=
  (List.range ops.size).all fun j => !listed.getD j false || ((ops[j]?).map (·.after.all fun e => !Region.binds md e || listed.getD e.on false)).getD true
def ShutL (md : Region.Mode) (ops : Array Oper) (listed : Array Bool) : Prop :=
  ∀ j o, ops[j]? = some o → listed.getD j false = true → ∀ e ∈ o.after, Region.binds md e = true → listed.getD e.on false = true
theorem shutB_out {listed : Array Bool} (h : shutB md ops listed = true) : ShutL md ops listed := fun j o ho hj e he hb => by
  unfold shutB at h
  have hlt : j < ops.size := (Array.getElem?_eq_some_iff.1 ho).1
  have h1 := List.all_eq_true.1 h j (List.mem_range.2 hlt)
  rw [hj, ho] at h1
  simp only [Bool.not_true, Bool.false_or, Option.map_some, Option.getD_some, Array.all_eq_true'] at h1
  have h2 := h1 e he
  rw [hb] at h2
  simpa using h2
theorem ShutL.set {listed : Array Bool} (h : ShutL md ops listed) {j : Nat} (hj : j ∈ Region.ready md ops listed) : ShutL md ops (listed.setIfInBounds j true) := fun k o ho hk e he hb => by
  by_cases c : j = k
  · subst c
    obtain ⟨_, o', ho', hall⟩ := mem_ready.1 hj
    rw [ho] at ho'
    injection ho' with ho'
    subst ho'
    exact getD_set_true (hall e he hb)
  · rw [getD_set_ne false c] at hk
    exact getD_set_true (h k o ho hk e he hb)
/-- Does l wait for i, by this way? -/
def waitsP (md : Region.Mode) (ops : Array Oper) (i : Nat) : List Nat → Nat → Bool
  | [], l => l == i
  | k :: ks, l => ((ops[l]?).map (·.after.any fun e => Region.binds md e && e.on == k)).getD false && waitsP md ops i ks k
theorem waits_out {listed : Array Bool} (h : ShutL md ops listed) {i : Nat} (hi : listed.getD i false = false) : ∀ (ks : List Nat) (l : Nat), waitsP md ops i ks l = true → listed.getD l false = false
  | [], l, hw => by
    have : l = i := by simpa [waitsP] using hw
    rw [this]; exact hi
  | k :: ks, l, hw => by
    unfold waitsP at hw
    rw [Bool.and_eq_true] at hw
    obtain ⟨hw, hw2⟩ := hw
    cases ho : ops[l]? with
    | none => rw [ho] at hw; simp at hw
    | some o =>
      rw [ho] at hw
      simp only [Option.map_some, Option.getD_some, Array.any_eq_true'] at hw
      obtain ⟨e, he, hw⟩ := hw
      rw [Bool.and_eq_true] at hw
      obtain rfl : e.on = k := by simpa using hw.2
      cases hl : listed.getD l false with
      | false => rfl
      | true =>
        have h1 := h l o ho hl e he hw.1
        rw [waits_out h hi ks e.on hw2] at h1
        cases h1
theorem getD_tf {listed : Array Bool} {i : Nat} (h : listed.getD i true = false) : listed.getD i false = false := by
  rcases Nat.lt_or_ge i listed.size with c | c
  · simp [c] at h ⊢; exact h
  · simp [Array.getElem?_eq_none c] at h

/-- Whatever order is picked from here on, and S holds behind every operation as long as number l has not come up. -/
def wpAnyU (P : Program) (md : Region.Mode) (ops : Array Oper) (Q : Exit → Act → World → Prop) (l : Nat) (S : World → Prop) : Nat → Array Bool → Act → World → Prop
  | 0, listed, a, w => Region.ready md ops listed = [] ∧ Q .normal a w
  | fuel + 1, listed, a, w =>
    (Region.ready md ops listed = [] → Q .normal a w) ∧
    ∀ i ∈ Region.ready md ops listed, wpOp P ops Q i (fun a' w' => ((listed.setIfInBounds i true).getD l false = false → S w') ∧ wpAnyU P md ops Q l S fuel (listed.setIfInBounds i true) a' w') a w
theorem wpAny_of_until : ∀ (fuel : Nat) (listed : Array Bool) (a : Act) (w : World), wpAnyU P md ops Q l S fuel listed a w → wpAny P md ops Q fuel listed a w
  | 0, _, _, _, h => h
  | fuel + 1, _, _, _, h => ⟨h.1, fun i hi => wpOp_mono (fun a' w' h' => wpAny_of_until fuel _ a' w' h'.2) (h.2 i hi)⟩
theorem wpAnyU_first {i : Nat} {oi : Oper} {v : Value} {ks : List Nat} (hi : ops[i]? = some oi) (hsel : ∀ (j : Nat) (o : Oper) cs b, ops[j]? = some o → o.op ≠ .select cs b)
    (hQ : ∀ c a w, Q (.panic c) (a.put oi.dst v) w → Q (.panic c) a w) (hwait : waitsP md ops i ks l = true) (hil : l ≠ i) :
    ∀ (fuel : Nat) (listed : Array Bool) (a : Act) (w : World), ShutL md ops listed →
      (∀ j oj, ops[j]? = some oj → j ≠ i → listed.getD j true = false → (∀ e ∈ oj.after, Region.binds md e = true → e.on ≠ i) → oi.apart ops oj = true) →
      i ∈ Region.ready md ops listed → YieldsIf P ops S oi v a → S w →
      wpAnyU P md ops Q l S fuel (listed.setIfInBounds i true) (a.put oi.dst v) w → wpAnyU P md ops Q l S (fuel + 1) listed a w := by
  intro fuel
  induction fuel with
  | zero =>
    intro listed a w _ _ hr hy hS H
    refine ⟨fun h => absurd hr (by rw [h]; simp), fun j hj => ?_⟩
    by_cases hji : j = i
    · subst hji; exact hy.wpOp hi hS ⟨fun _ => hS, H⟩
    · exact absurd (ready_mono hj hji) (by rw [H.1]; simp)
  | succ fuel ih =>
    intro listed a w hsh hfree hr hy hS H
    refine ⟨fun h => absurd hr (by rw [h]; simp), fun j hj => ?_⟩
    by_cases hji : j = i
    · subst hji; exact hy.wpOp hi hS ⟨fun _ => hS, H⟩
    · have hiun := (mem_ready.1 hr).1
      obtain ⟨hjun, oj, hoj, hall⟩ := mem_ready.1 hj
      have hnot : ∀ e ∈ oj.after, Region.binds md e = true → e.on ≠ i := fun e he hb c => by
        have h1 := hall e he hb
        rw [c, getD_tf hiun] at h1
        cases h1
      have h2 := wpOp_putIf hoj (hfree j oj hoj hji hjun hnot) (fun cs b => hsel i oi cs b hi) (fun cs b => hsel j oj cs b hoj) hQ hy (H.2 j (ready_mono hj hji))
      have hsh' := hsh.set hj
      have hiun' : (listed.setIfInBounds j true).getD i true = false := by rw [getD_set_ne true hji]; exact hiun
      have hlun : (listed.setIfInBounds j true).getD l false = false := waits_out hsh' (getD_tf hiun') ks l hwait
      have hlun2 : ((listed.setIfInBounds i true).setIfInBounds j true).getD l false = false := by
        rw [Array.setIfInBounds_comm _ _ (Ne.symm hji), getD_set_ne false (Ne.symm hil)]; exact hlun
      refine wpOp_mono (fun a' w' h3 => ?_) h2
      have hS' : S w' := h3.2.1 hlun2
      refine ⟨fun _ => hS', ih _ a' w' hsh' (fun k ok hk hki hun hno => ?_) (ready_mono hr (Ne.symm hji)) h3.1 hS' ?_⟩
      · refine hfree k ok hk hki ?_ hno
        by_cases c : j = k
        · subst c; exact hjun
        · rw [getD_set_ne true c] at hun; exact hun
      · rw [Array.setIfInBounds_comm _ _ hji]
        exact h3.2.2
/-- What yields in whatever world. -/
theorem wpAnyU_firstN {i : Nat} {oi : Oper} {v : Value} (hi : ops[i]? = some oi) (hsel : ∀ (j : Nat) (o : Oper) cs b, ops[j]? = some o → o.op ≠ .select cs b)
    (hQ : ∀ c a w, Q (.panic c) (a.put oi.dst v) w → Q (.panic c) a w) (hil : l ≠ i) :
    ∀ (fuel : Nat) (listed : Array Bool) (a : Act) (w : World),
      (∀ j oj, ops[j]? = some oj → j ≠ i → listed.getD j true = false → (∀ e ∈ oj.after, Region.binds md e = true → e.on ≠ i) → oi.apart ops oj = true) →
      i ∈ Region.ready md ops listed → YieldsIf P ops (fun _ => True) oi v a → (listed.getD l false = false → S w) →
      wpAnyU P md ops Q l S fuel (listed.setIfInBounds i true) (a.put oi.dst v) w → wpAnyU P md ops Q l S (fuel + 1) listed a w := by
  intro fuel
  induction fuel with
  | zero =>
    intro listed a w _ hr hy hS H
    refine ⟨fun h => absurd hr (by rw [h]; simp), fun j hj => ?_⟩
    by_cases hji : j = i
    · subst hji; exact hy.wpOp hi trivial ⟨fun c => hS (by rwa [getD_set_ne false (Ne.symm hil)] at c), H⟩
    · exact absurd (ready_mono hj hji) (by rw [H.1]; simp)
  | succ fuel ih =>
    intro listed a w hfree hr hy hS H
    refine ⟨fun h => absurd hr (by rw [h]; simp), fun j hj => ?_⟩
    by_cases hji : j = i
    · subst hji; exact hy.wpOp hi trivial ⟨fun c => hS (by rwa [getD_set_ne false (Ne.symm hil)] at c), H⟩
    · have hiun := (mem_ready.1 hr).1
      obtain ⟨hjun, oj, hoj, hall⟩ := mem_ready.1 hj
      have hnot : ∀ e ∈ oj.after, Region.binds md e = true → e.on ≠ i := fun e he hb c => by
        have h1 := hall e he hb
        rw [c, getD_tf hiun] at h1
        cases h1
      have h2 := wpOp_putIf hoj (hfree j oj hoj hji hjun hnot) (fun cs b => hsel i oi cs b hi) (fun cs b => hsel j oj cs b hoj) hQ hy (H.2 j (ready_mono hj hji))
      refine wpOp_mono (fun a' w' h3 => ?_) h2
      have hS' : (listed.setIfInBounds j true).getD l false = false → S w' := fun c => h3.2.1 (by
        rw [Array.setIfInBounds_comm _ _ (Ne.symm hji), getD_set_ne false (Ne.symm hil)]; exact c)
      refine ⟨hS', ih _ a' w' (fun k ok hk hki hun hno => ?_) (ready_mono hr (Ne.symm hji)) h3.1 hS' ?_⟩
      · refine hfree k ok hk hki ?_ hno
        by_cases c : j = k
        · subst c; exact hjun
        · rw [getD_set_ne true c] at hun; exact hun
      · rw [Array.setIfInBounds_comm _ _ hji]
        exact h3.2.2
/-! ### The moves of a walk -/
theorem wpAnyU_take {i : Nat} (ks : List Nat) {oi : Oper} {v : Value} {fuel : Nat} {listed : Array Bool} {a : Act} {w : World} (hi : ops[i]? = some oi)
    (hs : (Region.noSelect ops && shutB md ops listed && waitsP md ops i ks l && !(l == i) && Region.free md ops listed i && (Region.ready md ops listed).contains i) = true)
    (hQ : ∀ c a w, Q (.panic c) (a.put oi.dst v) w → Q (.panic c) a w) (hy : YieldsIf P ops S oi v a) (hS : S w)
    (h : wpAnyU P md ops Q l S fuel (listed.setIfInBounds i true) (a.put oi.dst v) w) : wpAnyU P md ops Q l S (fuel + 1) listed a w := by
  simp only [Bool.and_eq_true] at hs
  obtain ⟨⟨⟨⟨⟨h1, h2⟩, h3⟩, h4⟩, h5⟩, h6⟩ := hs
  exact wpAnyU_first hi (Region.noSelect_spec h1) hQ h3 (by simpa using h4) fuel listed a w (shutB_out h2) (Region.free_spec hi h5) (by simpa using h6) hy hS h
theorem wpAnyU_takeN {i : Nat} {oi : Oper} {v : Value} {fuel : Nat} {listed : Array Bool} {a : Act} {w : World} (hi : ops[i]? = some oi)
    (hs : (Region.noSelect ops && !(l == i) && Region.free md ops listed i && (Region.ready md ops listed).contains i) = true)
    (hQ : ∀ c a w, Q (.panic c) (a.put oi.dst v) w → Q (.panic c) a w) (hy : YieldsIf P ops (fun _ => True) oi v a) (hS : S w)
    (h : wpAnyU P md ops Q l S fuel (listed.setIfInBounds i true) (a.put oi.dst v) w) : wpAnyU P md ops Q l S (fuel + 1) listed a w := by
  simp only [Bool.and_eq_true] at hs
  obtain ⟨⟨⟨h1, h4⟩, h5⟩, h6⟩ := hs
  exact wpAnyU_firstN hi (Region.noSelect_spec h1) hQ (by simpa using h4) fuel listed a w (Region.free_spec hi h5) (by simpa using h6) hy (fun _ => hS) h
/-- The moves in short: a read that yields where S holds (uL), what yields in whatever world (uN), what is not wanted (uX). -/
theorem u_nth {i : Nat} {oi : Oper} {rest : List Oper} (hi : ops.toList.drop i = oi :: rest) : ops[i]? = some oi := by
  rw [← Array.getElem?_toList, ← List.head?_drop, hi]; rfl
theorem uL (i : Nat) (ks : List Nat) {oi : Oper} {rest : List Oper} {v : Value} {fuel : Nat} {listed : Array Bool} {a : Act} {w : World} (hS : S w)
    (h : wpAnyU P md ops Q l S fuel (listed.setIfInBounds i true) (a.put oi.dst v) w)
    (hi : ops.toList.drop i = oi :: rest := by rfl)
    (hs : (Region.noSelect ops && shutB md ops listed && waitsP md ops i ks l && !(l == i) && Region.free md ops listed i && (Region.ready md ops listed).contains i) = true := by kernel_rfl)
    (hQ : ∀ c a w, Q (.panic c) (a.put oi.dst v) w → Q (.panic c) a w := by exact fun _ _ _ h => h) (hw : Region.wanted oi (yielded ops a.tmps) = true := by rfl)
    (hy : ∀ w, S w → (execOp a.eval oi).run P w = .ok (.value v) w := by (intro w h; (try dsimp only at h); go_simp; try with_reducible rfl)) : wpAnyU P md ops Q l S (fuel + 1) listed a w :=
  wpAnyU_take ks (u_nth hi) hs hQ (.inl ⟨hw, hy⟩) hS h
theorem uN (i : Nat) {oi : Oper} {rest : List Oper} {v : Value} {fuel : Nat} {listed : Array Bool} {a : Act} {w : World} (hS : S w)
    (h : wpAnyU P md ops Q l S fuel (listed.setIfInBounds i true) (a.put oi.dst v) w)
    (hi : ops.toList.drop i = oi :: rest := by rfl)
    (hs : (Region.noSelect ops && !(l == i) && Region.free md ops listed i && (Region.ready md ops listed).contains i) = true := by kernel_rfl)
    (hQ : ∀ c a w, Q (.panic c) (a.put oi.dst v) w → Q (.panic c) a w := by exact fun _ _ _ h => h) (hw : Region.wanted oi (yielded ops a.tmps) = true := by rfl)
    (hy : ∀ w, True → (execOp a.eval oi).run P w = .ok (.value v) w := by (intro w h; (try dsimp only at h); go_simp; try with_reducible rfl)) : wpAnyU P md ops Q l S (fuel + 1) listed a w :=
  wpAnyU_takeN (u_nth hi) hs hQ (.inl ⟨hw, hy⟩) hS h
theorem uX (i : Nat) {oi : Oper} {rest : List Oper} {fuel : Nat} {listed : Array Bool} {a : Act} {w : World} (hS : S w)
    (h : wpAnyU P md ops Q l S fuel (listed.setIfInBounds i true) (a.put oi.dst undef) w)
    (hi : ops.toList.drop i = oi :: rest := by rfl)
    (hs : (Region.noSelect ops && !(l == i) && Region.free md ops listed i && (Region.ready md ops listed).contains i) = true := by kernel_rfl)
    (hQ : ∀ c a w, Q (.panic c) (a.put oi.dst undef) w → Q (.panic c) a w := by exact fun _ _ _ h => h) (hw : Region.wanted oi (yielded ops a.tmps) = false := by rfl) : wpAnyU P md ops Q l S (fuel + 1) listed a w :=
  wpAnyU_takeN (u_nth hi) hs hQ (.inr ⟨hw, rfl⟩) hS h
theorem uA {α : Type} {l : List α} {i : Nat} {a : α} : l.toArray.setIfInBounds i a = (l.set i a).toArray := List.setIfInBounds_toArray ..
theorem u0 {α : Type} {x a : α} {l : List α} : (x :: l).set 0 a = a :: l := rfl
theorem u1 {α : Type} {x a : α} {l : List α} {n : Nat} : (x :: l).set (n + 1) a = x :: l.set n a := rfl
/-- The one operation that may come up, before the store: S is shown anew. -/
theorem wpAnyU_one {i : Nat} {o : Oper} {fuel : Nat} {listed : Array Bool} {a : Act} {w : World} (hr : Region.ready md ops listed = [i]) (ho : ops[i]? = some o)
    (h : ∀ K' : Act → World → Prop, Shut (∀ a w, S w → (S w → wpAnyU P md ops Q l S fuel (listed.setIfInBounds i true) a w) → K' a w) → if Region.wanted o (yielded ops a.tmps) = true then Oper.wp P o a w K' Q else K' (a.put o.dst undef) w) :
    wpAnyU P md ops Q l S (fuel + 1) listed a w :=
  ⟨fun h0 => absurd h0 (by rw [hr]; simp), fun j hj => by
    rw [hr] at hj
    obtain rfl := List.mem_singleton.1 hj
    exact wpOp_step ho fun K' hK => h K' fun a w hS hW => hK a w ⟨fun _ => hS, hW hS⟩⟩
/-- The store. -/
theorem wpAnyU_last {i : Nat} {o : Oper} {fuel : Nat} {listed : Array Bool} {a : Act} {w : World} (hr : Region.ready md ops listed = [i]) (ho : ops[i]? = some o) (hl : (listed.setIfInBounds i true).getD l false = true)
    (h : ∀ K' : Act → World → Prop, Shut (∀ a w, wpAnyU P md ops Q l S fuel (listed.setIfInBounds i true) a w → K' a w) → if Region.wanted o (yielded ops a.tmps) = true then Oper.wp P o a w K' Q else K' (a.put o.dst undef) w) :
    wpAnyU P md ops Q l S (fuel + 1) listed a w :=
  ⟨fun h0 => absurd h0 (by rw [hr]; simp), fun j hj => by
    rw [hr] at hj
    obtain rfl := List.mem_singleton.1 hj
    exact wpOp_step ho fun K' hK => h K' fun a w hW => hK a w ⟨fun c => (by rw [hl] at c; cases c), hW⟩⟩
theorem wpAnyU_done {listed : Array Bool} {a : Act} {w : World} (hr : Region.ready md ops listed = []) (h : Q .normal a w) : ∀ fuel, wpAnyU P md ops Q l S fuel listed a w
  | 0 => ⟨hr, h⟩
  | _ + 1 => ⟨fun _ => h, by rw [hr]; simp⟩
theorem wp_region_until {id : Nat} {a : Act} {w : World} (l : Nat) (S : World → Prop) (hm : P.follows .mixedOrders = true) (hS : S w.drew)
    (h : S w.drew → wpAnyU P .any ops Q l S ops.size (Array.replicate ops.size false) a w.drew) : (Code.region id ops true).wp P Q a w :=
  wp_region_any hm (wpAny_of_until _ _ _ _ (h hS))
end
end Go.Proofs.YtdemmjofggemhaaDoor
