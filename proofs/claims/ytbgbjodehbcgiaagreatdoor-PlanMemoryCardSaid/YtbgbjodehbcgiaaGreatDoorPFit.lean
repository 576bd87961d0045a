/- A plan's builder and the forest agree; the plan as the document makes it. No program in sight. -/
import Derived.Test.YtbgbjodehbcgiaaGreatDoorPGrow
import Derived.Test.YtbgbjodehbcgiaaGreatDoorPDefs
import Derived.Test.YtbgbjodehbcgiaaGreatDoorReplLaw
namespace Go.Proofs.YtbgbjodehbcgiaaGreatDoor

def GN.p (m : GN) : PNd := ⟨m.kind, m.atom, lst m.set, m.src, m.side, -1, false⟩
structure Fit (L : Lt) (b : PB) (g : Gr) : Prop where
  nodes : b.nodes = g.nodes.map GN.p
  key : ∀ x ∈ L, x.1 < b.sets.length ∧ x.1 < b.pres.length
  set : ∀ x ∈ L, ed b.sets x.1 = x.2
  pres : ∀ x ∈ L, pz b.pres x.1 = (g.at_ x.1 : Nat)
def startPB (E : List (BitVec 32)) : PB := ⟨(leafG E).map GN.p, E, (List.range E.length).map Int.ofNat⟩
theorem pz_range {n i : Nat} (h : i < n) : pz ((List.range n).map Int.ofNat) i = i := by
  simp [pz, h]
theorem fit_begin (E : List (BitVec 32)) : Fit (beginE E) (startPB E) ⟨leafG E, id⟩ := by
  refine ⟨rfl, fun x hx => ?_, fun x hx => ?_, fun x hx => ?_⟩
  · have := (mem_begin.1 hx).1
    exact ⟨this, by show _ < ((List.range E.length).map Int.ofNat).length; simp; exact this⟩
  · exact (mem_begin.1 hx).2.symm
  · exact pz_range (mem_begin.1 hx).1
theorem ed_set_eq {S : List (BitVec 32)} {i : Nat} (h : i < S.length) (x : BitVec 32) : ed (S.set i x) i = x := by simp [ed, h]
theorem ed_set_ne {S : List (BitVec 32)} {i j : Nat} (h : i ≠ j) (x : BitVec 32) : ed (S.set i x) j = ed S j := by simp [ed, h]
theorem pz_set_eq {S : List Int} {i : Nat} (h : i < S.length) (x : Int) : pz (S.set i x) i = x := by simp [pz, h]
theorem pz_set_ne {S : List Int} {i j : Nat} (h : i ≠ j) (x : Int) : pz (S.set i x) j = pz S j := by simp [pz, h]
theorem Fit.step {L : Lt} {b : PB} {g : Gr} {keep : BitVec 32} {s : Stp} (hs : Srt L) (h : Fit L b g) (st : IsStp L keep s) : Fit (makeE L s) (stepPB b s) (stepG L g s) := by
  have hlen : b.nodes.length = g.nodes.length := by rw [h.nodes]; simp
  rcases st.cases hs with ⟨x, hx, hc, rfl⟩ | ⟨x, hx, y, hy, k, hne, hk, hsub, rfl⟩
  · have e1 : stepPB b ⟨1, x.1, 0, cutE L keep x⟩ = ⟨b.nodes ++ [⟨2, 0, lst (ed b.sets x.1 &&& ~~~cutE L keep x), pz b.pres x.1, 0, -1, false⟩], b.sets.set x.1 (ed b.sets x.1 &&& ~~~cutE L keep x), b.pres.set x.1 b.nodes.length⟩ := by
      unfold stepPB; rw [if_pos rfl]; rfl
    have e2 : stepG L g ⟨1, x.1, 0, cutE L keep x⟩ = ⟨g.nodes ++ [⟨2, 0, x.2 &&& ~~~cutE L keep x, g.at_ x.1, 0⟩], upN g.at_ x.1 g.nodes.length⟩ := by
      unfold stepG nodeG atG; rw [if_pos rfl, if_pos rfl]
      show Gr.mk (g.nodes ++ [⟨2, 0, setAt L x.1 &&& _, g.at_ x.1, 0⟩]) _ = _
      rw [setAt_eq hs hx]; rfl
    obtain ⟨k1, k2⟩ := h.key x hx
    have hmem : ∀ y ∈ makeE L ⟨1, x.1, 0, cutE L keep x⟩, y = (x.1, x.2 &&& ~~~cutE L keep x) ∨ (y ∈ L ∧ x.1 ≠ y.1) := fun y hy => by
      obtain ⟨z, hz, ⟨a, _, rfl⟩ | ⟨a, rfl⟩⟩ := mem_make.1 hy
      · have : z = x := hs.uniq hz hx (Int.ofNat.inj a)
        subst this; exact .inl rfl
      · exact .inr ⟨hz, fun e => a (by show (y.1 : Int) = x.1; omega)⟩
    rw [e1, e2, h.set x hx, h.pres x hx]
    refine ⟨?_, fun y hy => ?_, fun y hy => ?_, fun y hy => ?_⟩
    · show b.nodes ++ _ = (g.nodes ++ _).map GN.p
      rw [List.map_append, ← h.nodes]; rfl
    · show _ < (b.sets.set _ _).length ∧ _ < (b.pres.set _ _).length
      rw [List.length_set, List.length_set]
      rcases hmem y hy with rfl | ⟨a, _⟩
      · exact ⟨k1, k2⟩
      · exact h.key y a
    · show ed (b.sets.set _ _) _ = _
      rcases hmem y hy with rfl | ⟨a, c⟩
      · exact ed_set_eq k1 _
      · rw [ed_set_ne c]; exact h.set y a
    · show pz (b.pres.set _ _) _ = (upN _ _ _ _ : Nat)
      rcases hmem y hy with rfl | ⟨a, c⟩
      · rw [pz_set_eq k2, upN_eq, hlen]
      · rw [pz_set_ne c, upN_ne _ _ (Ne.symm c)]; exact h.pres y a
  · have e1 : stepPB b ⟨k, x.1, y.1, 0#32⟩ = ⟨b.nodes ++ [⟨3, 0, lst (ed b.sets y.1), pz b.pres y.1, pz b.pres x.1, -1, false⟩], b.sets, b.pres.set y.1 b.nodes.length⟩ := by
      unfold stepPB; rw [if_neg hk]; rfl
    have e2 : stepG L g ⟨k, x.1, y.1, 0#32⟩ = ⟨g.nodes ++ [⟨3, 0, y.2, g.at_ y.1, g.at_ x.1⟩], upN g.at_ y.1 g.nodes.length⟩ := by
      unfold stepG nodeG atG; rw [if_neg hk, if_neg hk]
      show Gr.mk (g.nodes ++ [⟨3, 0, setAt L y.1, g.at_ y.1, g.at_ x.1⟩]) _ = _
      rw [setAt_eq hs hy]; rfl
    obtain ⟨k1, k2⟩ := h.key y hy
    have hmem : ∀ z ∈ makeE L ⟨k, x.1, y.1, 0#32⟩, z ∈ L := fun z hz => by
      obtain ⟨w, hw, ⟨_, a, _⟩ | ⟨_, rfl⟩⟩ := mem_make.1 hz
      · exact absurd a hk
      · exact hw
    rw [e1, e2, h.set y hy, h.pres x hx, h.pres y hy]
    refine ⟨?_, fun z hz => ?_, fun z hz => h.set z (hmem z hz), fun z hz => ?_⟩
    · show b.nodes ++ _ = (g.nodes ++ _).map GN.p
      rw [List.map_append, ← h.nodes]; rfl
    · show _ ∧ _ < (b.pres.set _ _).length
      rw [List.length_set]; exact h.key z (hmem z hz)
    · show pz (b.pres.set _ _) _ = (upN _ _ _ _ : Nat)
      by_cases c : z.1 = y.1
      · rw [c, pz_set_eq k2, upN_eq, hlen]
      · rw [pz_set_ne (Ne.symm c), upN_ne _ _ c]; exact h.pres z (hmem z hz)
theorem Fit.run {keep : BitVec 32} {L M : Lt} {ss : List Stp} (r : Rch keep L ss M) (hs : Srt L) {b : PB} {g : Gr} (h : Fit L b g) : Fit M (ss.foldl stepPB b) (growG L g ss) := by
  induction r generalizing b g with
  | nil => exact h
  | cons st _ ih => exact ih hs.make (h.step hs st)
/-- The present nodes of the edges that are left, by their new numbers. -/
def at2 (L : Lt) (g : Gr) : Nat → Nat := fun i => g.at_ (lft L i).1
def pres2 (L : Lt) (P : List Int) : List Int := L.map fun x => pz P x.1
theorem fit_second {L : Lt} {b : PB} {g : Gr} (h : Fit L b g) : Fit (beginE (setsL L)) ⟨b.nodes, setsL L, pres2 L b.pres⟩ ⟨g.nodes, at2 L g⟩ := by
  have hl : (setsL L).length = L.length := by simp [setsL]
  refine ⟨h.nodes, fun x hx => ?_, fun x hx => ?_, fun x hx => ?_⟩
  · have := (mem_begin.1 hx).1
    exact ⟨this, by show _ < (L.map _).length; rw [List.length_map]; omega⟩
  · exact (mem_begin.1 hx).2.symm
  · have := (mem_begin.1 hx).1
    have hi : x.1 < L.length := by omega
    show pz (L.map _) x.1 = ((g.at_ (lft L x.1).1 : Nat) : Int)
    rw [← h.pres (lft L x.1) (by rw [← lft_eq L x.1 hi]; exact List.getElem_mem _)]
    simp [pz, hi, lft]
end Go.Proofs.YtbgbjodehbcgiaaGreatDoor
