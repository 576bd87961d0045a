/- A plan that a query has: its size; a plan to be read, wherever its parts lie. (The same two stand in LPMakes.) -/
import Derived.Test.YtdemmjofggemhaaDoorBO
import Derived.Test.YtdemmjofggemhaaDoorPPlan
import Derived.Test.YtdemmjofggemhaaDoorPSeen
namespace Go.Proofs.YtdemmjofggemhaaDoor
open Go.RowKit

theorem szp_of {q : Qy} {p : PPlan} {code : Int} (hq : SzQ q) (h : MakeIs q p code) : SzP p := by
  have key : SzP noPlan := ⟨by decide, by decide, by decide, (fun m hm => by cases hm), by decide⟩
  rcases h with ⟨_, rfl, _⟩ | ⟨_, _, rfl, _⟩ | ⟨_, _, _, rfl, _⟩ | ⟨hs, _, n, hF, rfl, _⟩
  · exact key
  · exact key
  · exact key
  · have hg := shapeC_iff.1 hs
    have hl := qvars_length hg.narrow hg.few
    have hf := hq.few
    have h6 : (ofE q).length ≤ 6 := by rw [ofE_length]; exact hg.few
    have hE : ofE q ≠ [] := fun c => by
      have h1 := hg.some_
      rw [← ofE_length, c] at h1
      simp at h1
    have hn := hF.1
    have h1 := nodes_few (head := headW q) hE hn
    have h2 := tops_few (head := headW q) hE hn
    have e1 : (nodesE (ofE q) (headW q) n).length ≤ 28 := by rw [nodesE_length]; omega
    have e2 : (topsE (ofE q) (headW q) n).length ≤ 28 := by omega
    have e3 : ∀ m ∈ nodesE (ofE q) (headW q) n, m.vars.length ≤ 32 := fun m hm => by
      obtain ⟨i, hi, rfl⟩ := List.mem_iff_getElem.1 hm
      rw [nd_eq _ i hi, nodesE_at hn (by simpa using hi)]
      exact lst_len (gn (grow2 (ofE q) (headW q) n).nodes i).set
    unfold planE
    generalize nodesE (ofE q) (headW q) n = NN at e1 e3
    generalize topsE (ofE q) (headW q) n = TT at e2
    generalize rootE (ofE q) (headW q) n = RR
    refine ⟨?_, ?_, ?_, fun m hm => ?_, ?_⟩
    · show (qvars q.atoms).length ≤ 8796093022208
      omega
    · show (q.head.map _).length ≤ 35184372087808
      rw [List.length_map]; omega
    · show NN.length ≤ 1954687338268
      omega
    · have := e3 m hm
      omega
    · show TT.length ≤ 35184372087808
      omega
/-- A plan to be read, wherever its parts lie. -/
def PRs (w : World) (p : PPlan) (AV AH AN AT : Option Addr) : Prop := Rd w w.heap.size AV (ss p.vars) ∧ Rd w w.heap.size AH (is p.head) ∧ NdR w w.heap.size AN p.nodes ∧ Rd w w.heap.size AT (is p.tops)
theorem PRs.later {w w' : World} {p : PPlan} {AV AH AN AT : Option Addr} (h : PRs w p AV AH AN AT) (hb : Below w.heap.size w w') : PRs w' p AV AH AN AT := ⟨h.1.later hb, h.2.1.later hb, h.2.2.1.later hb, h.2.2.2.later hb⟩
theorem small_name {x : ByteArray} (h : nameB x = true) : x.size ≤ 16 := by
  unfold nameB at h
  simp only [Bool.and_eq_true, decide_eq_true_eq] at h
  exact h.1.1.2
/-- A query named anew is no greater than a machine holds. -/
theorem szq_ren {q : Qy} {f : ByteArray → ByteArray} (hq : SzQ q) (hg : GoodQ q) (h : RenOk f (qvars q.atoms)) : SzQ (renQ f q) := by
  refine ⟨hq.name, by simpa [renQ] using hq.few, fun x hx => ?_, by simpa [renQ] using hq.fewA, fun a ha => ?_⟩
  · obtain ⟨y, hy, rfl⟩ := List.mem_map.1 hx
    have := small_name (h.name y (hg.safe y hy))
    omega
  · obtain ⟨b, hb, rfl⟩ := List.mem_map.1 ha
    have hs := hq.atoms b hb
    refine ⟨hs.rel, by simpa [renA] using hs.few, fun t ht => ?_⟩
    obtain ⟨u, hu, rfl⟩ := List.mem_map.1 ht
    have hz := hs.terms u hu
    by_cases c : u.var = ByteArray.empty
    · rw [show renT f u = u from if_pos c]; exact hz
    · rw [show renT f u = ⟨f u.var, u.kind, u.num, u.text⟩ from if_neg c]
      have := small_name (h.name _ (mem_qvars.2 ⟨c, b, hb, u, hu, rfl⟩))
      exact ⟨by show (f u.var).size ≤ _; omega, hz.text⟩
end Go.Proofs.YtdemmjofggemhaaDoor
