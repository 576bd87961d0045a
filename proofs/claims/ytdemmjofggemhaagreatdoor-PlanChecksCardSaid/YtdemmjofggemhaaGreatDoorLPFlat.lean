/- The walk of osierlaw18.PlanFlat. -/
import Derived.Test.YtdemmjofggemhaaGreatDoorR18Check
import Derived.Test.YtdemmjofggemhaaGreatDoorBU
import Derived.Test.YtdemmjofggemhaaGreatDoorPMake
import Derived.Test.YtdemmjofggemhaaGreatDoorBO
import Derived.Test.YtdemmjofggemhaaGreatDoorBL
import Derived.Test.YtdemmjofggemhaaGreatDoorBG
set_option linter.unusedSimpArgs false
namespace Go.Proofs.YtdemmjofggemhaaGreatDoor
open Go.RowKit

/-- A plan to be read, wherever its parts lie. -/
def PlR (w : World) (p : PPlan) (AV AH AN AT : Option Addr) : Prop := Rd w w.heap.size AV (ss p.vars) ∧ Rd w w.heap.size AH (is p.head) ∧ NdR w w.heap.size AN p.nodes ∧ Rd w w.heap.size AT (is p.tops)
theorem PlR.later {w w' : World} {p : PPlan} {AV AH AN AT : Option Addr} (h : PlR w p AV AH AN AT) (hb : Below w.heap.size w w') : PlR w' p AV AH AN AT := ⟨h.1.later hb, h.2.1.later hb, h.2.2.1.later hb, h.2.2.2.later hb⟩
theorem szp_make {q : Qy} {p : PPlan} {code : Int} (hq : SzQ q) (h : MakeIs q p code) : SzP p := by
  have key : SzP noPlan := ⟨by decide, by decide, by decide, (fun m hm => by cases hm), by decide⟩
  rcases h with ⟨_, rfl, _⟩ | ⟨_, _, rfl, _⟩ | ⟨_, _, _, rfl, _⟩ | ⟨hs, _, n, hF, rfl, _⟩
  · exact key
  · exact key
  · exact key
  · have hg := shapeC_iff.1 hs
    have hl := qvars_length hg.narrow hg.few
    have hf := hq.few
    have hE : ofE q ≠ [] := fun c => by
      have h1 := hg.some_
      rw [← ofE_length, c] at h1
      simp at h1
    have h6 : (ofE q).length ≤ 6 := by rw [ofE_length]; exact hg.few
    have hn := hF.1
    have h1 := nodes_few (head := headW q) hE hn
    have h2 := tops_few (head := headW q) hE hn
    have e1 : (nodesE (ofE q) (headW q) n).length ≤ 28 := by rw [nodesE_length]; omega
    have e2 : (topsE (ofE q) (headW q) n).length ≤ 28 := by omega
    have e3 : ∀ m ∈ nodesE (ofE q) (headW q) n, m.vars.length ≤ 32 := fun m hm => by
      obtain ⟨i, hi, rfl⟩ := List.mem_iff_getElem.1 hm
      rw [nd_eq _ i hi, nodesE_at hn (by simpa using hi)]
      exact lst_len (gn (grow2 (ofE q) (headW q) n).nodes i).set
    unfold planE
    generalize nodesE (ofE q) (headW q) n = NN at e1 e3
    generalize topsE (ofE q) (headW q) n = TT at e2
    generalize rootE (ofE q) (headW q) n = RR
    refine ⟨?_, ?_, ?_, fun m hm => ?_, ?_⟩
    · show (qvars q.atoms).length ≤ 8796093022208
      omega
    · show (q.head.map _).length ≤ 35184372087808
      rw [List.length_map]; omega
    · show NN.length ≤ 1954687338268
      omega
    · have := e3 m hm
      omega
    · show TT.length ≤ 35184372087808
      omega
theorem SzP.l {p : PPlan} (h : SzP p) : SzL p := ⟨h.vars, h.head, h.nodes, h.nvars, h.tops⟩
end Go.Proofs.YtdemmjofggemhaaGreatDoor
