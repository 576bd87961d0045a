/- Several texts in one: PUpd PAw PBnd LPBounds. -/
import Derived.Test.YtdemmjofggemhaaDoorPNode
import Derived.Test.YtdemmjofggemhaaDoorPPlan
import Derived.Test.YtdemmjofggemhaaDoorPMake
import Derived.Test.YtdemmjofggemhaaDoorQCopy
import Derived.Deep.RegionHeld3
/- plan.Delay, Bound, Update: the contracts. -/
namespace Go.Proofs.YtdemmjofggemhaaDoor
open Go.RowKit

end Go.Proofs.YtdemmjofggemhaaDoor

/- The plan of the query Q(x) :- R(x): what it is. -/
namespace Go.Proofs.YtdemmjofggemhaaDoor

def awQ : Qy := ⟨{ data := #[81] }, [{ data := #[120] }], [⟨{ data := #[82] }, [⟨{ data := #[120] }, 0, 0, ByteArray.empty⟩]⟩]⟩
theorem awQ_make : MakeIs awQ (planE awQ 0) 0 :=
  .inr (.inr (.inr ⟨by decide +kernel, by decide +kernel, 0, ⟨Nat.zero_le _, fun m hm => absurd hm (Nat.not_lt_zero m), .inl ⟨rfl, by decide +kernel⟩⟩, rfl, rfl⟩))
theorem awQ_facts : (planE awQ 0).nodes.length = 2 ∧ (planE awQ 0).root = 1 ∧ (nd (planE awQ 0).nodes 0).kind = 1 ∧ (nd (planE awQ 0).nodes 1).kind = 2 ∧ (planE awQ 0).tops.length = 2 := by
  refine ⟨?_, ?_, ?_, ?_, ?_⟩ <;> decide +kernel
end Go.Proofs.YtdemmjofggemhaaDoor

/- The numbers of a plan that Make gives. -/
namespace Go.Proofs.YtdemmjofggemhaaDoor
open Go.RowKit

end Go.Proofs.YtdemmjofggemhaaDoor

/- The walk of osierlaw18.PlanBounds, and of its awake. -/
namespace Go.Proofs.YtdemmjofggemhaaDoor
open Go.RowKit

theorem awQ_sz : SzQ awQ := by
  refine ⟨by decide, by decide, fun x hx => ?_, by decide, fun a ha => ?_⟩
  · obtain rfl : x = { data := #[120] } := by simpa [awQ] using hx
    decide
  · obtain rfl : a = ⟨{ data := #[82] }, [⟨{ data := #[120] }, 0, 0, ByteArray.empty⟩]⟩ := by simpa [awQ] using ha
    refine ⟨by decide, by decide, fun t ht => ?_⟩
    obtain rfl : t = ⟨{ data := #[120] }, 0, 0, ByteArray.empty⟩ := by simpa using ht
    exact ⟨by decide, by decide⟩
set_option maxRecDepth 100000 in
set_option maxHeartbeats 4000000 in
theorem awake18_any (w : World) (hT : Tab w) : Calls Tryd.prog 5 #[] w fun e w' => e = .returned (.bool true) ∧ Below w.heap.size w w' := by
  go_enter Tryd.func5, Tryd.ntmps5
  have hb0 : Below w.heap.size w (((w.alloc (.cells #[.string { data := #[120] }] 9)).alloc (.cells #[.string { data := #[120] }, .int .i64 0, .int .i64 0, .string { data := #[] }] 52)).alloc (.cells #[.string { data := #[82] }, .slice (some ⟨w.heap.size + 1, 0, none⟩) 1 1] 47)) := ((below_alloc w _).alloc (by simp) _).alloc (by simp; omega) _
  have hr0 : Row (((w.alloc (.cells #[.string { data := #[120] }] 9)).alloc (.cells #[.string { data := #[120] }, .int .i64 0, .int .i64 0, .string { data := #[] }] 52)).alloc (.cells #[.string { data := #[82] }, .slice (some ⟨w.heap.size + 1, 0, none⟩) 1 1] 47)) w.heap.size 9 [.string { data := #[120] }] := ((Row.new w _ _).alloc _).alloc _
  have hr1 : Row (((w.alloc (.cells #[.string { data := #[120] }] 9)).alloc (.cells #[.string { data := #[120] }, .int .i64 0, .int .i64 0, .string { data := #[] }] 52)).alloc (.cells #[.string { data := #[82] }, .slice (some ⟨w.heap.size + 1, 0, none⟩) 1 1] 47)) (w.heap.size + 1) 52 [.string { data := #[120] }, .int .i64 0, .int .i64 0, .string { data := #[] }] := (Row.new_ (by simp)).alloc _
  have hr2 : Row (((w.alloc (.cells #[.string { data := #[120] }] 9)).alloc (.cells #[.string { data := #[120] }, .int .i64 0, .int .i64 0, .string { data := #[] }] 52)).alloc (.cells #[.string { data := #[82] }, .slice (some ⟨w.heap.size + 1, 0, none⟩) 1 1] 47)) (w.heap.size + 1 + 1) 47 [.string { data := #[82] }, .slice (some ⟨w.heap.size + 1, 0, none⟩) 1 1] := Row.new_ (by simp)
  go_wp2_with fail
  generalize ((w.alloc _).alloc _).alloc _ = w0 at hb0 hr0 hr1 hr2 ⊢
  have hM : Calls Tryd.prog 6 #[.agg #[.string { data := #[81] }, .slice (some ⟨w.heap.size, 0, none⟩) 1 1, .slice (some ⟨w.heap.size + 1 + 1, 0, none⟩) 1 1]] w0 (MakeM w0.heap.size awQ w0) := by
    refine plan_make_any awQ (some ⟨w.heap.size, 0, none⟩) 1 (some ⟨w.heap.size + 1 + 1, 0, none⟩) 1 w0 awQ_sz (Nat.le_refl _) hr0.rd (fun k hk => ?_) (hT.later hb0)
    obtain rfl : k = 0 := by have : awQ.atoms.length = 1 := rfl; omega
    exact ⟨_, rfl, hr2.lt, hr2.cell 0, some ⟨w.heap.size + 1, 0, none⟩, 1, hr2.cell 1, hr1.rd, fun c => by cases c⟩
  refine hM.mono ?_
  clear hM hr0 hr1 hr2
  rintro e w1 ⟨p, code, vv, vh, AN, cN, vt, L, rfl, hIS, hpL, hPM, hb1⟩
  obtain ⟨rfl, rfl⟩ := makeIs_uniq hIS.out awQ_make
  obtain ⟨h1, h2, h3, h4, h5⟩ := awQ_facts
  rw [hpL] at h1 h3 h4
  have hnd := hPM.nodes
  have htp := hPM.tops
  obtain ⟨Av, cv, rfl, _, _, _, _⟩ := Rd.of_own hPM.vars
  obtain ⟨Ah, ch, rfl, _, _, _, _⟩ := Rd.of_own hPM.head
  rw [h5] at htp
  obtain ⟨At, ct, rfl, _, _, _, _⟩ := Rd.of_own htp
  have hL2 : L.length = 2 := by rw [List.length_map] at h1; exact h1
  obtain ⟨gN, cN', e1⟩ := own_some hnd (by omega)
  injection e1 with e1 _ e2
  subst e1 e2
  rw [nd_pl L (by omega)] at h3 h4
  have hR1 := (own_rd hnd).1
  obtain ⟨ad, ea, _, hc⟩ := Rd.flat (f := ndC) (m := 7) (fun _ => rfl) hR1 (show 0 < L.length by omega) (by decide)
  obtain ⟨ad', ea', _, hc'⟩ := Rd.flat (f := ndC) (m := 7) (fun _ => rfl) hR1 (show 1 < L.length by omega) (by decide)
  injection ea with ea
  injection ea' with ea'
  subst ea ea'
  have k0 := hc 0 (by decide)
  have k1 := hc' 0 (by decide)
  rw [show (ndC L[0])[0]? = some (.int .i64 L[0].kind) from rfl, show L[0].kind = 1 from h3] at k0
  rw [show (ndC L[1])[0]? = some (.int .i64 L[1].kind) from rfl, show L[1].kind = 2 from h4] at k1
  have k0' : w1.cell? ⟨gN, 0, none⟩ = some (.int .i64 1) := k0
  have k1' : w1.cell? ⟨gN, 7, none⟩ = some (.int .i64 2) := by simpa [Addr.add] using k1
  have hglt : gN < w1.heap.size := (hnd.lt gN rfl).2
  have hB1 := bthen hb0 hb1
  rw [h2, hL2]
  generalize (planE awQ 0).vars.length = nv
  generalize (planE awQ 0).head.length = nh
  clear hIS hpL hPM h1 h2 h3 h4 h5 hnd htp hR1 hc hc' k0 k1 hb0 hb1
  go_wp2_with fail
  go_ret
  exact ⟨by first | rfl | simp, hB1.alloc hB1.size _⟩
end Go.Proofs.YtdemmjofggemhaaDoor
