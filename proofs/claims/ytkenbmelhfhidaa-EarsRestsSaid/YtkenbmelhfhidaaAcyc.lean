/- The contracts of ears.Acyclic and osierlaw15.awake; what Acyclic answers. -/
import Derived.Test.YtkenbmelhfhidaaRest
import Derived.Test.YtkenbmelhfhidaaJtLaw
namespace Go.Proofs.Ytkenbmelhfhidaa
open Go.RowKit

attribute [local go_sem ↓] uz_and uz_or uz_andNot uz_and_one uz_shr uz_shl_one uz_shl uz_sub uz_sub_one uz_add uz_beq_zero uz_bne_zero uz_beq uz_bne uz_beq_one

/-- Is it a valid graph without a knot? -/
def acyB (V : Int) (E : List (BitVec 32)) : Bool := validB V E && (setsOf (runE E 0#32).2).isEmpty
def codeB (V : Int) (E : List (BitVec 32)) : Int := if validB V E then 0 else 140
theorem setsOf_nil (L : Lt) : setsOf L = [] ↔ ∀ x ∈ L, x.2 = 0#32 := by
  unfold setsOf
  rw [List.filter_eq_nil_iff]
  constructor
  · intro h x hx
    have := h x.2 (List.mem_map_of_mem hx)
    simpa using this
  · intro h a ha
    obtain ⟨x, hx, rfl⟩ := List.mem_map.1 ha
    simp [h x hx]
theorem acyB_iff {V : Int} {E : List (BitVec 32)} (hv : validB V E = true) : acyB V E = true ↔ ∃ p, JT E p := by
  have h7 := (validB_of hv).2.2.1
  have hst := runE_Stuck (E := E) 0#32 h7
  have hr := runE_rch E 0#32
  unfold acyB
  rw [hv, Bool.true_and, List.isEmpty_iff, setsOf_nil, ← left_empty (hr.srt (srt_begin E)) hst]
  exact left_iff hr hst
theorem rest_acy {V : Int} {E Z : List (BitVec 32)} {code : Int} (h : RestIs V E 0#32 Z code) : code = codeB V E ∧ ((code == 0) && ((Z.length : Int) == 0)) = acyB V E := by
  rcases h with ⟨a, b, c⟩ | ⟨a, b, _, c⟩
  · refine ⟨by simp [codeB, a, c], ?_⟩
    unfold acyB; rw [a, c, Bool.false_and, show ((140 : Int) == 0) = false from rfl, Bool.false_and]
  · refine ⟨by simp [codeB, a, b], ?_⟩
    unfold acyB
    have hl := c.length_eq
    rw [a, b, hl, Bool.true_and, show ((0 : Int) == 0) = true from rfl, Bool.true_and, Bool.eq_iff_iff, beq_iff_eq, List.isEmpty_iff, ← List.length_eq_zero_iff]
    omega

set_option maxHeartbeats 2000000 in
set_option maxRecDepth 100000 in
theorem acyclic_any (V : Int) (A : Option Addr) (E : List (BitVec 32)) (c : Nat) (w : World) (hl : E.length ≤ 35184372087808) (hE : Rd w w.heap.size A (us E)) :
    Calls Try.prog 56 #[.agg #[.int .i64 V, .slice A E.length c]] w fun e w' => e = .returned (.tuple #[.bool (acyB V E), .int .i64 (codeB V E)]) ∧ Below w.heap.size w w' := by
  go_enter Try.func56, Try.ntmps56
  go_wp2_with fail
  have hb0 := below_alloc w (.cells #[.int .i64 V, .slice A E.length c] 24)
  generalize w.alloc _ = W0 at hb0 ⊢
  have hrest := rest_any V A E c 0#32 W0 hl (hE.later hb0)
  rw [show uz 0#32 = 0 from rfl] at hrest
  refine hrest.mono ?_
  rintro e w1 ⟨v, Z, code, rfl, hown, hR, hb1⟩
  obtain ⟨h1, h2⟩ := rest_acy hR.out
  obtain ⟨A', c', rfl, _, _, _, _⟩ := Rd.of_own hown
  have hB1 := bthen hb0 hb1
  have H1 := Lib.hid h1
  have H2 := Lib.hid h2
  clear hrest h1 h2 hR hown hE
  cases hc : (code == 0)
  · rw [hc] at H2
    go_wp2_with fail
    go_ret2
    exact ⟨by rw [← H1.out, ← H2.out]; rfl, hB1⟩
  · rw [hc] at H2
    cases hz : ((Z.length : Int) == 0)
    · rw [hz] at H2
      go_wp2_with fail
      go_ret2
      exact ⟨by rw [← H1.out, ← H2.out]; rfl, hB1⟩
    · rw [hz] at H2
      go_wp2_with fail
      go_ret2
      exact ⟨by rw [← H1.out, ← H2.out]; rfl, hB1⟩

theorem awake_run {ss : List Stp} {L : Lt} {code : Int} (h : RunIs 1 [1#32] 0#32 ss L code) : ss = [⟨1, 0, 0, 1#32⟩] ∧ L.length = 1 ∧ code = 0 := by
  have hv : validB 1 [1#32] = true := by decide
  have e : runN 0#32 (beginE [1#32]) 1 = ([⟨1, 0, 0, 1#32⟩], [(0, 0#32)]) := by decide
  have e2 : runN 0#32 (beginE [1#32]) 1 = runE [1#32] 0#32 := runE_eq (by decide) (by rw [e]; decide)
  rcases h with ⟨a, _⟩ | ⟨_, b, c, d⟩
  · rw [hv] at a; cases a
  · rw [← e2, e] at b c
    exact ⟨b, by rw [c]; rfl, d⟩
theorem awake_acy : acyB 1 [1#32] = true ∧ codeB 1 [1#32] = 0 :=
  ⟨(acyB_iff (by decide)).2 ⟨_, ((checkB_iff 1 _ [-1]).1 (by decide)).2.2⟩, by decide⟩

theorem add_none (a : Addr) : a.add 0 = a := by
  rcases a with ⟨b, o, e⟩
  cases e <;> simp [Addr.add]

set_option maxHeartbeats 2000000 in
set_option maxRecDepth 100000 in
theorem awake15_any (w : World) : Calls Try.prog 53 #[] w fun e w' => e = .returned (.bool true) ∧ Below w.heap.size w w' := by
  go_enter Try.func53, Try.ntmps53
  go_wp2_with fail
  have hR : Row (w.alloc (.cells #[.int .u32 1] 39)) w.heap.size 39 (us [1#32]) := heap_alloc_new w _
  have hb0 := below_alloc w (.cells #[.int .u32 1] 39)
  generalize hg : w.heap.size = g at hR ⊢
  generalize w.alloc _ = w1 at hR hb0 ⊢
  have hrun := run_any 1 (some ⟨g, 0, none⟩) [1#32] 1 0#32 w1 (by decide) hR.rd
  rw [show uz 0#32 = 0 from rfl] at hrun
  refine hrun.mono ?_
  rintro e w2 ⟨v1, v2, ss, L, code, rfl, hown1, hown2, hI, hb1⟩
  obtain ⟨rfl, hL, rfl⟩ := awake_run hI.out
  obtain ⟨A1, c1, rfl, _, _, hS, _⟩ := Rd.of_ownS hown1
  obtain ⟨A2, c2, rfl, _, _, _, _⟩ := Rd.of_ownS hown2
  rw [hL]
  have hB1 := bthen hb0 hb1
  clear hrun hI hL hown1 hown2 hR hb1
  go_wp2_with fail
  have hR2 : Row (w2.alloc (.cells #[.int .u32 1] 39)) w2.heap.size 39 (us [1#32]) := heap_alloc_new w2 _
  have hb2 := below_alloc w2 (.cells #[.int .u32 1] 39)
  have hB2 := bthen hB1 hb2
  have hS2 := hS.later hb2
  generalize hg2 : w2.heap.size = g2 at hR2 ⊢
  generalize w2.alloc _ = w3 at hR2 hb2 hB2 hS2 ⊢
  have hT := acyclic_any 1 (some ⟨g2, 0, none⟩) [1#32] 1 w3 (by decide) hR2.rd
  rw [awake_acy.1, awake_acy.2] at hT
  refine hT.mono ?_
  rintro e w4 ⟨rfl, hb4⟩
  have hB4 := bthen hB2 hb4
  obtain ⟨ad, rfl, _, q0, q1, q2, q3⟩ := (hS2.later hb4).st_cells (k := 0) (by simp)
  have hst : stp [⟨1, 0, 0, 1#32⟩] 0 = ⟨1, 0, 0, 1#32⟩ := rfl
  rw [Nat.zero_mul, add_none ad, hst] at q0 q1 q2 q3
  rw [show uz (1#32) = 1 from rfl] at q3
  simp only at q0 q1 q2
  clear hT hR2 hS hS2 hst
  go_wp2_with fail
  go_ret
  exact ⟨rfl, hB4⟩
end Go.Proofs.Ytkenbmelhfhidaa
