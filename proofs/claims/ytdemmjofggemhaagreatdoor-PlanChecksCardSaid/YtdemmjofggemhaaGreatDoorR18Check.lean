/- osierref18.Check: the contract. -/
import Derived.Test.YtdemmjofggemhaaGreatDoorBW
import Derived.Test.YtdemmjofggemhaaGreatDoorBU
import Derived.Test.YtdemmjofggemhaaGreatDoorBT
import Derived.Test.YtdemmjofggemhaaGreatDoorR09Same
import Derived.Deep.CutBlock
import Derived.Deep.DeepCutAuto
set_option linter.unusedSimpArgs false
namespace Go.Proofs.YtdemmjofggemhaaGreatDoor
open Go.RowKit
structure SzL (p : PPlan) : Prop where
 vars : p.vars.length ≤ 8796093022208
 head : p.head.length ≤ 35184372087808
 nodes : p.nodes.length ≤ 1954687338268
 nvars : ∀ m ∈ p.nodes, m.vars.length ≤ 35184372087808
 tops : p.tops.length ≤ 35184372087808
theorem check_first {q : Qy} {p : PPlan} (hs : shapeC q = 0) : CheckOk q p ↔ (p.vars = qvars q.atoms ∧ p.head.length = q.head.length ∧ p.nodes.length ≤ 64 ∧ q.atoms.length ≤ p.nodes.length ∧ inN p.nodes p.root = true) ∧
  (∀ c, c < q.head.length → pz p.head c = atI (qvars q.atoms) (nm q.head c)) ∧ (∀ i, i < p.nodes.length → OneOk (ofE q) p.nodes i) ∧ TreeOk p.nodes p.root ∧ VarsOk p.nodes p.root p.vars.length ∧ TopsOk p.nodes p.head p.root p.tops := by
 constructor
 ·intro h
  refine ⟨⟨h.vars, by rw [h.head, List.length_map], h.few, h.many, h.root⟩, fun c hc => ?_, h.one, h.tree, h.vs, h.tops⟩
  rw [h.head, ← pz_eq _ c (by rw [List.length_map]; exact hc), ← nm_eq q.head c hc]; simp
 ·rintro ⟨⟨h1, h2, h3, h4, h5⟩, h6, h7, h8, h9, h10⟩
  refine ⟨hs, h1, ?_, h3, h4, h5, h7, h8, h9, h10⟩
  apply List.ext_getElem
  ·rw [List.length_map]; exact h2
  ·intro c h1 h2
   have hc : c < q.head.length := by simpa using h2
   rw [pz_eq _ c h1, h6 c hc, ← nm_eq q.head c hc]; simp
set_option maxRecDepth 100000 in
set_option maxHeartbeats 16000000 in
theorem r18check_any (q : Qy) (AH : Option Addr) (cH : Nat) (AA : Option Addr) (cA : Nat) (p : PPlan) (AV : Option Addr) (cV : Nat) (AP : Option Addr) (cP : Nat) (AN : Option Addr) (cN : Nat) (AT : Option Addr) (cT : Nat) (w : World) (hq : SzQ q) (hp : SzL p)
  (hH : Rd w w.heap.size AH (ss q.head)) (hA : Ats w w.heap.size AA q.atoms) (hV : Rd w w.heap.size AV (ss p.vars)) (hP : Rd w w.heap.size AP (is p.head)) (hN : NdR w w.heap.size AN p.nodes) (hT : Rd w w.heap.size AT (is p.tops)) :
  Calls Tryz.prog 11 #[.agg #[.string q.name, .slice AH q.head.length cH, .slice AA q.atoms.length cA], .agg #[.slice AV p.vars.length cV, .slice AP p.head.length cP, .slice AN p.nodes.length cN, .int .i64 p.root, .slice AT p.tops.length cT]] w (Says (CheckOk q p) w) := by
 have HNS : Hid (shapeC q ≠ 0 → ¬ CheckOk q p) := Lib.hid fun h c => h c.shape
 have HCF := Lib.hid (check_first (q := q) (p := p))
 obtain ⟨PP, hPP⟩ : ∃ P, CheckOk q p = P := ⟨_, rfl⟩
 rw [hPP] at HNS HCF ⊢
 clear hPP
 go_enter Tryz.func11, Tryz.ntmps11
 go_upto_region 1 with fail
 have hb0 : Below w.heap.size w ((w.alloc (.cells #[.string q.name, .slice AH q.head.length cH, .slice AA q.atoms.length cA] 25)).alloc (.cells #[.slice AV p.vars.length cV, .slice AP p.head.length cP, .slice AN p.nodes.length cN, .int .i64 p.root, .slice AT p.tops.length cT] 46)) := (below_alloc w _).alloc (by simp) _
 have hQ0 : Row ((w.alloc (.cells #[.string q.name, .slice AH q.head.length cH, .slice AA q.atoms.length cA] 25)).alloc (.cells #[.slice AV p.vars.length cV, .slice AP p.head.length cP, .slice AN p.nodes.length cN, .int .i64 p.root, .slice AT p.tops.length cT] 46)) w.heap.size 25 [.string q.name, .slice AH q.head.length cH, .slice AA q.atoms.length cA] := (Row.new w _ _).alloc _
 have hR0 : Row ((w.alloc (.cells #[.string q.name, .slice AH q.head.length cH, .slice AA q.atoms.length cA] 25)).alloc (.cells #[.slice AV p.vars.length cV, .slice AP p.head.length cP, .slice AN p.nodes.length cN, .int .i64 p.root, .slice AT p.tops.length cT] 46)) (w.heap.size + 1) 46 [.slice AV p.vars.length cV, .slice AP p.head.length cP, .slice AN p.nodes.length cN, .int .i64 p.root, .slice AT p.tops.length cT] := Row.new_ (by simp)
 generalize (w.alloc _).alloc _ = w0 at hb0 hQ0 hR0 ⊢
 have q0 : w0.cell? ⟨w.heap.size, 0, none⟩ = some (.string q.name) := hQ0.cell 0
 have q1 : w0.cell? ⟨w.heap.size, 1, none⟩ = some (.slice AH q.head.length cH) := hQ0.cell 1
 have q2 : w0.cell? ⟨w.heap.size, 2, none⟩ = some (.slice AA q.atoms.length cA) := hQ0.cell 2
 have HOF := Lib.hid (r14of_any q AH cH AA cA w0 hq (hH.later hb0) (hA.later hb0))
 go_wp2_with fail
 refine HOF.out.mono ?_
 rintro e w1 ⟨V, v, E, h, code, rfl, hoE, hOf, hb1⟩
 obtain ⟨AE, cE, rfl, _, _, _, _⟩ := Rd.of_own hoE
 have hB1 := bthen hb0 hb1
 have hQ1 := hQ0.later hb1
 have hR1 := hR0.later hb1
 clear HOF q0 q1 q2 hb0 hQ0 hR0 hb1
 go_upto_region 2 with fail
 have hb2 := below_alloc w1 (.cells #[.int .i64 V, .slice AE E.length cE] 36)
 have hG2 : Row (w1.alloc (.cells #[.int .i64 V, .slice AE E.length cE] 36)) w1.heap.size 36 [.int .i64 V, .slice AE E.length cE] := Row.new _ _ _
 have hB2 := bthen hB1 hb2
 have hQ2 := hQ1.later hb2
 have hR2 := hR1.later hb2
 have hoE2 := own_below hoE hb2
 generalize w1.heap.size = gg at hG2 ⊢
 generalize w1.alloc _ = w2 at hb2 hG2 hB2 hQ2 hR2 hoE2 ⊢
 clear hb2 hB1 hQ1 hR1 hoE
 have HKQ : Hid (∀ y, Below w2.heap.size w2 y → Below w2.heap.size w2 y ∧ (y.cell? ⟨w.heap.size, 0, none⟩ = some (.string q.name) ∧ y.cell? ⟨w.heap.size, 1, none⟩ = some (.slice AH q.head.length cH) ∧ y.cell? ⟨w.heap.size, 2, none⟩ = some (.slice AA q.atoms.length cA)) ∧ (y.cell? ⟨w.heap.size + 1, 0, none⟩ = some (.slice AV p.vars.length cV) ∧ y.cell? ⟨w.heap.size + 1, 1, none⟩ = some (.slice AP p.head.length cP) ∧ y.cell? ⟨w.heap.size + 1, 2, none⟩ = some (.slice AN p.nodes.length cN) ∧ y.cell? ⟨w.heap.size + 1, 3, none⟩ = some (.int .i64 p.root) ∧ y.cell? ⟨w.heap.size + 1, 4, none⟩ = some (.slice AT p.tops.length cT))) := Lib.hid fun y hy => ⟨hy, ⟨(hQ2.later hy).cell 0, (hQ2.later hy).cell 1, (hQ2.later hy).cell 2⟩, (hR2.later hy).cell 0, (hR2.later hy).cell 1, (hR2.later hy).cell 2, (hR2.later hy).cell 3, (hR2.later hy).cell 4⟩
 have hwd := HKQ.out _ (Below.refl _ _).drew
 by_cases hs : shapeC q = 0
 case neg =>
  obtain ⟨rfl, rfl, rfl, rfl⟩ : V = 0 ∧ E = [] ∧ h = 0#32 ∧ code = shapeC q := by
   rcases hOf.out with ⟨_, a, b, c, d⟩ | ⟨s1, _⟩
   ·exact ⟨a, b, c, d⟩
   ·exact absurd s1 hs
  have HX := Lib.hid (HNS.out hs)
  obtain ⟨e1, e2, e3⟩ := ceF hs
  clear hOf hoE2 hG2 hH hA hQ2 hR2 hs HNS HCF HKQ
  generalize shapeC q = code at e1 e2 e3 ⊢
  refine wp_region_held_drew (S := (fun y : World => Below w2.heap.size w2 y ∧ (y.cell? ⟨w.heap.size, 0, none⟩ = some (.string q.name) ∧ y.cell? ⟨w.heap.size, 1, none⟩ = some (.slice AH q.head.length cH) ∧ y.cell? ⟨w.heap.size, 2, none⟩ = some (.slice AA q.atoms.length cA)) ∧ (y.cell? ⟨w.heap.size + 1, 0, none⟩ = some (.slice AV p.vars.length cV) ∧ y.cell? ⟨w.heap.size + 1, 1, none⟩ = some (.slice AP p.head.length cP) ∧ y.cell? ⟨w.heap.size + 1, 2, none⟩ = some (.slice AN p.nodes.length cN) ∧ y.cell? ⟨w.heap.size + 1, 3, none⟩ = some (.int .i64 p.root) ∧ y.cell? ⟨w.heap.size + 1, 4, none⟩ = some (.slice AT p.tops.length cT)))) (by kernel_rfl) hwd (fun hHeld => ?_)
  refine kY 0 hHeld ?_
  simp only [Act.put, k0, k1, k2]
  refine kY 1 hHeld ?_
  simp only [Act.put, k0, k1, k2]
  refine kY 2 hHeld ?_
  simp only [Act.put, k0, k1, k2]
  refine kN 32 [(3, 19), (4, 20), (5, 21), (6, 22), (7, 23), (8, 24)] rfl (by kernel_rfl) (fun _ _ _ _ h => h) hHeld ?_
  simp only [k3, k4, Act.put, k0, k1, k2]
  refine kY 9 hHeld ?_
  simp only [Act.put, k0, k1, k2]
  refine kY 10 hHeld ?_
  simp only [Act.put, k0, k1, k2]
  refine kN 23 [(11, 27), (12, 28), (13, 29), (14, 30), (15, 31), (16, 32), (17, 33)] rfl (by kernel_rfl) (fun _ _ _ _ h => h) hHeld ?_
  simp only [k3, k4, Act.put, k0, k1, k2]
  refine kY 18 hHeld ?_
  simp only [Act.put, k0, k1, k2]
  refine kY 19 hHeld ?_
  simp only [Act.put, k0, k1, k2]
  refine kN 17 [(20, 36), (21, 37), (22, 38), (23, 39)] rfl (by kernel_rfl) (fun _ _ _ _ h => h) hHeld ?_
  simp only [k3, k4, Act.put, k0, k1, k2]
  refine kY 24 hHeld ?_
  simp only [Act.put, k0, k1, k2]
  refine kY 25 hHeld ?_
  simp only [Act.put, k0, k1, k2]
  refine kN 8 [(26, 42), (27, 43), (28, 44), (29, 45), (30, 46), (31, 47), (32, 48)] rfl (by kernel_rfl) (fun _ _ _ _ h => h) hHeld ?_
  simp only [k3, k4, Act.put, k0, k1, k2]
  refine kY 33 hHeld ?_
  simp only [Act.put, k0, k1, k2]
  refine kY 34 hHeld ?_
  simp only [Act.put, k0, k1, k2]
  refine kN 1 [(35, 51), (36, 52), (37, 53), (38, 54), (39, 55)] rfl (by kernel_rfl) (fun _ _ _ _ h => h) hHeld ?_
  simp only [k3, k4, Act.put, k0, k1, k2]
  refine kY 40 hHeld ?_
  simp only [Act.put, k0, k1, k2]
  refine wpAnyH_done (by kernel_rfl) ?_ _
  go_wp2_with fail
  go_ret
  exact says_no HX.out (bthen hB2 hHeld.1)
 case pos =>
  obtain ⟨rfl, hEq, hh, rfl⟩ : V = (qvars q.atoms).length ∧ E = ofE q ∧ h = headW q ∧ code = 0 := by
   rcases hOf.out with ⟨s1, _⟩ | ⟨_, a, b, c, d⟩
   ·exact absurd hs s1
   ·exact ⟨a, b, c, d⟩
  have HG := Lib.hid (shapeC_iff.1 hs)
  have HC := Lib.hid (HCF.out hs)
  have hE6 : E.length ≤ 6 := by rw [hEq, ofE_length]; exact HG.out.few
  have hqf := hq.few
  have hpf := hp.nodes
  have hvl := qvars_length HG.out.narrow HG.out.few
  have HVR := Lib.hid (fun (y : World) (hy : Below w2.heap.size w2 y) => r09vars_any q.name AH q.head.length cH AA q.atoms cA y HG.out.few HG.out.narrow (hA.later (bthen hB2 hy)))
  have hvp := hp.vars
  have HST := Lib.hid (fun (y : World) (A2 : Option Addr) (n2 : Nat) (hy : Below w2.heap.size w2 y) (h2 : Rd y y.heap.size A2 (ss (qvars q.atoms))) => sameTexts_any AV A2 p.vars (qvars q.atoms) cV n2 y (by omega) (by omega) (hV.later (bthen hB2 hy)) h2)
  have HIS := Lib.hid (fun (y : World) => r18is_any AV AP AN AT p.vars.length cV p.head.length cP p.nodes.length cN p.tops.length cT p.root p.root y)
  obtain ⟨bi, hbi⟩ : ∃ b, inN p.nodes p.root = b := ⟨_, rfl⟩
  have HBI : Hid (bi = true ↔ inN p.nodes p.root = true) := Lib.hid (by rw [hbi])
  rw [show (decide (0 ≤ p.root) && decide (p.root < (p.nodes.length : Int))) = bi from hbi] at HIS
  rw [← hEq] at HC
  clear HNS HCF hOf hs hh hbi hEq
  go_cut [5, 56] (fun g b wx => ∃ bad : Bool, g = .pointer (some ⟨gg, 0, none⟩) ∧ b = .bool bad ∧ Hid (bad = true ↔ ¬ (p.vars = qvars q.atoms ∧ p.head.length = q.head.length ∧ p.nodes.length ≤ 64 ∧ q.atoms.length ≤ p.nodes.length ∧ inN p.nodes p.root = true)) ∧ Below w2.heap.size w2 wx)
  case first =>
   refine wp_region_held_drew (S := (fun y : World => Below w2.heap.size w2 y ∧ (y.cell? ⟨w.heap.size, 0, none⟩ = some (.string q.name) ∧ y.cell? ⟨w.heap.size, 1, none⟩ = some (.slice AH q.head.length cH) ∧ y.cell? ⟨w.heap.size, 2, none⟩ = some (.slice AA q.atoms.length cA)) ∧ (y.cell? ⟨w.heap.size + 1, 0, none⟩ = some (.slice AV p.vars.length cV) ∧ y.cell? ⟨w.heap.size + 1, 1, none⟩ = some (.slice AP p.head.length cP) ∧ y.cell? ⟨w.heap.size + 1, 2, none⟩ = some (.slice AN p.nodes.length cN) ∧ y.cell? ⟨w.heap.size + 1, 3, none⟩ = some (.int .i64 p.root) ∧ y.cell? ⟨w.heap.size + 1, 4, none⟩ = some (.slice AT p.tops.length cT)))) (by kernel_rfl) hwd (fun hHeld => ?_)
   refine kY 0 hHeld ?_
   simp only [Act.put, k0, k1, k2]
   refine kY 1 hHeld ?_
   simp only [Act.put, k0, k1, k2]
   refine kY 2 hHeld ?_
   simp only [Act.put, k0, k1, k2]
   refine kY 3 hHeld ?_
   simp only [Act.put, k0, k1, k2]
   refine kY 4 hHeld ?_
   simp only [Act.put, k0, k1, k2]
   refine kY 5 hHeld ?_
   simp only [Act.put, k0, k1, k2]
   refine kC 6 rfl (by kernel_rfl) (fun K hK => ?_)
   go_simp
   go_at_call 34
   refine (HVR.out _ hHeld.1).mono ?_
   rintro e2 wq ⟨v2, rfl, ho2, hbq⟩
   have hbq2 := bthen hHeld.1 hbq
   obtain ⟨A2, n2, rfl, _, _, hR2', _⟩ := Rd.of_own ho2
   clear ho2
   go_wp2_with fail
   refine hK.out _ _ (HKQ.out _ hbq2) (fun hNew => ?_)
   clear hK K hHeld; have hHeld := hNew; clear hNew
   try simp only [Act.put, k0, k1, k2]
   refine kC 7 rfl (by kernel_rfl) (fun K hK => ?_)
   go_simp
   go_at_call 39
   refine (HST.out _ A2 n2 hHeld.1 hR2').mono ?_
   rintro e2 wq ⟨rfl, hbq⟩
   have hbq3 := bthen hHeld.1 hbq
   go_wp2_with fail
   refine hK.out _ _ (HKQ.out _ hbq3) (fun hNew => ?_)
   clear hK K hHeld; have hHeld := hNew; clear hNew
   try simp only [Act.put, k0, k1, k2]
   by_cases q23 : p.vars = qvars q.atoms
   ·obtain ⟨d23, e23, f23⟩ := ceT q23
    have H23 := Lib.hid q23; clear q23; try simp only [d23, e23, f23]
    refine kY 8 hHeld ?_
    simp only [Act.put, k0, k1, k2]
    refine kY 9 hHeld ?_
    simp only [Act.put, k0, k1, k2]
    refine kY 10 hHeld ?_
    simp only [Act.put, k0, k1, k2]
    refine kY 11 hHeld ?_
    simp only [Act.put, k0, k1, k2]
    refine kY 12 hHeld ?_
    simp only [Act.put, k0, k1, k2]
    refine kY 13 hHeld ?_
    simp only [Act.put, k0, k1, k2]
    refine kY 14 hHeld ?_
    simp only [Act.put, k0, k1, k2]
    refine kY 15 hHeld ?_
    simp only [Act.put, k0, k1, k2]
    refine kY 16 hHeld ?_
    simp only [Act.put, k0, k1, k2]
    refine kY 17 hHeld ?_
    simp only [Act.put, k0, k1, k2]
    by_cases q33 : (p.head.length : Int) = (q.head.length : Int)
    ·obtain ⟨d33, e33, f33⟩ := ceT q33
     have H33 := Lib.hid q33; clear q33; try simp only [d33, e33, f33]
     obtain ⟨m1, m2, m3⟩ := ceT (show p.head.length = q.head.length by have := H33.out; omega)
     try simp only [m1, m2, m3]
     refine kY 18 hHeld ?_
     simp only [Act.put, k0, k1, k2]
     refine kY 19 hHeld ?_
     simp only [Act.put, k0, k1, k2]
     refine kY 20 hHeld ?_
     simp only [Act.put, k0, k1, k2]
     refine kY 21 hHeld ?_
     simp only [Act.put, k0, k1, k2]
     refine kY 22 hHeld ?_
     simp only [Act.put, k0, k1, k2]
     refine kY 23 hHeld ?_
     simp only [Act.put, k0, k1, k2]
     by_cases q39 : (64 : Int) < (p.nodes.length : Int)
     ·have d39 := decide_eq_true q39
      have H39 := Lib.hid q39; clear q39; try simp only [d39]
      have m4 : decide (64 < p.nodes.length) = true := decide_eq_true (by have := H39.out; omega)
      try simp only [m4]
      refine kY 24 hHeld ?_
      simp only [Act.put, k0, k1, k2]
      refine kY 25 hHeld ?_
      simp only [Act.put, k0, k1, k2]
      refine kN 8 [(26, 42), (27, 43), (28, 44), (29, 45), (30, 46), (31, 47), (32, 48)] rfl (by kernel_rfl) (fun _ _ _ _ h => h) hHeld ?_
      simp only [k3, k4, Act.put, k0, k1, k2]
      refine kY 33 hHeld ?_
      simp only [Act.put, k0, k1, k2]
      refine kY 34 hHeld ?_
      simp only [Act.put, k0, k1, k2]
      refine kN 1 [(35, 51), (36, 52), (37, 53), (38, 54), (39, 55)] rfl (by kernel_rfl) (fun _ _ _ _ h => h) hHeld ?_
      simp only [k3, k4, Act.put, k0, k1, k2]
      refine kY 40 hHeld ?_
      simp only [Act.put, k0, k1, k2]
      refine wpAnyH_done (by kernel_rfl) ?_ _
      go_wp2_with fail
      go_meet
      exact ⟨_, rfl, rfl, Lib.hid ⟨fun _ c => by have := c.2.2.1; have := H39.out; omega, fun _ => rfl⟩, hHeld.1⟩
     ·have d39 := decide_eq_false q39
      have H39 := Lib.hid q39; clear q39; try simp only [d39]
      have m4 : decide (64 < p.nodes.length) = false := decide_eq_false (by have := H39.out; omega)
      try simp only [m4]
      refine kY 24 hHeld ?_
      simp only [Act.put, k0, k1, k2]
      refine kY 25 hHeld ?_
      simp only [Act.put, k0, k1, k2]
      refine kY 26 hHeld ?_
      simp only [Act.put, k0, k1, k2]
      refine kY 27 hHeld ?_
      simp only [Act.put, k0, k1, k2]
      refine kY 28 hHeld ?_
      simp only [Act.put, k0, k1, k2]
      refine kY 29 hHeld ?_
      simp only [Act.put, k0, k1, k2]
      refine kY 30 hHeld ?_
      simp only [Act.put, k0, k1, k2]
      refine kY 31 hHeld ?_
      simp only [Act.put, k0, k1, k2]
      refine kY 32 hHeld ?_
      simp only [Act.put, k0, k1, k2]
      by_cases q48 : (p.nodes.length : Int) < (q.atoms.length : Int)
      ·have d48 := decide_eq_true q48
       have H48 := Lib.hid q48; clear q48; try simp only [d48]
       have m5 : decide (p.nodes.length < q.atoms.length) = true := decide_eq_true (by have := H48.out; omega)
       try simp only [m5]
       refine kY 33 hHeld ?_
       simp only [Act.put, k0, k1, k2]
       refine kY 34 hHeld ?_
       simp only [Act.put, k0, k1, k2]
       refine kN 1 [(35, 51), (36, 52), (37, 53), (38, 54), (39, 55)] rfl (by kernel_rfl) (fun _ _ _ _ h => h) hHeld ?_
       simp only [k3, k4, Act.put, k0, k1, k2]
       refine kY 40 hHeld ?_
       simp only [Act.put, k0, k1, k2]
       refine wpAnyH_done (by kernel_rfl) ?_ _
       go_wp2_with fail
       go_meet
       exact ⟨_, rfl, rfl, Lib.hid ⟨fun _ c => by have := c.2.2.2.1; have := H48.out; omega, fun _ => rfl⟩, hHeld.1⟩
      ·have d48 := decide_eq_false q48
       have H48 := Lib.hid q48; clear q48; try simp only [d48]
       have m5 : decide (p.nodes.length < q.atoms.length) = false := decide_eq_false (by have := H48.out; omega)
       try simp only [m5]
       refine kY 33 hHeld ?_
       simp only [Act.put, k0, k1, k2]
       refine kY 34 hHeld ?_
       simp only [Act.put, k0, k1, k2]
       refine kY 35 hHeld ?_
       simp only [Act.put, k0, k1, k2]
       refine kY 36 hHeld ?_
       simp only [Act.put, k0, k1, k2]
       refine kY 37 hHeld ?_
       simp only [Act.put, k0, k1, k2]
       refine kC 38 rfl (by kernel_rfl) (fun K hK => ?_)
       go_simp
       go_at_call 40
       refine (HIS.out _).mono ?_
       rintro e2 wq ⟨rfl, hbq⟩
       have hbq4 := bthen hHeld.1 hbq
       go_wp2_with fail
       refine hK.out _ _ (HKQ.out _ hbq4) (fun hNew => ?_)
       clear hK K hHeld; have hHeld := hNew; clear hNew
       try simp only [Act.put, k0, k1, k2]
       cases bi
       ·have H54 := hidF HBI; clear HBI
        refine kY 39 hHeld ?_
        simp only [Act.put, k0, k1, k2]
        refine kY 40 hHeld ?_
        simp only [Act.put, k0, k1, k2]
        refine wpAnyH_done (by kernel_rfl) ?_ _
        go_wp2_with fail
        go_meet
        exact ⟨_, rfl, rfl, Lib.hid ⟨fun _ c => H54.out c.2.2.2.2, fun _ => rfl⟩, hHeld.1⟩
       ·have H54 := hidT HBI; clear HBI
        refine kY 39 hHeld ?_
        simp only [Act.put, k0, k1, k2]
        refine kY 40 hHeld ?_
        simp only [Act.put, k0, k1, k2]
        refine wpAnyH_done (by kernel_rfl) ?_ _
        go_wp2_with fail
        go_meet
        exact ⟨_, rfl, rfl, Lib.hid ⟨fun c => Bool.noConfusion c, fun c => absurd ⟨H23.out, by have := H33.out; omega, by have := H39.out; omega, by have := H48.out; omega, H54.out⟩ c⟩, hHeld.1⟩
    ·obtain ⟨d33, e33, f33⟩ := ceF q33
     have H33 := Lib.hid q33; clear q33; try simp only [d33, e33, f33]
     obtain ⟨m1, m2, m3⟩ := ceF (show ¬ p.head.length = q.head.length by have := H33.out; omega)
     try simp only [m1, m2, m3]
     refine kY 18 hHeld ?_
     simp only [Act.put, k0, k1, k2]
     refine kY 19 hHeld ?_
     simp only [Act.put, k0, k1, k2]
     refine kN 17 [(20, 36), (21, 37), (22, 38), (23, 39)] rfl (by kernel_rfl) (fun _ _ _ _ h => h) hHeld ?_
     simp only [k3, k4, Act.put, k0, k1, k2]
     refine kY 24 hHeld ?_
     simp only [Act.put, k0, k1, k2]
     refine kY 25 hHeld ?_
     simp only [Act.put, k0, k1, k2]
     refine kN 8 [(26, 42), (27, 43), (28, 44), (29, 45), (30, 46), (31, 47), (32, 48)] rfl (by kernel_rfl) (fun _ _ _ _ h => h) hHeld ?_
     simp only [k3, k4, Act.put, k0, k1, k2]
     refine kY 33 hHeld ?_
     simp only [Act.put, k0, k1, k2]
     refine kY 34 hHeld ?_
     simp only [Act.put, k0, k1, k2]
     refine kN 1 [(35, 51), (36, 52), (37, 53), (38, 54), (39, 55)] rfl (by kernel_rfl) (fun _ _ _ _ h => h) hHeld ?_
     simp only [k3, k4, Act.put, k0, k1, k2]
     refine kY 40 hHeld ?_
     simp only [Act.put, k0, k1, k2]
     refine wpAnyH_done (by kernel_rfl) ?_ _
     go_wp2_with fail
     go_meet
     exact ⟨_, rfl, rfl, Lib.hid ⟨fun _ c => H33.out (by have := c.2.1; omega), fun _ => rfl⟩, hHeld.1⟩
   ·obtain ⟨d23, e23, f23⟩ := ceF q23
    have H23 := Lib.hid q23; clear q23; try simp only [d23, e23, f23]
    refine kY 8 hHeld ?_
    simp only [Act.put, k0, k1, k2]
    refine kY 9 hHeld ?_
    simp only [Act.put, k0, k1, k2]
    refine kY 10 hHeld ?_
    simp only [Act.put, k0, k1, k2]
    refine kN 23 [(11, 27), (12, 28), (13, 29), (14, 30), (15, 31), (16, 32), (17, 33)] rfl (by kernel_rfl) (fun _ _ _ _ h => h) hHeld ?_
    simp only [k3, k4, Act.put, k0, k1, k2]
    refine kY 18 hHeld ?_
    simp only [Act.put, k0, k1, k2]
    refine kY 19 hHeld ?_
    simp only [Act.put, k0, k1, k2]
    refine kN 17 [(20, 36), (21, 37), (22, 38), (23, 39)] rfl (by kernel_rfl) (fun _ _ _ _ h => h) hHeld ?_
    simp only [k3, k4, Act.put, k0, k1, k2]
    refine kY 24 hHeld ?_
    simp only [Act.put, k0, k1, k2]
    refine kY 25 hHeld ?_
    simp only [Act.put, k0, k1, k2]
    refine kN 8 [(26, 42), (27, 43), (28, 44), (29, 45), (30, 46), (31, 47), (32, 48)] rfl (by kernel_rfl) (fun _ _ _ _ h => h) hHeld ?_
    simp only [k3, k4, Act.put, k0, k1, k2]
    refine kY 33 hHeld ?_
    simp only [Act.put, k0, k1, k2]
    refine kY 34 hHeld ?_
    simp only [Act.put, k0, k1, k2]
    refine kN 1 [(35, 51), (36, 52), (37, 53), (38, 54), (39, 55)] rfl (by kernel_rfl) (fun _ _ _ _ h => h) hHeld ?_
    simp only [k3, k4, Act.put, k0, k1, k2]
    refine kY 40 hHeld ?_
    simp only [Act.put, k0, k1, k2]
    refine wpAnyH_done (by kernel_rfl) ?_ _
    go_wp2_with fail
    go_meet
    exact ⟨_, rfl, rfl, Lib.hid ⟨fun _ c => H23.out c.1, fun _ => rfl⟩, hHeld.1⟩
  case rest =>
   obtain ⟨bad, rfl, rfl, HBAD, hB5⟩ := hcut
   obtain ⟨w5, hw5⟩ : ∃ wo, wo = wc := ⟨_, rfl⟩
   subst hw5
   clear hwd HVR HST HIS HBI
   cases bad
   case true =>
    have HX : Hid (¬ PP) := Lib.hid fun c => (hidT HBAD).out (HC.out.1 c).1
    clear HC HBAD HKQ
    go_wp2_with fail
    go_ret
    exact says_no HX.out (bthen hB2 hB5)
   case false =>
    have HCO := Lib.hid (Classical.not_not.1 (hidF HBAD).out)
    have HC2 : Hid (PP ↔ (∀ c, c < q.head.length → pz p.head c = atI p.vars (nm q.head c)) ∧ (∀ i, i < p.nodes.length → OneOk E p.nodes i) ∧ TreeOk p.nodes p.root ∧ VarsOk p.nodes p.root p.vars.length ∧ TopsOk p.nodes p.head p.root p.tops) := Lib.hid (by
     rw [HC.out, HCO.out.1]
     have h1 := HCO.out
     rw [h1.1] at h1
     exact ⟨fun h => h.2, fun h => ⟨h1, h⟩⟩)
    clear HC HBAD
    have hhl : q.head.length ≤ p.head.length := by have := HCO.out.2.1; omega
    obtain ⟨z0, ⟨z1, z2, z3⟩, z4⟩ := HKQ.out _ hB5
    go_wp2_with fail
    go_loopw [8] (fun x wi => ∃ c : Nat, c ≤ q.head.length ∧ x = .int .i64 c ∧ Hid (∀ d, d < c → pz p.head d = atI p.vars (nm q.head d)) ∧ Below w2.heap.size w2 wi) (fun x _ => q.head.length - (intOf x).toNat)
    case atStart => exact ⟨0, Nat.zero_le _, rfl, Lib.hid (fun i hi => absurd hi (Nat.not_lt_zero _)), hB5⟩
    case round =>
     clear hB5 z0 z1 z2 z3 z4
     obtain ⟨c, hc, rfl, HLO, hb⟩ := hrel
     obtain ⟨_, ⟨z1, z2, z3⟩, z4, z5, z6, z7, z8⟩ := HKQ.out _ hb
     by_cases hlc : c < q.head.length
     ·have g1 : decide ((c : Int) < q.head.length) = true := decide_eq_true (by omega)
      have g2 : decide (c < q.head.length) = true := decide_eq_true hlc
      have c1 : (0 : Int) ≤ c := by omega
      have c2 : (c : Int) < q.head.length := by omega
      have c3 : (c : Int) < p.head.length := by omega
      obtain ⟨ah, hAh, hahl, hhc⟩ := hH.s_at hlc
      obtain ⟨ap, hAp, hapl, hpc⟩ := hP.p_at (k := c) (by omega)
      subst hAh
      subst hAp
      have HNXT := Lib.hid (fun h => lt_next (P := fun d => pz p.head d = atI p.vars (nm q.head d)) HLO.out (k := c) h)
      have HNO : Hid (pz p.head c ≠ atI p.vars (nm q.head c) → ¬ PP) := Lib.hid fun h q => h ((HC2.out.1 q).1 c hlc)
      have HAT := Lib.hid (fun (y : World) (hy : Below w2.heap.size w2 y) => at9_any AV p.vars cV (nm q.head c) y (by omega) (hV.later (bthen hB2 hy)))
      generalize atI p.vars (nm q.head c) = b at HNXT HNO HAT
      generalize pz p.head c = a at HNXT HNO hpc
      generalize nm q.head c = nx at hhc HAT
      have HK : Hid (∀ y, Below w2.heap.size w2 y → Below w2.heap.size w2 y ∧ y.cell? ⟨w.heap.size, 1, none⟩ = some (.slice (some ah) q.head.length cH) ∧ y.cell? ⟨w.heap.size + 1, 0, none⟩ = some (.slice AV p.vars.length cV) ∧ y.cell? ⟨w.heap.size + 1, 1, none⟩ = some (.slice (some ap) p.head.length cP) ∧ y.cell? (ah.add c) = some (.string nx) ∧ y.cell? (ap.add c) = some (.int .i64 a)) := Lib.hid fun y hy => ⟨hy, (HKQ.out y hy).2.1.2.1, (HKQ.out y hy).2.2.1, (HKQ.out y hy).2.2.2.1, ((bthen hB2 hy).cell (by rw [block_add]; exact hahl)).trans hhc, ((bthen hB2 hy).cell (by rw [block_add]; exact hapl)).trans hpc⟩
      have hwd := HK.out _ hb.drew
      clear hhc hpc hb HLO
      go_upto_region 7 with fail
      clear z1 z2 z3 z4 z5 z6 z7 z8
      refine wp_region_held_drew (S := (fun y : World => Below w2.heap.size w2 y ∧ y.cell? ⟨w.heap.size, 1, none⟩ = some (.slice (some ah) q.head.length cH) ∧ y.cell? ⟨w.heap.size + 1, 0, none⟩ = some (.slice AV p.vars.length cV) ∧ y.cell? ⟨w.heap.size + 1, 1, none⟩ = some (.slice (some ap) p.head.length cP) ∧ y.cell? (ah.add c) = some (.string nx) ∧ y.cell? (ap.add c) = some (.int .i64 a))) (by kernel_rfl) hwd (fun hHeld => ?_)
      refine kY 0 hHeld ?_
      simp only [Act.put, k0, k1, k2]
      refine kY 1 hHeld ?_
      simp only [Act.put, k0, k1, k2]
      refine kY 2 hHeld ?_
      simp only [Act.put, k0, k1, k2]
      refine kY 3 hHeld ?_
      simp only [Act.put, k0, k1, k2]
      refine kY 4 hHeld ?_
      simp only [Act.put, k0, k1, k2]
      refine kY 5 hHeld ?_
      simp only [Act.put, k0, k1, k2]
      refine kY 6 hHeld ?_
      simp only [Act.put, k0, k1, k2]
      refine kY 7 hHeld ?_
      simp only [Act.put, k0, k1, k2]
      refine kY 8 hHeld ?_
      simp only [Act.put, k0, k1, k2]
      refine kY 9 hHeld ?_
      simp only [Act.put, k0, k1, k2]
      refine kY 10 hHeld ?_
      simp only [Act.put, k0, k1, k2]
      refine kY 11 hHeld ?_
      simp only [Act.put, k0, k1, k2]
      refine kC 12 rfl (by kernel_rfl) (fun K hK => ?_)
      go_simp
      go_at_call 41
      refine (HAT.out _ hHeld.1).mono ?_
      rintro e2 wq ⟨rfl, rfl⟩
      go_wp2_with fail
      refine hK.out _ _ hHeld (fun hNew => ?_)
      clear hK K hHeld; have hHeld := hNew; clear hNew
      try simp only [Act.put, k0, k1, k2]
      refine kY 13 hHeld ?_
      simp only [Act.put, k0, k1, k2]
      by_cases q77 : a = b
      ·obtain ⟨d77, e77, f77⟩ := ceT q77
       have H77 := Lib.hid q77; clear q77; try simp only [d77, e77, f77]
       refine wpAnyH_done (by kernel_rfl) ?_ _
       have HS := Lib.hid (HNXT.out H77.out)
       have hBq := hHeld.1
       clear HNXT HNO HAT HK hHeld
       go_wp2_with fail
       go_roundw
       case rel => exact ⟨c + 1, by omega, by go_num, HS, hBq⟩
       case measure => simp [intOf]; omega
      ·obtain ⟨d77, e77, f77⟩ := ceF q77
       have H77 := Lib.hid q77; clear q77; try simp only [d77, e77, f77]
       refine wpAnyH_done (by kernel_rfl) ?_ _
       have HX := Lib.hid (HNO.out H77.out)
       have hBq := hHeld.1
       clear HNXT HNO HAT HK hHeld
       go_wp2_with fail
       go_ret
       exact says_no HX.out (bthen hB2 hBq)
     ·obtain rfl : c = q.head.length := by omega
      have g1 : decide ((q.head.length : Int) < q.head.length) = false := decide_eq_false (by omega)
      have HC3 : Hid (PP ↔ (∀ i, i < p.nodes.length → OneOk E p.nodes i) ∧ TreeOk p.nodes p.root ∧ VarsOk p.nodes p.root p.vars.length ∧ TopsOk p.nodes p.head p.root p.tops) := Lib.hid (by
       rw [HC2.out]
       exact ⟨fun h => h.2, fun h => ⟨HLO.out, h⟩⟩)
      clear HC2 HLO
      go_wp2_with fail
      go_loopw [9] (fun x wi => ∃ k : Nat, k ≤ p.nodes.length ∧ x = .int .i64 k ∧ Hid (∀ i, i < k → OneOk E p.nodes i) ∧ Below w2.heap.size w2 wi) (fun x _ => p.nodes.length - (intOf x).toNat)
      case atStart => exact ⟨0, Nat.zero_le _, rfl, Lib.hid (fun i hi => absurd hi (Nat.not_lt_zero _)), hb⟩
      case round =>
       clear hb z1 z2 z3 z4 z5 z6 z7 z8 g1
       obtain ⟨k, hk, rfl, HLO, hb⟩ := hrel
       obtain ⟨_, ⟨z1, z2, z3⟩, z4, z5, z6, z7, z8⟩ := HKQ.out _ hb
       have y0 : wr.cell? ⟨gg, 0, none⟩ = some (.int .i64 ((qvars q.atoms).length : Nat)) := (hG2.later hb).cell 0
       have y1 : wr.cell? ⟨gg, 1, none⟩ = some (.slice AE E.length cE) := (hG2.later hb).cell 1
       by_cases hlk : k < p.nodes.length
       ·have g1 : decide ((k : Int) < p.nodes.length) = true := decide_eq_true (by omega)
        have g2 : decide (k < p.nodes.length) = true := decide_eq_true hlk
        have HONE := Lib.hid (r18one_any AV AP AN AT p.vars.length cV p.head.length cP cN p.tops.length cT p.nodes p.root (qvars q.atoms).length AE E cE k wr hlk hp.nvars (hN.later (bthen hB2 hb)) (Rd.of_own' (own_below hoE2 hb)))
        have HNXT := Lib.hid (fun h => lt_next (P := OneOk E p.nodes) HLO.out (k := k) h)
        have HNO : Hid (¬ OneOk E p.nodes k → ¬ PP) := Lib.hid fun h q => h ((HC3.out.1 q).1 k hlk)
        generalize OneOk E p.nodes k = OO at HONE HNXT HNO
        clear HLO
        go_wp2_with fail
        with_reducible refine HONE.out.mono ?_
        rintro e2 w6 ⟨b6, rfl, HB6, hb6⟩
        have hB6 := bthen hb hb6
        cases b6
        ·have HX := Lib.hid (HNO.out (hidF HB6).out)
         clear HB6 HNXT HNO HONE
         go_wp2_with fail
         go_ret
         exact says_no HX.out (bthen hB2 hB6)
        ·have HS := Lib.hid (HNXT.out (hidT HB6).out)
         clear HB6 HNXT HNO HONE
         go_wp2_with fail
         go_roundw
         case rel => exact ⟨k + 1, by omega, by go_num, HS, hB6⟩
         case measure => simp [intOf]; omega
       ·obtain rfl : k = p.nodes.length := by omega
        have g1 : decide ((p.nodes.length : Int) < p.nodes.length) = false := decide_eq_false (by omega)
        have HC4 : Hid (PP ↔ TreeOk p.nodes p.root ∧ VarsOk p.nodes p.root p.vars.length ∧ TopsOk p.nodes p.head p.root p.tops) := Lib.hid (by
         rw [HC3.out]
         exact ⟨fun h => h.2, fun h => ⟨HLO.out, h⟩⟩)
        have HKD : Hid (∀ i, i < p.nodes.length → (nd p.nodes i).kind = 1 ∨ (nd p.nodes i).kind = 2 ∨ (nd p.nodes i).kind = 3) := Lib.hid fun i hi => (HLO.out i hi).kinds
        have HKI := Lib.hid (kids_of HLO.out)
        obtain ⟨r, hrt, hrN⟩ := inN_iff.1 HCO.out.2.2.2.2
        have hl64 := HCO.out.2.2.1
        have HTR := Lib.hid (r18tree_any AV AP AN AT p.vars.length cV p.head.length cP cN p.tops.length cT p.nodes r wr hrN hl64 HKD.out HKI.out (hN.later (bthen hB2 hb)))
        have HVS := Lib.hid (fun (y : World) (hy : Below w2.heap.size w2 y) (T : TreeOk p.nodes r) => r18vars_any AV AP AN AT p.vars.length cV p.head.length cP cN p.tops.length cT p.nodes r y hrN hl64 (by omega) hp.nvars T.parIn (hN.later (bthen hB2 hy)))
        have HTP := Lib.hid (fun (y : World) (hy : Below w2.heap.size w2 y) (T : TreeOk p.nodes r) => r18tops_any AV AP AN AT p.vars.length cV cP cN cT p.head p.tops p.nodes r y hrN hl64 hp.head hp.tops hp.nvars HKD.out HKI.out T (hP.later (bthen hB2 hy)) (hT.later (bthen hB2 hy)) (hN.later (bthen hB2 hy)))
        rw [← hrt] at HTR HVS HTP
        clear HC3 HLO HKD HKI hrt
        go_wp2_with fail
        refine HTR.out.mono ?_
        rintro e2 w6 ⟨b6, rfl, HB6, hb6⟩
        have hB6 := bthen hb hb6
        clear HTR z1 z2 z3 z4 z5 z6 z7 z8 y0 y1
        cases b6
        ·have HX : Hid (¬ PP) := Lib.hid fun c => (hidF HB6).out (HC4.out.1 c).1
         clear HB6 HC4 HVS HTP
         go_wp2_with fail
         go_ret
         exact says_no HX.out (bthen hB2 hB6)
        ·have HVS2 := Lib.hid (HVS.out w6 hB6 (hidT HB6).out)
         have HTP2 := Lib.hid (fun (y : World) hy => HTP.out y hy (hidT HB6).out)
         have HC5 : Hid (PP ↔ VarsOk p.nodes p.root p.vars.length ∧ TopsOk p.nodes p.head p.root p.tops) := Lib.hid (by
          rw [HC4.out]
          exact ⟨fun h => h.2, fun h => ⟨(hidT HB6).out, h⟩⟩)
         obtain ⟨_, ⟨z1, z2, z3⟩, z4, z5, z6, z7, z8⟩ := HKQ.out _ hB6
         clear HB6 HC4 HVS HTP
         go_wp2_with fail
         refine HVS2.out.mono ?_
         rintro e2 w7 ⟨b7, rfl, HB7, hb7⟩
         have hB7 := bthen hB6 hb7
         clear HVS2 z1 z2 z3 z4 z5 z6 z7 z8
         cases b7
         ·have HX : Hid (¬ PP) := Lib.hid fun c => (hidF HB7).out (HC5.out.1 c).1
          clear HB7 HC5 HTP2
          go_wp2_with fail
          go_ret
          exact says_no HX.out (bthen hB2 hB7)
         ·have HTP3 := Lib.hid (HTP2.out w7 hB7)
          have HC6 : Hid (PP ↔ TopsOk p.nodes p.head p.root p.tops) := Lib.hid (by
           rw [HC5.out]
           exact ⟨fun h => h.2, fun h => ⟨(hidT HB7).out, h⟩⟩)
          obtain ⟨_, ⟨z1, z2, z3⟩, z4, z5, z6, z7, z8⟩ := HKQ.out _ hB7
          clear HB7 HC5 HTP2
          go_wp2_with fail
          refine HTP3.out.mono ?_
          rintro e2 w8 ⟨b8, rfl, HB8, hb8⟩
          have hB8 := bthen hB7 hb8
          clear HTP3 z1 z2 z3 z4 z5 z6 z7 z8
          have HR : Hid (b8 = true ↔ PP) := Lib.hid (HB8.out.trans HC6.out.symm)
          clear HB8 HC6
          go_wp2_with fail
          go_ret
          exact ⟨b8, by first | rfl | (cases b8 <;> rfl), HR, bthen hB2 hB8⟩
end Go.Proofs.YtdemmjofggemhaaGreatDoor
