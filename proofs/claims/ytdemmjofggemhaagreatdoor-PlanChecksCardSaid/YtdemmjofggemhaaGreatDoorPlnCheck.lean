/- plan.Check: the contract. -/
import Derived.Test.YtdemmjofggemhaaGreatDoorBY
import Derived.Test.YtdemmjofggemhaaGreatDoorR18Check
import Derived.Test.YtdemmjofggemhaaGreatDoorQOf
set_option linter.unusedSimpArgs false
namespace Go.Proofs.YtdemmjofggemhaaGreatDoor
open Go.RowKit
set_option maxRecDepth 100000 in
set_option maxHeartbeats 16000000 in
theorem plancheck_any (q : Qy) (AH : Option Addr) (cH : Nat) (AA : Option Addr) (cA : Nat) (p : PPlan) (AV : Option Addr) (cV : Nat) (AP : Option Addr) (cP : Nat) (AN : Option Addr) (cN : Nat) (AT : Option Addr) (cT : Nat) (w : World) (hq : SzQ q) (hcap : q.head.length ≤ cH) (hp : SzL p)
  (hH : Rd w w.heap.size AH (ss q.head)) (hA : Ats w w.heap.size AA q.atoms) (hV : Rd w w.heap.size AV (ss p.vars)) (hP : Rd w w.heap.size AP (is p.head)) (hN : NdR w w.heap.size AN p.nodes) (hT : Rd w w.heap.size AT (is p.tops)) (hTab : Tab w) :
  Calls Tryz.prog 15 #[.agg #[.string q.name, .slice AH q.head.length cH, .slice AA q.atoms.length cA], .agg #[.slice AV p.vars.length cV, .slice AP p.head.length cP, .slice AN p.nodes.length cN, .int .i64 p.root, .slice AT p.tops.length cT]] w (Says (CheckOk q p) w) := by
 have HNS : Hid (shapeC q ≠ 0 → ¬ CheckOk q p) := Lib.hid fun h c => h c.shape
 have HCF := Lib.hid (check_first (q := q) (p := p))
 obtain ⟨PP, hPP⟩ : ∃ P, CheckOk q p = P := ⟨_, rfl⟩
 rw [hPP] at HNS HCF ⊢
 clear hPP
 go_enter Tryz.func15, Tryz.ntmps15
 go_upto_region 1 with fail
 have hb0 : Below w.heap.size w ((w.alloc (.cells #[.string q.name, .slice AH q.head.length cH, .slice AA q.atoms.length cA] 25)).alloc (.cells #[.slice AV p.vars.length cV, .slice AP p.head.length cP, .slice AN p.nodes.length cN, .int .i64 p.root, .slice AT p.tops.length cT] 29)) := (below_alloc w _).alloc (by simp) _
 have hQ0 : Row ((w.alloc (.cells #[.string q.name, .slice AH q.head.length cH, .slice AA q.atoms.length cA] 25)).alloc (.cells #[.slice AV p.vars.length cV, .slice AP p.head.length cP, .slice AN p.nodes.length cN, .int .i64 p.root, .slice AT p.tops.length cT] 29)) w.heap.size 25 [.string q.name, .slice AH q.head.length cH, .slice AA q.atoms.length cA] := (Row.new w _ _).alloc _
 have hR0 : PRow ((w.alloc (.cells #[.string q.name, .slice AH q.head.length cH, .slice AA q.atoms.length cA] 25)).alloc (.cells #[.slice AV p.vars.length cV, .slice AP p.head.length cP, .slice AN p.nodes.length cN, .int .i64 p.root, .slice AT p.tops.length cT] 29)) (w.heap.size + 1) (.slice AV p.vars.length cV) (.slice AP p.head.length cP) AN p.nodes.length cN p.root (.slice AT p.tops.length cT) := Row.new_ (by simp)
 generalize (w.alloc _).alloc _ = w0 at hb0 hQ0 hR0 ⊢
 have q0 : w0.cell? ⟨w.heap.size, 0, none⟩ = some (.string q.name) := hQ0.cell 0
 have q1 : w0.cell? ⟨w.heap.size, 1, none⟩ = some (.slice AH q.head.length cH) := hQ0.cell 1
 have q2 : w0.cell? ⟨w.heap.size, 2, none⟩ = some (.slice AA q.atoms.length cA) := hQ0.cell 2
 have HOF := Lib.hid (of_any q AH cH AA cA w0 hq hcap (hH.later hb0) (hA.later hb0))
 go_wp2_with fail
 refine HOF.out.mono ?_
 rintro e w1 ⟨V, v, E, h, code, rfl, hoE, hOf, hb1⟩
 obtain ⟨AE, cE, rfl, _, _, _, _⟩ := Rd.of_own hoE
 have hB1 := bthen hb0 hb1
 have hQ1 := hQ0.later hb1
 have hR1 := Row.later hR0 hb1
 clear HOF q0 q1 q2 hb0 hQ0 hR0 hb1
 go_upto_region 2 with fail
 have hb2 := below_alloc w1 (.cells #[.int .i64 V, .slice AE E.length cE] 36)
 have hG2 : Row (w1.alloc (.cells #[.int .i64 V, .slice AE E.length cE] 36)) w1.heap.size 36 [.int .i64 V, .slice AE E.length cE] := Row.new _ _ _
 have hB2 := bthen hB1 hb2
 have hQ2 := hQ1.later hb2
 have hR2 : PRow (w1.alloc (.cells #[.int .i64 V, .slice AE E.length cE] 36)) (w.heap.size + 1) (.slice AV p.vars.length cV) (.slice AP p.head.length cP) AN p.nodes.length cN p.root (.slice AT p.tops.length cT) := Row.later hR1 hb2
 have hoE2 := own_below hoE hb2
 generalize w1.heap.size = gg at hG2 ⊢
 generalize w1.alloc _ = w2 at hb2 hG2 hB2 hQ2 hR2 hoE2 ⊢
 clear hb2 hB1 hQ1 hR1 hoE
 have HKQ : Hid (∀ y, Below w2.heap.size w2 y → Below w2.heap.size w2 y ∧ (y.cell? ⟨w.heap.size, 0, none⟩ = some (.string q.name) ∧ y.cell? ⟨w.heap.size, 1, none⟩ = some (.slice AH q.head.length cH) ∧ y.cell? ⟨w.heap.size, 2, none⟩ = some (.slice AA q.atoms.length cA)) ∧ (y.cell? ⟨w.heap.size + 1, 0, none⟩ = some (.slice AV p.vars.length cV) ∧ y.cell? ⟨w.heap.size + 1, 1, none⟩ = some (.slice AP p.head.length cP) ∧ y.cell? ⟨w.heap.size + 1, 2, none⟩ = some (.slice AN p.nodes.length cN) ∧ y.cell? ⟨w.heap.size + 1, 3, none⟩ = some (.int .i64 p.root) ∧ y.cell? ⟨w.heap.size + 1, 4, none⟩ = some (.slice AT p.tops.length cT))) := Lib.hid fun y hy => ⟨hy, ⟨(hQ2.later hy).cell 0, (hQ2.later hy).cell 1, (hQ2.later hy).cell 2⟩, Row.cell (Row.later hR2 hy) 0, Row.cell (Row.later hR2 hy) 1, Row.cell (Row.later hR2 hy) 2, Row.cell (Row.later hR2 hy) 3, Row.cell (Row.later hR2 hy) 4⟩
 have hwd := HKQ.out _ (Below.refl _ _).drew
 by_cases hs : shapeC q = 0
 case neg =>
  obtain ⟨rfl, rfl, rfl, rfl⟩ : V = 0 ∧ E = [] ∧ h = 0#32 ∧ code = shapeC q := by
   rcases hOf.out with ⟨_, a, b, c, d⟩ | ⟨s1, _⟩
   ·exact ⟨a, b, c, d⟩
   ·exact absurd s1 hs
  have HX := Lib.hid (HNS.out hs)
  obtain ⟨e1, e2, e3⟩ := ceF hs
  clear hOf hoE2 hG2 hH hA hQ2 hR2 hs HNS HCF HKQ
  generalize shapeC q = code at e1 e2 e3 ⊢
  refine wp_region_held_drew (S := (fun y : World => Below w2.heap.size w2 y ∧ (y.cell? ⟨w.heap.size, 0, none⟩ = some (.string q.name) ∧ y.cell? ⟨w.heap.size, 1, none⟩ = some (.slice AH q.head.length cH) ∧ y.cell? ⟨w.heap.size, 2, none⟩ = some (.slice AA q.atoms.length cA)) ∧ (y.cell? ⟨w.heap.size + 1, 0, none⟩ = some (.slice AV p.vars.length cV) ∧ y.cell? ⟨w.heap.size + 1, 1, none⟩ = some (.slice AP p.head.length cP) ∧ y.cell? ⟨w.heap.size + 1, 2, none⟩ = some (.slice AN p.nodes.length cN) ∧ y.cell? ⟨w.heap.size + 1, 3, none⟩ = some (.int .i64 p.root) ∧ y.cell? ⟨w.heap.size + 1, 4, none⟩ = some (.slice AT p.tops.length cT)))) (by kernel_rfl) hwd (fun hHeld => ?_)
  refine kY 0 hHeld ?_
  simp only [Act.put, k0, k1, k2]
  refine kY 1 hHeld ?_
  simp only [Act.put, k0, k1, k2]
  refine kY 2 hHeld ?_
  simp only [Act.put, k0, k1, k2]
  refine kN 10 [(3, 20), (4, 21), (5, 22), (6, 23), (7, 24), (8, 25)] rfl (by kernel_rfl) (fun _ _ _ _ h => h) hHeld ?_
  simp only [k3, k4, Act.put, k0, k1, k2]
  refine kY 9 hHeld ?_
  simp only [Act.put, k0, k1, k2]
  refine kY 10 hHeld ?_
  simp only [Act.put, k0, k1, k2]
  refine kN 1 [(11, 28), (12, 29), (13, 30), (14, 31), (15, 32), (16, 33), (17, 34)] rfl (by kernel_rfl) (fun _ _ _ _ h => h) hHeld ?_
  simp only [k3, k4, Act.put, k0, k1, k2]
  refine kY 18 hHeld ?_
  simp only [Act.put, k0, k1, k2]
  refine wpAnyH_done (by kernel_rfl) ?_ _
  go_wp2_with fail
  go_ret
  exact says_no HX.out (bthen hB2 hHeld.1)
 case pos =>
  obtain ⟨rfl, hEq, hh, rfl⟩ : V = (qvars q.atoms).length ∧ E = ofE q ∧ h = headW q ∧ code = 0 := by
   rcases hOf.out with ⟨s1, _⟩ | ⟨_, a, b, c, d⟩
   ·exact absurd hs s1
   ·exact ⟨a, b, c, d⟩
  have HG := Lib.hid (shapeC_iff.1 hs)
  have HC := Lib.hid (HCF.out hs)
  have hE6 : E.length ≤ 6 := by rw [hEq, ofE_length]; exact HG.out.few
  have HEL : Hid (E.length = q.atoms.length) := Lib.hid (by rw [hEq, ofE_length])
  have hqf := hq.few
  have hpf := hp.nodes
  have hvl := qvars_length HG.out.narrow HG.out.few
  have HVR := Lib.hid (fun (y : World) (hy : Below w2.heap.size w2 y) => qvars_any q.name AH q.head.length cH AA q.atoms cA y HG.out.few HG.out.narrow (hA.later (bthen hB2 hy)))
  have hvp := hp.vars
  have HST := Lib.hid (fun (y : World) (A2 : Option Addr) (n2 : Nat) (hy : Below w2.heap.size w2 y) (h2 : Rd y y.heap.size A2 (ss (qvars q.atoms))) => eqStrs_any AV A2 p.vars (qvars q.atoms) cV n2 y (by omega) (by omega) (hV.later (bthen hB2 hy)) h2)
  rw [← hEq] at HC
  clear HNS HCF hOf hs hh hEq
  go_cut [5, 35] (fun g b wx => ∃ bad : Bool, g = .pointer (some ⟨gg, 0, none⟩) ∧ b = .bool bad ∧ Hid (bad = true ↔ ¬ (p.vars = qvars q.atoms ∧ p.head.length = q.head.length)) ∧ Below w2.heap.size w2 wx)
  case first =>
   refine wp_region_held_drew (S := (fun y : World => Below w2.heap.size w2 y ∧ (y.cell? ⟨w.heap.size, 0, none⟩ = some (.string q.name) ∧ y.cell? ⟨w.heap.size, 1, none⟩ = some (.slice AH q.head.length cH) ∧ y.cell? ⟨w.heap.size, 2, none⟩ = some (.slice AA q.atoms.length cA)) ∧ (y.cell? ⟨w.heap.size + 1, 0, none⟩ = some (.slice AV p.vars.length cV) ∧ y.cell? ⟨w.heap.size + 1, 1, none⟩ = some (.slice AP p.head.length cP) ∧ y.cell? ⟨w.heap.size + 1, 2, none⟩ = some (.slice AN p.nodes.length cN) ∧ y.cell? ⟨w.heap.size + 1, 3, none⟩ = some (.int .i64 p.root) ∧ y.cell? ⟨w.heap.size + 1, 4, none⟩ = some (.slice AT p.tops.length cT)))) (by kernel_rfl) hwd (fun hHeld => ?_)
   refine kY 0 hHeld ?_
   simp only [Act.put, k0, k1, k2]
   refine kY 1 hHeld ?_
   simp only [Act.put, k0, k1, k2]
   refine kY 2 hHeld ?_
   simp only [Act.put, k0, k1, k2]
   refine kY 3 hHeld ?_
   simp only [Act.put, k0, k1, k2]
   refine kY 4 hHeld ?_
   simp only [Act.put, k0, k1, k2]
   refine kY 5 hHeld ?_
   simp only [Act.put, k0, k1, k2]
   refine kC 6 rfl (by kernel_rfl) (fun K hK => ?_)
   go_simp
   go_at_call 27
   refine (HVR.out _ hHeld.1).mono ?_
   rintro e2 wq ⟨v2, rfl, ho2, hbq⟩
   have hbq2 := bthen hHeld.1 hbq
   obtain ⟨A2, n2, rfl, _, _, hR2', _⟩ := Rd.of_own ho2
   clear ho2
   go_wp2_with fail
   refine hK.out _ _ (HKQ.out _ hbq2) (fun hNew => ?_)
   clear hK K hHeld; have hHeld := hNew; clear hNew
   try simp only [Act.put, k0, k1, k2]
   refine kC 7 rfl (by kernel_rfl) (fun K hK => ?_)
   go_simp
   go_at_call 47
   refine (HST.out _ A2 n2 hHeld.1 hR2').mono ?_
   rintro e2 wq ⟨rfl, hbq⟩
   have hbq3 := bthen hHeld.1 hbq
   go_wp2_with fail
   refine hK.out _ _ (HKQ.out _ hbq3) (fun hNew => ?_)
   clear hK K hHeld; have hHeld := hNew; clear hNew
   try simp only [Act.put, k0, k1, k2]
   by_cases q24 : p.vars = qvars q.atoms
   ·obtain ⟨d24, e24, f24⟩ := ceT q24
    have H24 := Lib.hid q24; clear q24; try simp only [d24, e24, f24]
    refine kY 8 hHeld ?_
    simp only [Act.put, k0, k1, k2]
    refine kY 9 hHeld ?_
    simp only [Act.put, k0, k1, k2]
    refine kY 10 hHeld ?_
    simp only [Act.put, k0, k1, k2]
    refine kY 11 hHeld ?_
    simp only [Act.put, k0, k1, k2]
    refine kY 12 hHeld ?_
    simp only [Act.put, k0, k1, k2]
    refine kY 13 hHeld ?_
    simp only [Act.put, k0, k1, k2]
    refine kY 14 hHeld ?_
    simp only [Act.put, k0, k1, k2]
    refine kY 15 hHeld ?_
    simp only [Act.put, k0, k1, k2]
    refine kY 16 hHeld ?_
    simp only [Act.put, k0, k1, k2]
    refine kY 17 hHeld ?_
    simp only [Act.put, k0, k1, k2]
    by_cases q34 : (p.head.length : Int) = (q.head.length : Int)
    ·obtain ⟨d34, e34, f34⟩ := ceT q34
     have H34 := Lib.hid q34; clear q34; try simp only [d34, e34, f34]
     obtain ⟨m1, m2, m3⟩ := ceT (show p.head.length = q.head.length by have := H34.out; omega)
     try simp only [m1, m2, m3]
     refine kY 18 hHeld ?_
     simp only [Act.put, k0, k1, k2]
     refine wpAnyH_done (by kernel_rfl) ?_ _
     go_wp2_with fail
     go_meet
     exact ⟨_, rfl, rfl, Lib.hid ⟨fun c => Bool.noConfusion c, fun c => absurd ⟨H24.out, by have := H34.out; omega⟩ c⟩, hHeld.1⟩
    ·obtain ⟨d34, e34, f34⟩ := ceF q34
     have H34 := Lib.hid q34; clear q34; try simp only [d34, e34, f34]
     obtain ⟨m1, m2, m3⟩ := ceF (show ¬ p.head.length = q.head.length by have := H34.out; omega)
     try simp only [m1, m2, m3]
     refine kY 18 hHeld ?_
     simp only [Act.put, k0, k1, k2]
     refine wpAnyH_done (by kernel_rfl) ?_ _
     go_wp2_with fail
     go_meet
     exact ⟨_, rfl, rfl, Lib.hid ⟨fun _ c => H34.out (by have := c.2; omega), fun _ => rfl⟩, hHeld.1⟩
   ·obtain ⟨d24, e24, f24⟩ := ceF q24
    have H24 := Lib.hid q24; clear q24; try simp only [d24, e24, f24]
    refine kY 8 hHeld ?_
    simp only [Act.put, k0, k1, k2]
    refine kY 9 hHeld ?_
    simp only [Act.put, k0, k1, k2]
    refine kY 10 hHeld ?_
    simp only [Act.put, k0, k1, k2]
    refine kN 1 [(11, 28), (12, 29), (13, 30), (14, 31), (15, 32), (16, 33), (17, 34)] rfl (by kernel_rfl) (fun _ _ _ _ h => h) hHeld ?_
    simp only [k3, k4, Act.put, k0, k1, k2]
    refine kY 18 hHeld ?_
    simp only [Act.put, k0, k1, k2]
    refine wpAnyH_done (by kernel_rfl) ?_ _
    go_wp2_with fail
    go_meet
    exact ⟨_, rfl, rfl, Lib.hid ⟨fun _ c => H24.out c.1, fun _ => rfl⟩, hHeld.1⟩
  case rest =>
   obtain ⟨bad, rfl, rfl, HBAD, hB5⟩ := hcut
   obtain ⟨w5, hw5⟩ : ∃ wo, wo = wc := ⟨_, rfl⟩
   subst hw5
   clear hwd HVR HST
   cases bad
   case true =>
    have HX : Hid (¬ PP) := Lib.hid fun c => (hidT HBAD).out ⟨(HC.out.1 c).1.1, (HC.out.1 c).1.2.1⟩
    clear HC HBAD HKQ
    go_wp2_with fail
    go_ret
    exact says_no HX.out (bthen hB2 hB5)
   case false =>
    have HCO := Lib.hid (Classical.not_not.1 (hidF HBAD).out)
    have HC2 : Hid (PP ↔ (p.nodes.length ≤ 64 ∧ E.length ≤ p.nodes.length ∧ inN p.nodes p.root = true) ∧ (∀ c, c < q.head.length → pz p.head c = atI p.vars (nm q.head c)) ∧ (∀ i, i < p.nodes.length → OneOk E p.nodes i) ∧ TreeOk p.nodes p.root ∧ VarsOk p.nodes p.root p.vars.length ∧ TopsOk p.nodes p.head p.root p.tops) := Lib.hid (by
     rw [HC.out, HCO.out.1, HEL.out]
     exact ⟨fun h => ⟨h.1.2.2, h.2⟩, fun h => ⟨⟨rfl, HCO.out.2, h.1⟩, h.2⟩⟩)
    clear HC HBAD
    have hhl : q.head.length ≤ p.head.length := by have := HCO.out.2; omega
    obtain ⟨z0, ⟨z1, z2, z3⟩, z4⟩ := HKQ.out _ hB5
    go_wp2_with fail
    go_loopw [8, 9, 39] (fun _ _ x wi => ∃ c : Nat, c ≤ q.head.length ∧ x = .int .i64 c ∧ Hid (∀ d, d < c → pz p.head d = atI p.vars (nm q.head d)) ∧ Below w2.heap.size w2 wi) (fun _ _ x _ => q.head.length - (intOf x).toNat)
    case atStart => exact ⟨0, Nat.zero_le _, rfl, Lib.hid (fun i hi => absurd hi (Nat.not_lt_zero _)), hB5⟩
    case round =>
     clear hB5 z0 z1 z2 z3 z4
     obtain ⟨c, hc, rfl, HLO, hb⟩ := hrel
     obtain ⟨_, ⟨z1, z2, z3⟩, z4, z5, z6, z7, z8⟩ := HKQ.out _ hb
     by_cases hlc : c < q.head.length
     ·have g1 : decide ((c : Int) < q.head.length) = true := decide_eq_true (by omega)
      have g2 : decide (c < q.head.length) = true := decide_eq_true hlc
      have c1 : (0 : Int) ≤ c := by omega
      have c2 : (c : Int) < q.head.length := by omega
      have c3 : (c : Int) < p.head.length := by omega
      obtain ⟨ah, hAh, hahl, hhc⟩ := hH.s_at hlc
      obtain ⟨ap, hAp, hapl, hpc⟩ := hP.p_at (k := c) (by omega)
      subst hAh
      subst hAp
      have HNXT := Lib.hid (fun h => lt_next (P := fun d => pz p.head d = atI p.vars (nm q.head d)) HLO.out (k := c) h)
      have HNO : Hid (pz p.head c ≠ atI p.vars (nm q.head c) → ¬ PP) := Lib.hid fun h q => h ((HC2.out.1 q).2.1 c hlc)
      have HAT := Lib.hid (fun (y : World) (hy : Below w2.heap.size w2 y) => index_any AV p.vars cV (nm q.head c) y (by omega) (hV.later (bthen hB2 hy)))
      generalize atI p.vars (nm q.head c) = b at HNXT HNO HAT
      generalize pz p.head c = a at HNXT HNO hpc
      generalize nm q.head c = nx at hhc HAT
      have hcr : wr.cell? (ah.add c) = some (.string nx) := ((bthen hB2 hb).cell (by rw [block_add]; exact hahl)).trans hhc
      have HK : Hid (∀ y, Below w2.heap.size w2 y → Below w2.heap.size w2 y ∧ y.cell? ⟨w.heap.size + 1, 0, none⟩ = some (.slice AV p.vars.length cV) ∧ y.cell? ⟨w.heap.size + 1, 1, none⟩ = some (.slice (some ap) p.head.length cP) ∧ y.cell? (ap.add c) = some (.int .i64 a)) := Lib.hid fun y hy => ⟨hy, (HKQ.out y hy).2.2.1, (HKQ.out y hy).2.2.2.1, ((bthen hB2 hy).cell (by rw [block_add]; exact hapl)).trans hpc⟩
      have hwd := HK.out _ hb.drew
      clear hhc hpc hb HLO
      go_upto_region 7 with fail
      clear z1 z2 z3 z4 z5 z6 z7 z8 hcr
      refine wp_region_held_drew (S := (fun y : World => Below w2.heap.size w2 y ∧ y.cell? ⟨w.heap.size + 1, 0, none⟩ = some (.slice AV p.vars.length cV) ∧ y.cell? ⟨w.heap.size + 1, 1, none⟩ = some (.slice (some ap) p.head.length cP) ∧ y.cell? (ap.add c) = some (.int .i64 a))) (by kernel_rfl) hwd (fun hHeld => ?_)
      refine kY 0 hHeld ?_
      simp only [Act.put, k0, k1, k2]
      refine kY 1 hHeld ?_
      simp only [Act.put, k0, k1, k2]
      refine kY 2 hHeld ?_
      simp only [Act.put, k0, k1, k2]
      refine kY 3 hHeld ?_
      simp only [Act.put, k0, k1, k2]
      refine kY 4 hHeld ?_
      simp only [Act.put, k0, k1, k2]
      refine kY 5 hHeld ?_
      simp only [Act.put, k0, k1, k2]
      refine kY 6 hHeld ?_
      simp only [Act.put, k0, k1, k2]
      refine kY 7 hHeld ?_
      simp only [Act.put, k0, k1, k2]
      refine kC 8 rfl (by kernel_rfl) (fun K hK => ?_)
      go_simp
      go_at_call 28
      refine (HAT.out _ hHeld.1).mono ?_
      rintro e2 wq ⟨rfl, rfl⟩
      go_wp2_with fail
      refine hK.out _ _ hHeld (fun hNew => ?_)
      clear hK K hHeld; have hHeld := hNew; clear hNew
      try simp only [Act.put, k0, k1, k2]
      refine kY 9 hHeld ?_
      simp only [Act.put, k0, k1, k2]
      by_cases q53 : a = b
      ·obtain ⟨d53, e53, f53⟩ := ceT q53
       have H53 := Lib.hid q53; clear q53; try simp only [d53, e53, f53]
       refine wpAnyH_done (by kernel_rfl) ?_ _
       have HS := Lib.hid (HNXT.out H53.out)
       have hBq := hHeld.1
       clear HNXT HNO HAT HK hHeld
       go_wp2_with fail
       go_roundw
       case rel => exact ⟨c + 1, by omega, by go_num, HS, hBq⟩
       case measure => simp [intOf]; omega
      ·obtain ⟨d53, e53, f53⟩ := ceF q53
       have H53 := Lib.hid q53; clear q53; try simp only [d53, e53, f53]
       refine wpAnyH_done (by kernel_rfl) ?_ _
       have HX := Lib.hid (HNO.out H53.out)
       have hBq := hHeld.1
       clear HNXT HNO HAT HK hHeld
       go_wp2_with fail
       go_ret
       exact says_no HX.out (bthen hB2 hBq)
     ·obtain rfl : c = q.head.length := by omega
      have g1 : decide ((q.head.length : Int) < q.head.length) = false := decide_eq_false (by omega)
      have HC3 : Hid (PP ↔ (p.nodes.length ≤ 64 ∧ E.length ≤ p.nodes.length ∧ inN p.nodes p.root = true) ∧ (∀ i, i < p.nodes.length → OneOk E p.nodes i) ∧ TreeOk p.nodes p.root ∧ VarsOk p.nodes p.root p.vars.length ∧ TopsOk p.nodes p.head p.root p.tops) := Lib.hid (by
       rw [HC2.out]
       exact ⟨fun h => ⟨h.1, h.2.2⟩, fun h => ⟨h.1, HLO.out, h.2⟩⟩)
      clear HC2 HLO HEL
      have y1 : wr.cell? ⟨gg, 1, none⟩ = some (.slice AE E.length cE) := (hG2.later hb).cell 1
      have HIS := Lib.hid (isNode_any (w.heap.size + 1) AN p.nodes.length cN p.root wr z6)
      by_cases h64 : (64 : Int) < p.nodes.length
      ·have e1 := decide_eq_true h64
       have e2 : decide (64 < p.nodes.length) = true := decide_eq_true (by omega)
       have HX : Hid (¬ PP) := Lib.hid fun q => by have := (HC3.out.1 q).1.1; omega
       clear HC3 HIS h64
       go_wp2_with fail
       go_ret
       exact says_no HX.out (bthen hB2 hb)
      ·have e1 := decide_eq_false h64
       have e2 : decide (64 < p.nodes.length) = false := decide_eq_false (by omega)
       by_cases hEn : p.nodes.length < E.length
       ·have e3 : decide ((p.nodes.length : Int) < E.length) = true := decide_eq_true (by omega)
        have e4 : decide (p.nodes.length < E.length) = true := decide_eq_true hEn
        have HX : Hid (¬ PP) := Lib.hid fun q => by have := (HC3.out.1 q).1.2.1; omega
        clear HC3 HIS h64 hEn
        go_wp2_with fail
        go_ret
        exact says_no HX.out (bthen hB2 hb)
       ·have e3 : decide ((p.nodes.length : Int) < E.length) = false := decide_eq_false (by omega)
        have e4 : decide (p.nodes.length < E.length) = false := decide_eq_false hEn
        cases hin : inN p.nodes p.root
        ·have HX : Hid (¬ PP) := Lib.hid fun q => by have := (HC3.out.1 q).1.2.2; rw [hin] at this; cases this
         rw [show (decide (0 ≤ p.root) && decide (p.root < (p.nodes.length : Int))) = false from hin] at HIS
         clear HC3 h64 hEn hin
         go_wp2_with fail
         refine HIS.out.mono ?_
         rintro e2 wq ⟨rfl, rfl⟩
         go_wp2_with fail
         go_ret
         exact says_no HX.out (bthen hB2 hb)
        ·rw [show (decide (0 ≤ p.root) && decide (p.root < (p.nodes.length : Int))) = true from hin] at HIS
         have HC4 : Hid (PP ↔ (∀ i, i < p.nodes.length → OneOk E p.nodes i) ∧ TreeOk p.nodes p.root ∧ VarsOk p.nodes p.root p.vars.length ∧ TopsOk p.nodes p.head p.root p.tops) := Lib.hid (by
          rw [HC3.out]
          exact ⟨fun h => h.2, fun h => ⟨⟨by omega, by omega, hin⟩, h⟩⟩)
         have HIN := Lib.hid hin
         have hl64 : p.nodes.length ≤ 64 := by omega
         clear HC3 h64 hEn hin
         go_wp2_with fail
         refine HIS.out.mono ?_
         rintro e2 wq ⟨rfl, rfl⟩
         go_wp2_with fail
         clear z1 z2 z3 z4 z5 z6 z7 z8 y1 HIS
         go_loopw [10, 77] (fun _ x wi => ∃ k : Nat, k ≤ p.nodes.length ∧ x = .int .i64 k ∧ Hid (∀ i, i < k → OneOk E p.nodes i) ∧ Below w2.heap.size w2 wi) (fun _ x _ => p.nodes.length - (intOf x).toNat)
         case atStart => exact ⟨0, Nat.zero_le _, rfl, Lib.hid (fun i hi => absurd hi (Nat.not_lt_zero _)), hb⟩
         case round =>
          clear hb g1
          obtain ⟨k, hk, rfl, HLO, hb⟩ := hrel
          obtain ⟨_, ⟨z1, z2, z3⟩, z4, z5, z6, z7, z8⟩ := HKQ.out _ hb
          have y0 : wr.cell? ⟨gg, 0, none⟩ = some (.int .i64 ((qvars q.atoms).length : Nat)) := (hG2.later hb).cell 0
          have y1 : wr.cell? ⟨gg, 1, none⟩ = some (.slice AE E.length cE) := (hG2.later hb).cell 1
          have hRr : PRow wr (w.heap.size + 1) (.slice AV p.vars.length cV) (.slice AP p.head.length cP) AN p.nodes.length cN p.root (.slice AT p.tops.length cT) := Row.later hR2 hb
          by_cases hlk : k < p.nodes.length
          ·have g1 : decide ((k : Int) < p.nodes.length) = true := decide_eq_true (by omega)
           have g2 : decide (k < p.nodes.length) = true := decide_eq_true hlk
           have HONE := Lib.hid (rightnode_any (w.heap.size + 1) (.slice AV p.vars.length cV) (.slice AP p.head.length cP) AN p.nodes cN p.root (.slice AT p.tops.length cT) (qvars q.atoms).length AE E cE k wr hlk hp.nvars hRr (hN.later (bthen hB2 hb)) (Rd.of_own' (own_below hoE2 hb)) (hTab.later (bthen hB2 hb)))
           have HNXT := Lib.hid (fun h => lt_next (P := OneOk E p.nodes) HLO.out (k := k) h)
           have HNO : Hid (¬ OneOk E p.nodes k → ¬ PP) := Lib.hid fun h q => h ((HC4.out.1 q).1 k hlk)
           generalize OneOk E p.nodes k = OO at HONE HNXT HNO
           clear HLO
           go_wp2_with fail
           refine HONE.out.mono ?_
           rintro e2 w6 ⟨b6, rfl, HB6, hb6⟩
           have hB6 := bthen hb hb6
           cases b6
           ·have HX := Lib.hid (HNO.out (hidF HB6).out)
            clear HB6 HNXT HNO HONE
            go_wp2_with fail
            go_ret
            exact says_no HX.out (bthen hB2 hB6)
           ·have HS := Lib.hid (HNXT.out (hidT HB6).out)
            clear HB6 HNXT HNO HONE
            go_wp2_with fail
            go_roundw
            case rel => exact ⟨k + 1, by omega, by go_num, HS, hB6⟩
            case measure => simp [intOf]; omega
          ·obtain rfl : k = p.nodes.length := by omega
           have g1 : decide ((p.nodes.length : Int) < p.nodes.length) = false := decide_eq_false (by omega)
           have HC5 : Hid (PP ↔ TreeOk p.nodes p.root ∧ VarsOk p.nodes p.root p.vars.length ∧ TopsOk p.nodes p.head p.root p.tops) := Lib.hid (by
            rw [HC4.out]
            exact ⟨fun h => h.2, fun h => ⟨HLO.out, h⟩⟩)
           have HKI := Lib.hid (kids_of HLO.out)
           obtain ⟨r, hrt, hrN⟩ := inN_iff.1 HIN.out
           have HRr : Hid (∀ y, Below w2.heap.size w2 y → PRow y (w.heap.size + 1) (.slice AV p.vars.length cV) (.slice AP p.head.length cP) AN p.nodes.length cN r (.slice AT p.tops.length cT)) := Lib.hid fun y hy => by rw [← hrt]; exact Row.later hR2 hy
           have HTR := Lib.hid (righttree_any (w.heap.size + 1) (.slice AV p.vars.length cV) (.slice AP p.head.length cP) AN p.nodes cN r (.slice AT p.tops.length cT) wr hrN hl64 HKI.out (HRr.out wr hb) (hN.later (bthen hB2 hb)))
           have HVS := Lib.hid (fun (y : World) (hy : Below w2.heap.size w2 y) (T : TreeOk p.nodes r) => rightvars_any (w.heap.size + 1) (.slice AV p.vars.length cV) (.slice AP p.head.length cP) AN p.nodes cN r (.slice AT p.tops.length cT) p.vars.length y hrN hl64 (by omega) hp.nvars T.parIn (HRr.out y hy) (hN.later (bthen hB2 hy)))
           have HTP := Lib.hid (fun (y : World) (hy : Below w2.heap.size w2 y) (T : TreeOk p.nodes r) => righttops_any (w.heap.size + 1) (.slice AV p.vars.length cV) AP cP AN AT cN cT p.head p.tops p.nodes r y hrN hl64 hp.head hp.tops (by
            obtain ⟨rk, F, _⟩ := T.forR HKI.out hrN
            exact vars_short F HLO.out) HKI.out T (HRr.out y hy) (hP.later (bthen hB2 hy)) (hT.later (bthen hB2 hy)) (hN.later (bthen hB2 hy)))
           rw [← hrt] at HTR HVS HTP
           clear HC4 HLO HKI hrt HRr hRr
           go_wp2_with fail
           refine HTR.out.mono ?_
           rintro e2 w6 ⟨b6, rfl, HB6, hb6⟩
           have hB6 := bthen hb hb6
           clear HTR z1 z2 z3 z4 z5 z6 z7 z8 y0 y1
           cases b6
           ·have HX : Hid (¬ PP) := Lib.hid fun c => (hidF HB6).out (HC5.out.1 c).1
            clear HB6 HC5 HVS HTP
            go_wp2_with fail
            go_ret
            exact says_no HX.out (bthen hB2 hB6)
           ·have HVS2 := Lib.hid (HVS.out w6 hB6 (hidT HB6).out)
            have HTP2 := Lib.hid (fun (y : World) hy => HTP.out y hy (hidT HB6).out)
            have HC6 : Hid (PP ↔ VarsOk p.nodes p.root p.vars.length ∧ TopsOk p.nodes p.head p.root p.tops) := Lib.hid (by
             rw [HC5.out]
             exact ⟨fun h => h.2, fun h => ⟨(hidT HB6).out, h⟩⟩)
            obtain ⟨_, ⟨z1, z2, z3⟩, z4, z5, z6, z7, z8⟩ := HKQ.out _ hB6
            clear HB6 HC5 HVS HTP
            go_wp2_with fail
            refine HVS2.out.mono ?_
            rintro e2 w7 ⟨b7, rfl, HB7, hb7⟩
            have hB7 := bthen hB6 hb7
            clear HVS2 z1 z2 z3 z4 z5 z6 z7 z8
            cases b7
            ·have HX : Hid (¬ PP) := Lib.hid fun c => (hidF HB7).out (HC6.out.1 c).1
             clear HB7 HC6 HTP2
             go_wp2_with fail
             go_ret
             exact says_no HX.out (bthen hB2 hB7)
            ·have HTP3 := Lib.hid (HTP2.out w7 hB7)
             have HC7 : Hid (PP ↔ TopsOk p.nodes p.head p.root p.tops) := Lib.hid (by
              rw [HC6.out]
              exact ⟨fun h => h.2, fun h => ⟨(hidT HB7).out, h⟩⟩)
             obtain ⟨_, ⟨z1, z2, z3⟩, z4, z5, z6, z7, z8⟩ := HKQ.out _ hB7
             clear HB7 HC6 HTP2
             go_wp2_with fail
             refine HTP3.out.mono ?_
             rintro e2 w8 ⟨b8, rfl, HB8, hb8⟩
             have hB8 := bthen hB7 hb8
             clear HTP3 z1 z2 z3 z4 z5 z6 z7 z8
             have HR : Hid (b8 = true ↔ PP) := Lib.hid (HB8.out.trans HC7.out.symm)
             clear HB8 HC7
             go_wp2_with fail
             go_ret
             exact ⟨b8, by first | rfl | (cases b8 <;> rfl), HR, bthen hB2 hB8⟩
end Go.Proofs.YtdemmjofggemhaaGreatDoor
