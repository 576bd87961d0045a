/- The walk of osierlaw18.PlanFlat. -/
import Derived.Test.YtdemmjofggemhaaGreatDoorR18Check
import Derived.Test.YtdemmjofggemhaaGreatDoorBU
import Derived.Test.YtdemmjofggemhaaGreatDoorPMake
import Derived.Test.YtdemmjofggemhaaGreatDoorBO
import Derived.Test.YtdemmjofggemhaaGreatDoorBL
import Derived.Test.YtdemmjofggemhaaGreatDoorBG
set_option linter.unusedSimpArgs false
namespace Go.Proofs.YtdemmjofggemhaaGreatDoor
open Go.RowKit

/-- A plan to be read, wherever its parts lie. -/
def PlR (w : World) (p : PPlan) (AV AH AN AT : Option Addr) : Prop := Rd w w.heap.size AV (ss p.vars) ∧ Rd w w.heap.size AH (is p.head) ∧ NdR w w.heap.size AN p.nodes ∧ Rd w w.heap.size AT (is p.tops)
theorem PlR.later {w w' : World} {p : PPlan} {AV AH AN AT : Option Addr} (h : PlR w p AV AH AN AT) (hb : Below w.heap.size w w') : PlR w' p AV AH AN AT := ⟨h.1.later hb, h.2.1.later hb, h.2.2.1.later hb, h.2.2.2.later hb⟩
theorem szp_make {q : Qy} {p : PPlan} {code : Int} (hq : SzQ q) (h : MakeIs q p code) : SzP p := by
  have key : SzP noPlan := ⟨by decide, by decide, by decide, (fun m hm => by cases hm), by decide⟩
  rcases h with ⟨_, rfl, _⟩ | ⟨_, _, rfl, _⟩ | ⟨_, _, _, rfl, _⟩ | ⟨hs, _, n, hF, rfl, _⟩
  · exact key
  · exact key
  · exact key
  · have hg := shapeC_iff.1 hs
    have hl := qvars_length hg.narrow hg.few
    have hf := hq.few
    have hE : ofE q ≠ [] := fun c => by
      have h1 := hg.some_
      rw [← ofE_length, c] at h1
      simp at h1
    have h6 : (ofE q).length ≤ 6 := by rw [ofE_length]; exact hg.few
    have hn := hF.1
    have h1 := nodes_few (head := headW q) hE hn
    have h2 := tops_few (head := headW q) hE hn
    have e1 : (nodesE (ofE q) (headW q) n).length ≤ 28 := by rw [nodesE_length]; omega
    have e2 : (topsE (ofE q) (headW q) n).length ≤ 28 := by omega
    have e3 : ∀ m ∈ nodesE (ofE q) (headW q) n, m.vars.length ≤ 32 := fun m hm => by
      obtain ⟨i, hi, rfl⟩ := List.mem_iff_getElem.1 hm
      rw [nd_eq _ i hi, nodesE_at hn (by simpa using hi)]
      exact lst_len (gn (grow2 (ofE q) (headW q) n).nodes i).set
    unfold planE
    generalize nodesE (ofE q) (headW q) n = NN at e1 e3
    generalize topsE (ofE q) (headW q) n = TT at e2
    generalize rootE (ofE q) (headW q) n = RR
    refine ⟨?_, ?_, ?_, fun m hm => ?_, ?_⟩
    · show (qvars q.atoms).length ≤ 8796093022208
      omega
    · show (q.head.map _).length ≤ 35184372087808
      rw [List.length_map]; omega
    · show NN.length ≤ 1954687338268
      omega
    · have := e3 m hm
      omega
    · show TT.length ≤ 35184372087808
      omega
theorem SzP.l {p : PPlan} (h : SzP p) : SzL p := ⟨h.vars, h.head, h.nodes, h.nvars, h.tops⟩
set_option maxRecDepth 100000 in
set_option maxHeartbeats 8000000 in
theorem law_pflat (q : Qy) (AH : Option Addr) (cH : Nat) (AA : Option Addr) (cA : Nat) (w : World) (hq : SzQ q) (hH : Rd w w.heap.size AH (ss q.head)) (hA : Ats w w.heap.size AA q.atoms) (hT : Tab w) :
    Calls Tryz.prog 3 #[.agg #[.string q.name, .slice AH q.head.length cH, .slice AA q.atoms.length cA]] w fun e w' => e = .returned (.bool true) ∧ Below w.heap.size w w' := by
  go_enter Tryz.func3, Tryz.ntmps3
  go_upto_region 1 with fail
  have hb0 := below_alloc w (.cells #[.string q.name, .slice AH q.head.length cH, .slice AA q.atoms.length cA] 25)
  have hQ0 : Row (w.alloc (.cells #[.string q.name, .slice AH q.head.length cH, .slice AA q.atoms.length cA] 25)) w.heap.size 25 [.string q.name, .slice AH q.head.length cH, .slice AA q.atoms.length cA] := Row.new _ _ _
  generalize w.alloc _ = w0 at hb0 hQ0 ⊢
  have q0 : w0.cell? ⟨w.heap.size, 0, none⟩ = some (.string q.name) := hQ0.cell 0
  have q1 : w0.cell? ⟨w.heap.size, 1, none⟩ = some (.slice AH q.head.length cH) := hQ0.cell 1
  have q2 : w0.cell? ⟨w.heap.size, 2, none⟩ = some (.slice AA q.atoms.length cA) := hQ0.cell 2
  go_wp2_with fail
  refine (copyQ_any q AH cH AA cA w0 hq (hH.later hb0) (hA.later hb0)).mono ?_
  rintro e w1 ⟨gh, A1, c1, rfl, hRh, hA1, hb1⟩
  have hB1 := bthen hb0 hb1
  have hQ1 := hQ0.later hb1
  clear q0 q1 q2 hb0 hQ0 hb1
  have hRh1 : Rd w1 w1.heap.size (some ⟨gh, 0, none⟩) (ss q.head) := hRh.rd
  go_wp2_with fail
  refine (plan_make_any q (some ⟨gh, 0, none⟩) q.head.length A1 c1 w1 hq (Nat.le_refl _) hRh1 hA1 (hT.later hB1)).mono ?_
  rintro e w3 ⟨p, code, vv, vh, AN, cN, vt, L, rfl, hIS, hpL, hPM, hb3⟩
  have hLl : L.length = p.nodes.length := by rw [hpL, List.length_map]
  obtain ⟨Av, cv, rfl, _, _, hrv, _⟩ := Rd.of_own hPM.vars
  obtain ⟨Ah, ch, rfl, _, _, hrh, _⟩ := Rd.of_own hPM.head
  obtain ⟨At, ct, rfl, _, _, hrt, _⟩ := Rd.of_own hPM.tops
  have hNR : NdR w3 w3.heap.size AN p.nodes := by rw [hpL]; exact NdR.of_own hPM.nodes hPM.nv
  have hB3 := bthen hB1 hb3
  have hQ3 := hQ1.later hb3
  have hP3 : PlR w3 p Av Ah AN At := ⟨hrv, hrh, hNR, hrt⟩
  have HSZ := Lib.hid (szp_make hq hIS.out)
  rw [hLl]
  clear hLl hpL hPM hNR hrv hrh hrt hb3 hRh hRh1 hA1 hB1 hQ1
  go_upto_region 2 with fail
  have hb4 := below_alloc w3 (.cells #[.slice Av p.vars.length cv, .slice Ah p.head.length ch, .slice AN p.nodes.length cN, .int .i64 p.root, .slice At p.tops.length ct] 29)
  have hR4 : Row (w3.alloc (.cells #[.slice Av p.vars.length cv, .slice Ah p.head.length ch, .slice AN p.nodes.length cN, .int .i64 p.root, .slice At p.tops.length ct] 29)) w3.heap.size 29 [.slice Av p.vars.length cv, .slice Ah p.head.length ch, .slice AN p.nodes.length cN, .int .i64 p.root, .slice At p.tops.length ct] := Row.new _ _ _
  have hB4 := bthen hB3 hb4
  have hQ4 := hQ3.later hb4
  have hP4 := hP3.later hb4
  generalize w3.heap.size = g4 at hR4 ⊢
  generalize w3.alloc _ = w4 at hR4 hB4 hQ4 hP4 ⊢
  clear hb4 hB3 hQ3 hP3
  have q0 : w4.cell? ⟨w.heap.size, 0, none⟩ = some (.string q.name) := hQ4.cell 0
  have q1 : w4.cell? ⟨w.heap.size, 1, none⟩ = some (.slice AH q.head.length cH) := hQ4.cell 1
  have q2 : w4.cell? ⟨w.heap.size, 2, none⟩ = some (.slice AA q.atoms.length cA) := hQ4.cell 2
  have HOF := Lib.hid (r14of_any q AH cH AA cA w4 hq (hH.later hB4) (hA.later hB4))
  go_wp2_with fail
  refine HOF.out.mono ?_
  rintro e w5 ⟨V, v, E, h, code5, rfl, hoE, hOf, hb5⟩
  obtain ⟨AE, cE, rfl, _, _, _, _⟩ := Rd.of_own hoE
  have hB5 := bthen hB4 hb5
  have hQ5 := hQ4.later hb5
  have hP5 := hP4.later hb5
  have hR5 := hR4.later hb5
  clear HOF q0 q1 q2 hB4 hQ4 hP4 hR4 hb5
  go_upto_region 3 with fail
  have hb6 := below_alloc w5 (.cells #[.int .i64 V, .slice AE E.length cE] 36)
  have hG6 : Row (w5.alloc (.cells #[.int .i64 V, .slice AE E.length cE] 36)) w5.heap.size 36 [.int .i64 V, .slice AE E.length cE] := Row.new _ _ _
  have hB6 := bthen hB5 hb6
  have hQ6 := hQ5.later hb6
  have hP6 := hP5.later hb6
  have hR6 := hR5.later hb6
  have hE6 := (Rd.of_own' hoE).later hb6
  have hT6 := hT.later hB6
  generalize w5.heap.size = gg at hG6 ⊢
  generalize w5.alloc _ = w6 at hG6 hB6 hQ6 hP6 hR6 hE6 hT6 ⊢
  clear hb6 hB5 hQ5 hP5 hR5 hoE hT
  have HAW := Lib.hid (fun (y : World) (hy : Below w6.heap.size w6 y) => awake18_any y (hT6.later hy))
  by_cases hs : shapeC q = 0
  case neg =>
    obtain ⟨rfl, rfl, rfl, rfl⟩ : V = 0 ∧ E = [] ∧ h = 0#32 ∧ code5 = shapeC q := by
      rcases hOf.out with ⟨_, a, b, c, d⟩ | ⟨s1, _⟩
      · exact ⟨a, b, c, d⟩
      · exact absurd s1 hs
    obtain ⟨rfl, rfl⟩ := make_shape hIS.out hs
    obtain ⟨e1, e2, e3⟩ := ceF hs
    have HAW6 := Lib.hid (HAW.out w6 (Below.refl _ _))
    clear hOf hIS hG6 hQ6 hP6 hR6 hE6 hT6 hs HAW HSZ hH hA
    generalize shapeC q = sc at e1 e2 e3 ⊢
    go_wp2_with fail
    refine HAW6.out.mono ?_
    rintro e w7 ⟨rfl, hb7⟩
    go_wp2_with fail
    go_ret
    exact ⟨rfl, bthen hB6 hb7⟩
  case pos =>
    obtain ⟨rfl, hEq, hh, rfl⟩ : V = (qvars q.atoms).length ∧ E = ofE q ∧ h = headW q ∧ code5 = 0 := by
      rcases hOf.out with ⟨s1, _⟩ | ⟨_, a, b, c, d⟩
      · exact absurd hs s1
      · exact ⟨a, b, c, d⟩
    have HG := Lib.hid (shapeC_iff.1 hs)
    have h6 : E.length ≤ 6 := by rw [hEq, ofE_length]; exact HG.out.few
    have HGD : Hid (goodB (qvars q.atoms).length E = true) := Lib.hid (goodB_iff.2 ⟨by rw [hEq]; exact ofE_valid HG.out, h6⟩)
    have HFL : Hid (hierB (qvars q.atoms).length E h = true → code = 0 ∧ CheckOk q p ∧ ∀ i, i < p.nodes.length → (nd p.nodes i).kind = 3 → vrs p.nodes (nd p.nodes i).side = (nd p.nodes i).vars) := Lib.hid fun c => flat_plan hIS.out hs (by rw [← hEq, ← hh]; exact c)
    have g0 : w6.cell? ⟨gg, 0, none⟩ = some (.int .i64 ((qvars q.atoms).length : Nat)) := hG6.cell 0
    have g1 : w6.cell? ⟨gg, 1, none⟩ = some (.slice AE E.length cE) := hG6.cell 1
    have HCL := Lib.hid (r17clash_any (qvars q.atoms).length AE E cE h w6 (by omega) hE6)
    clear hOf hIS hEq hh hs HG hE6 hG6
    go_wp2_with fail
    refine HCL.out.mono ?_
    rintro e w7 ⟨x, y, ok, code7, rfl, hCI, hb7⟩
    obtain rfl : code7 = 0 := by
      rcases hCI.out with ⟨g, _⟩ | ⟨_, _, _, _, c, _⟩ | ⟨_, _, c, _⟩
      · rw [HGD.out] at g; cases g
      · exact c
      · exact c
    have HOK := Lib.hid (clash_hier HGD.out hCI.out)
    have hB7 := bthen hB6 hb7
    clear hCI HCL HGD g0 g1
    cases ok
    case true =>
      have HAW7 := Lib.hid (HAW.out w7 hb7)
      clear HOK HFL HAW hQ6 hP6 hR6 hT6 HSZ hH hA
      go_wp2_with fail
      refine HAW7.out.mono ?_
      rintro e w8 ⟨rfl, hb8⟩
      go_wp2_with fail
      go_ret
      exact ⟨rfl, bthen hB7 hb8⟩
    case false =>
      have hhi : hierB (qvars q.atoms).length E h = true := by
        have := HOK.out
        simpa using this
      obtain ⟨rfl, hCK, hFL⟩ := HFL.out hhi
      have HCK := Lib.hid hCK
      have HFL2 := Lib.hid hFL
      clear hCK hFL hhi HOK HFL h6
      have hQ7 := hQ6.later hb7
      have hR7 := hR6.later hb7
      have hP7 := hP6.later hb7
      have hT7 := hT6.later hb7
      have hH7 := hH.later hB7
      have hA7 := hA.later hB7
      have HAW7 : Hid (∀ y, Below w7.heap.size w7 y → Calls Tryz.prog 9 #[] y fun e w' => e = .returned (.bool true) ∧ Below y.heap.size y w') := Lib.hid fun y hy => awake18_any y (hT7.later hy)
      clear hQ6 hR6 hP6 hT6 hb7 hB6 HAW hH hA
      have HKP : Hid (∀ y, Below w7.heap.size w7 y → Below w7.heap.size w7 y ∧ (y.cell? ⟨w.heap.size, 0, none⟩ = some (.string q.name) ∧ y.cell? ⟨w.heap.size, 1, none⟩ = some (.slice AH q.head.length cH) ∧ y.cell? ⟨w.heap.size, 2, none⟩ = some (.slice AA q.atoms.length cA)) ∧ (y.cell? ⟨g4, 0, none⟩ = some (.slice Av p.vars.length cv) ∧ y.cell? ⟨g4, 1, none⟩ = some (.slice Ah p.head.length ch) ∧ y.cell? ⟨g4, 2, none⟩ = some (.slice AN p.nodes.length cN) ∧ y.cell? ⟨g4, 3, none⟩ = some (.int .i64 p.root) ∧ y.cell? ⟨g4, 4, none⟩ = some (.slice At p.tops.length ct))) := Lib.hid fun y hy => ⟨hy, ⟨(hQ7.later hy).cell 0, (hQ7.later hy).cell 1, (hQ7.later hy).cell 2⟩, (hR7.later hy).cell 0, (hR7.later hy).cell 1, (hR7.later hy).cell 2, (hR7.later hy).cell 3, (hR7.later hy).cell 4⟩
      have HO18 : Hid (∀ y, Below w7.heap.size w7 y → Calls Tryz.prog 12 #[.agg #[.slice Av p.vars.length cv, .slice Ah p.head.length ch, .slice AN p.nodes.length cN, .int .i64 p.root, .slice At p.tops.length ct]] y fun e w' => ∃ gv gh gt AN' cN', e = .returned (.agg #[.slice (some ⟨gv, 0, none⟩) p.vars.length p.vars.length, .slice (some ⟨gh, 0, none⟩) p.head.length p.head.length, .slice AN' p.nodes.length cN', .int .i64 p.root, .slice (some ⟨gt, 0, none⟩) p.tops.length p.tops.length]) ∧
          PlR w' p (some ⟨gv, 0, none⟩) (some ⟨gh, 0, none⟩) AN' (some ⟨gt, 0, none⟩) ∧ Below y.heap.size y w') := Lib.hid fun y hy => by
        have h := hP7.later hy
        refine (of18_any p Av cv Ah ch AN cN At ct y HSZ.out h.1 h.2.1 h.2.2.1 h.2.2.2).mono ?_
        rintro e w' ⟨gv, gh, gt, AN', cN', rfl, h1, h2, h3, h4, hb⟩
        exact ⟨gv, gh, gt, AN', cN', rfl, ⟨h1, h2, h3, h4⟩, hb⟩
      have HCH : Hid (∀ (y : World) (gv gh gt : Nat) (AM : Option Addr) (cM : Nat), Below w7.heap.size w7 y → PlR y p (some ⟨gv, 0, none⟩) (some ⟨gh, 0, none⟩) AM (some ⟨gt, 0, none⟩) → Calls Tryz.prog 11 #[.agg #[.string q.name, .slice AH q.head.length cH, .slice AA q.atoms.length cA], .agg #[.slice (some ⟨gv, 0, none⟩) p.vars.length p.vars.length, .slice (some ⟨gh, 0, none⟩) p.head.length p.head.length, .slice AM p.nodes.length cM, .int .i64 p.root, .slice (some ⟨gt, 0, none⟩) p.tops.length p.tops.length]] y fun e w' => e = .returned (.bool true) ∧ Below y.heap.size y w') := Lib.hid fun y gv gh gt AM cM hy h => by
        refine (r18check_any q AH cH AA cA p (some ⟨gv, 0, none⟩) p.vars.length (some ⟨gh, 0, none⟩) p.head.length AM cM (some ⟨gt, 0, none⟩) p.tops.length y hq HSZ.out.l (hH7.later hy) (hA7.later hy) h.1 h.2.1 h.2.2.1 h.2.2.2).mono ?_
        rintro e w' ⟨b, rfl, hb, hb2⟩
        rw [hb.out.2 HCK.out]
        exact ⟨rfl, hb2⟩
      have hwd := HKP.out _ (Below.refl _ _).drew
      clear hq hQ7 hT7 hH7 hA7
      go_upto_region 8 with fail
      refine wp_region_held_drew (S := (fun y : World => Below w7.heap.size w7 y ∧ (y.cell? ⟨w.heap.size, 0, none⟩ = some (.string q.name) ∧ y.cell? ⟨w.heap.size, 1, none⟩ = some (.slice AH q.head.length cH) ∧ y.cell? ⟨w.heap.size, 2, none⟩ = some (.slice AA q.atoms.length cA)) ∧ (y.cell? ⟨g4, 0, none⟩ = some (.slice Av p.vars.length cv) ∧ y.cell? ⟨g4, 1, none⟩ = some (.slice Ah p.head.length ch) ∧ y.cell? ⟨g4, 2, none⟩ = some (.slice AN p.nodes.length cN) ∧ y.cell? ⟨g4, 3, none⟩ = some (.int .i64 p.root) ∧ y.cell? ⟨g4, 4, none⟩ = some (.slice At p.tops.length ct)))) (by kernel_rfl) hwd (fun hHeld => ?_)
      refine kY 0 (v := ?_) rfl (by kernel_rfl) (fun _ _ _ h => h) rfl ?_ hHeld ?_; rotate_left; focus (intro w h; (try dsimp only at h); go_simp; try with_reducible rfl)
      simp only [Act.put, k0, k1, k2]
      refine kY 1 (v := ?_) rfl (by kernel_rfl) (fun _ _ _ h => h) rfl ?_ hHeld ?_; rotate_left; focus (intro w h; (try dsimp only at h); go_simp; try with_reducible rfl)
      simp only [Act.put, k0, k1, k2]
      refine kY 2 (v := ?_) rfl (by kernel_rfl) (fun _ _ _ h => h) rfl ?_ hHeld ?_; rotate_left; focus (intro w h; (try dsimp only at h); go_simp; try with_reducible rfl)
      simp only [Act.put, k0, k1, k2]
      refine kY 3 (v := ?_) rfl (by kernel_rfl) (fun _ _ _ h => h) rfl ?_ hHeld ?_; rotate_left; focus (intro w h; (try dsimp only at h); go_simp; try with_reducible rfl)
      simp only [Act.put, k0, k1, k2]
      refine kY 4 (v := ?_) rfl (by kernel_rfl) (fun _ _ _ h => h) rfl ?_ hHeld ?_; rotate_left; focus (intro w h; (try dsimp only at h); go_simp; try with_reducible rfl)
      simp only [Act.put, k0, k1, k2]
      refine kC 5 rfl (by kernel_rfl) (fun K hK => ?_)
      go_simp
      go_at_call 12
      refine (HO18.out _ hHeld.1).mono ?_
      rintro e2 wq ⟨gv, gh2, gt, AM, cM, rfl, hrd, hbq⟩
      have hbq2 := bthen hHeld.1 hbq
      go_wp2_with fail
      refine hK.out _ _ (HKP.out _ hbq2) (fun hNew => ?_)
      clear hK K hHeld; have hHeld := hNew; clear hNew
      try simp only [Act.put, k0, k1, k2]
      refine kC 6 rfl (by kernel_rfl) (fun K hK => ?_)
      go_simp
      go_at_call 11
      refine (HCH.out _ _ _ _ _ _ hHeld.1 hrd).mono ?_
      rintro e2 wq2 ⟨rfl, hbq⟩
      have hbq3 := bthen hHeld.1 hbq
      go_wp2_with fail
      refine hK.out _ _ (HKP.out _ hbq3) (fun hNew => ?_)
      clear hK K hHeld; have hHeld := hNew; clear hNew
      try simp only [Act.put, k0, k1, k2]
      refine kY 7 (v := ?_) rfl (by kernel_rfl) (fun _ _ _ h => h) rfl ?_ hHeld ?_; rotate_left; focus (intro w h; (try dsimp only at h); go_simp; try with_reducible rfl)
      simp only [Act.put, k0, k1, k2]
      refine kY 8 (v := ?_) rfl (by kernel_rfl) (fun _ _ _ h => h) rfl ?_ hHeld ?_; rotate_left; focus (intro w h; (try dsimp only at h); go_simp; try with_reducible rfl)
      simp only [Act.put, k0, k1, k2]
      refine wpAnyH_done (by kernel_rfl) ?_ _
      have hB9 := hHeld.1
      clear hHeld HCH HO18 hrd hbq hbq2 hbq3 hwd
      obtain ⟨_, _, z0, z1, z2, z3, z4⟩ := HKP.out _ hB9
      go_wp2_with fail
      go_loopw [13, 55] (fun _ x wi => ∃ k : Nat, k ≤ p.nodes.length ∧ x = .int .i64 k ∧ Below w7.heap.size w7 wi) (fun _ x _ => p.nodes.length - (intOf x).toNat)
      case atStart => exact ⟨0, Nat.zero_le _, rfl, hB9⟩
      case round =>
        clear hB9 z0 z1 z2 z3 z4
        obtain ⟨k, hk, rfl, hb⟩ := hrel
        by_cases hlt : k < p.nodes.length
        · have hNr := hP7.2.2.1.later hb
          obtain ⟨ad, e1, hal, T, cT, hvT, c0, c1, c2, c3, c4, c5, c6⟩ := hNr.cells hlt
          obtain ⟨j, hj, hjp⟩ : ∃ j : Nat, j < p.nodes.length ∧ ((nd p.nodes k).kind = 3 → (nd p.nodes k).side = j ∧ (nd p.nodes j).vars = (nd p.nodes k).vars) := by
            by_cases e : (nd p.nodes k).kind = 3
            · have ho := HCK.out.one k hlt
              rcases Nat.lt_or_ge k (ofE q).length with d | d
              · have := (ho.1 d).1
                omega
              · rcases ho.2 d with q | q
                · have := q.1
                  omega
                · obtain ⟨j, hj, hjl⟩ := inN_iff.1 q.2.2.2.1
                  refine ⟨j, hjl, fun _ => ⟨hj, ?_⟩⟩
                  have := HFL2.out k hlt e
                  rw [hj] at this
                  unfold vrs at this
                  rwa [Int.toNat_natCast] at this
            · exact ⟨k, hlt, fun c => absurd c e⟩
          obtain ⟨ad3, hA3, hal3, T3, cT3, hv3, _, _, d2, _⟩ := hNr.cells hj
          obtain rfl : ad = ad3 := by rw [e1] at hA3; injection hA3
          clear hA3
          have hzk := HSZ.out.nvars (nd p.nodes k) (by rw [← nd_eq p.nodes k hlt]; exact List.getElem_mem _)
          have hpf := HSZ.out.nodes
          have HJP := Lib.hid hjp
          clear hjp
          have b1 : (0 : Int) ≤ k := by omega
          have b2 : (k : Int) < p.nodes.length := by omega
          have j1 : (0 : Int) ≤ j := by omega
          have j2 : (j : Int) < p.nodes.length := by omega
          generalize (nd p.nodes j).vars = us at d2 hv3 HJP
          generalize nd p.nodes k = x at c0 c1 c2 c3 c4 c5 c6 hvT hzk HJP
          obtain ⟨K, at_, vs, sr, sd, pr, tp⟩ := x
          dsimp only at c0 c1 c2 c3 c4 c5 c6 hvT hzk HJP
          subst e1
          go_upto_region 13 with fail
          have hb1 := below_alloc wr (.cells #[.int .i64 K, .int .i64 at_, .slice T vs.length cT, .int .i64 sr, .int .i64 sd, .int .i64 pr, .bool tp] 50)
          have hX1 : Row (wr.alloc (.cells #[.int .i64 K, .int .i64 at_, .slice T vs.length cT, .int .i64 sr, .int .i64 sd, .int .i64 pr, .bool tp] 50)) wr.heap.size 50 [.int .i64 K, .int .i64 at_, .slice T vs.length cT, .int .i64 sr, .int .i64 sd, .int .i64 pr, .bool tp] := Row.new _ _ _
          have hBy := bthen hb hb1
          have d2' := (hb1.cell (by rw [block_add]; exact hal3)).trans d2
          have hvT1 := hvT.later hb1
          have hv31 := hv3.later hb1
          have hR8 := hR7.later hBy
          have hal4 : ad.block < (wr.alloc (.cells #[.int .i64 K, .int .i64 at_, .slice T vs.length cT, .int .i64 sr, .int .i64 sd, .int .i64 pr, .bool tp] 50)).heap.size := Nat.lt_of_lt_of_le hal3 hb1.size
          generalize wr.heap.size = gx at hX1 ⊢
          generalize wr.alloc _ = w8 at hX1 hBy d2' hvT1 hv31 hR8 hal4 ⊢
          clear c0 c1 c2 c3 c4 c5 c6 d2 hvT hv3 hb hb1 hNr hal
          have HK : Hid (∀ y, Below w8.heap.size w8 y → Below w8.heap.size w8 y ∧ y.cell? ⟨g4, 2, none⟩ = some (.slice (some ad) p.nodes.length cN) ∧ y.cell? ⟨gx, 0, none⟩ = some (.int .i64 K) ∧ y.cell? ⟨gx, 2, none⟩ = some (.slice T vs.length cT) ∧ y.cell? ⟨gx, 4, none⟩ = some (.int .i64 sd) ∧ y.cell? ⟨(ad.add (j * 7)).block, (ad.add (j * 7)).off + 2, none⟩ = some (.slice T3 us.length cT3)) := Lib.hid fun y hy => ⟨hy, (hR8.later hy).cell 2, (hX1.later hy).cell 0, (hX1.later hy).cell 2, (hX1.later hy).cell 4, (hy.cell (by rw [block_add]; exact hal4)).trans d2'⟩
          have HSI : Hid (us = vs → ∀ y, Below w8.heap.size w8 y → Calls Tryz.prog 13 #[.slice T3 us.length cT3, .slice T vs.length cT] y fun e w' => e = .returned (.bool true) ∧ ∃ n, w' = y.drewN n) := Lib.hid fun e y hy => by
            have := sameInts_dec T3 T us vs cT3 cT y (by rw [e]; exact hzk) hzk (hv31.later hy) (hvT1.later hy)
            rwa [decide_eq_true e] at this
          have hwd := HK.out _ (Below.refl _ _).drew
          clear hX1 d2' hvT1 hv31 hR8
          refine wp_region_held_drew (S := (fun y : World => Below w8.heap.size w8 y ∧ y.cell? ⟨g4, 2, none⟩ = some (.slice (some ad) p.nodes.length cN) ∧ y.cell? ⟨gx, 0, none⟩ = some (.int .i64 K) ∧ y.cell? ⟨gx, 2, none⟩ = some (.slice T vs.length cT) ∧ y.cell? ⟨gx, 4, none⟩ = some (.int .i64 sd) ∧ y.cell? ⟨(ad.add (j * 7)).block, (ad.add (j * 7)).off + 2, none⟩ = some (.slice T3 us.length cT3))) (by kernel_rfl) hwd (fun hHeld => ?_)
          refine kY 0 (v := ?_) rfl (by kernel_rfl) (fun _ _ _ h => h) rfl ?_ hHeld ?_; rotate_left; focus (intro w h; (try dsimp only at h); go_simp; try with_reducible rfl)
          simp only [Act.put, k0, k1, k2]
          refine kY 1 (v := ?_) rfl (by kernel_rfl) (fun _ _ _ h => h) rfl ?_ hHeld ?_; rotate_left; focus (intro w h; (try dsimp only at h); go_simp; try with_reducible rfl)
          simp only [Act.put, k0, k1, k2]
          refine kY 2 (v := ?_) rfl (by kernel_rfl) (fun _ _ _ h => h) rfl ?_ hHeld ?_; rotate_left; focus (intro w h; (try dsimp only at h); go_simp; try with_reducible rfl)
          simp only [Act.put, k0, k1, k2]
          by_cases q61 : K = 3
          · obtain ⟨d61, e61, f61⟩ := ceT q61
            have H61 := Lib.hid q61; clear q61; try simp only [d61, e61, f61]
            obtain ⟨hsd, hus⟩ := HJP.out H61.out
            have HSI2 := Lib.hid (HSI.out hus)
            clear hus HJP HSI
            subst hsd
            refine kY 3 (v := ?_) rfl (by kernel_rfl) (fun _ _ _ h => h) rfl ?_ hHeld ?_; rotate_left; focus (intro w h; (try dsimp only at h); go_simp; try with_reducible rfl)
            simp only [Act.put, k0, k1, k2]
            refine kY 4 (v := ?_) rfl (by kernel_rfl) (fun _ _ _ h => h) rfl ?_ hHeld ?_; rotate_left; focus (intro w h; (try dsimp only at h); go_simp; try with_reducible rfl)
            simp only [Act.put, k0, k1, k2]
            refine kY 5 (v := ?_) rfl (by kernel_rfl) (fun _ _ _ h => h) rfl ?_ hHeld ?_; rotate_left; focus (intro w h; (try dsimp only at h); go_simp; try with_reducible rfl)
            simp only [Act.put, k0, k1, k2]
            refine kY 6 (v := ?_) rfl (by kernel_rfl) (fun _ _ _ h => h) rfl ?_ hHeld ?_; rotate_left; focus (intro w h; (try dsimp only at h); go_simp; try with_reducible rfl)
            simp only [Act.put, k0, k1, k2]
            refine kY 7 (v := ?_) rfl (by kernel_rfl) (fun _ _ _ h => h) rfl ?_ hHeld ?_; rotate_left; focus (intro w h; (try dsimp only at h); go_simp; try with_reducible rfl)
            simp only [Act.put, k0, k1, k2]
            refine kY 8 (v := ?_) rfl (by kernel_rfl) (fun _ _ _ h => h) rfl ?_ hHeld ?_; rotate_left; focus (intro w h; (try dsimp only at h); go_simp; try with_reducible rfl)
            simp only [Act.put, k0, k1, k2]
            refine kY 9 (v := ?_) rfl (by kernel_rfl) (fun _ _ _ h => h) rfl ?_ hHeld ?_; rotate_left; focus (intro w h; (try dsimp only at h); go_simp; try with_reducible rfl)
            simp only [Act.put, k0, k1, k2]
            refine kY 10 (v := ?_) rfl (by kernel_rfl) (fun _ _ _ h => h) rfl ?_ hHeld ?_; rotate_left; focus (intro w h; (try dsimp only at h); go_simp; try with_reducible rfl)
            simp only [Act.put, k0, k1, k2]
            refine kY 11 (v := ?_) rfl (by kernel_rfl) (fun _ _ _ h => h) rfl ?_ hHeld ?_; rotate_left; focus (intro w h; (try dsimp only at h); go_simp; try with_reducible rfl)
            simp only [Act.put, k0, k1, k2]
            refine kY 12 (v := ?_) rfl (by kernel_rfl) (fun _ _ _ h => h) rfl ?_ hHeld ?_; rotate_left; focus (intro w h; (try dsimp only at h); go_simp; try with_reducible rfl)
            simp only [Act.put, k0, k1, k2]
            refine kC 13 rfl (by kernel_rfl) (fun K hK => ?_)
            go_simp
            go_at_call 13
            refine (HSI2.out _ hHeld.1).mono ?_
            rintro e2 wq ⟨rfl, n3, hw3⟩
            have hbq3 : Below w8.heap.size w8 wq := by rw [hw3]; exact below_drewN hHeld.1 n3
            clear hw3
            go_wp2_with fail
            refine hK.out _ _ (HK.out _ hbq3) (fun hNew => ?_)
            clear hK K hHeld; have hHeld := hNew; clear hNew
            try simp only [Act.put, k0, k1, k2]
            refine kY 14 (v := ?_) rfl (by kernel_rfl) (fun _ _ _ h => h) rfl ?_ hHeld ?_; rotate_left; focus (intro w h; (try dsimp only at h); go_simp; try with_reducible rfl)
            simp only [Act.put, k0, k1, k2]
            refine kY 15 (v := ?_) rfl (by kernel_rfl) (fun _ _ _ h => h) rfl ?_ hHeld ?_; rotate_left; focus (intro w h; (try dsimp only at h); go_simp; try with_reducible rfl)
            simp only [Act.put, k0, k1, k2]
            refine wpAnyH_done (by kernel_rfl) ?_ _
            have hBq := bthen hBy hHeld.1
            clear HK hHeld
            go_wp2_with fail
            go_roundw
            case rel => exact ⟨k + 1, by omega, by go_num, hBq⟩
            case measure => simp [intOf]; omega
          · obtain ⟨d61, e61, f61⟩ := ceF q61
            have H61 := Lib.hid q61; clear q61; try simp only [d61, e61, f61]
            refine kY 3 (v := ?_) rfl (by kernel_rfl) (fun _ _ _ h => h) rfl ?_ hHeld ?_; rotate_left; focus (intro w h; (try dsimp only at h); go_simp; try with_reducible rfl)
            simp only [Act.put, k0, k1, k2]
            refine kN 1 [(4, 63), (5, 64), (6, 65), (7, 66), (8, 67), (9, 68), (10, 69), (11, 70), (12, 71), (13, 72), (14, 73)] rfl (by kernel_rfl) (fun _ _ _ _ h => h) hHeld ?_
            simp only [k3, k4, Act.put, k0, k1, k2]
            refine kY 15 (v := ?_) rfl (by kernel_rfl) (fun _ _ _ h => h) rfl ?_ hHeld ?_; rotate_left; focus (intro w h; (try dsimp only at h); go_simp; try with_reducible rfl)
            simp only [Act.put, k0, k1, k2]
            refine wpAnyH_done (by kernel_rfl) ?_ _
            have hBq := bthen hBy hHeld.1
            clear HK hHeld
            go_wp2_with fail
            go_roundw
            case rel => exact ⟨k + 1, by omega, by go_num, hBq⟩
            case measure => simp [intOf]; omega
        · obtain rfl : k = p.nodes.length := by omega
          have HAW8 := Lib.hid (HAW7.out _ hb)
          clear HAW7 HFL2 HCK hP7 hR7 HKP
          go_wp2_with fail
          refine HAW8.out.mono ?_
          rintro e w9 ⟨rfl, hb9⟩
          go_wp2_with fail
          go_ret
          exact ⟨rfl, bthen hB7 (bthen hb hb9)⟩
end Go.Proofs.YtdemmjofggemhaaGreatDoor
