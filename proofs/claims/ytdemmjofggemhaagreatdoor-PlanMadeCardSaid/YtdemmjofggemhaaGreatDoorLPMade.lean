/- The walk of osierlaw18.PlanMade. -/
import Derived.Test.YtdemmjofggemhaaGreatDoorLPFlat
import Derived.Test.YtdemmjofggemhaaGreatDoorPlnCheck
import Derived.Test.YtdemmjofggemhaaGreatDoorBG
set_option linter.unusedSimpArgs false
namespace Go.Proofs.YtdemmjofggemhaaGreatDoor
open Go.RowKit
set_option maxRecDepth 100000 in
set_option maxHeartbeats 8000000 in
theorem law_pmade (q : Qy) (AH : Option Addr) (cH : Nat) (AA : Option Addr) (cA : Nat) (w : World) (hq : SzQ q) (hH : Rd w w.heap.size AH (ss q.head)) (hA : Ats w w.heap.size AA q.atoms) (hT : Tab w) :
  Calls Tryz.prog 5 #[.agg #[.string q.name, .slice AH q.head.length cH, .slice AA q.atoms.length cA]] w fun e w' => e = .returned (.bool true) ∧ Below w.heap.size w w' := by
 go_enter Tryz.func5, Tryz.ntmps5
 go_upto_region 1 with fail
 have hb0 := below_alloc w (.cells #[.string q.name, .slice AH q.head.length cH, .slice AA q.atoms.length cA] 25)
 have hQ0 : Row (w.alloc (.cells #[.string q.name, .slice AH q.head.length cH, .slice AA q.atoms.length cA] 25)) w.heap.size 25 [.string q.name, .slice AH q.head.length cH, .slice AA q.atoms.length cA] := Row.new _ _ _
 generalize w.alloc _ = w0 at hb0 hQ0 ⊢
 have q0 : w0.cell? ⟨w.heap.size, 0, none⟩ = some (.string q.name) := hQ0.cell 0
 have q1 : w0.cell? ⟨w.heap.size, 1, none⟩ = some (.slice AH q.head.length cH) := hQ0.cell 1
 have q2 : w0.cell? ⟨w.heap.size, 2, none⟩ = some (.slice AA q.atoms.length cA) := hQ0.cell 2
 go_wp2_with fail
 refine (copyQ_any q AH cH AA cA w0 hq (hH.later hb0) (hA.later hb0)).mono ?_
 rintro e w1 ⟨gh, A1, c1, rfl, hRh, hA1, hb1⟩
 have hB1 := bthen hb0 hb1
 have hQ1 := hQ0.later hb1
 clear q0 q1 q2 hb0 hQ0 hb1
 have hRh1 : Rd w1 w1.heap.size (some ⟨gh, 0, none⟩) (ss q.head) := hRh.rd
 go_wp2_with fail
 refine (plan_make_any q (some ⟨gh, 0, none⟩) q.head.length A1 c1 w1 hq (Nat.le_refl _) hRh1 hA1 (hT.later hB1)).mono ?_
 rintro e w3 ⟨p, code, vv, vh, AN, cN, vt, L, rfl, hIS, hpL, hPM, hb3⟩
 have hLl : L.length = p.nodes.length := by rw [hpL, List.length_map]
 obtain ⟨Av, cv, rfl, _, _, hrv, _⟩ := Rd.of_own hPM.vars
 obtain ⟨Ah, ch, rfl, _, _, hrh, _⟩ := Rd.of_own hPM.head
 obtain ⟨At, ct, rfl, _, _, hrt, _⟩ := Rd.of_own hPM.tops
 have hNR : NdR w3 w3.heap.size AN p.nodes := by rw [hpL]; exact NdR.of_own hPM.nodes hPM.nv
 have hB3 := bthen hB1 hb3
 have hQ3 := hQ1.later hb3
 have hP3 : PlR w3 p Av Ah AN At := ⟨hrv, hrh, hNR, hrt⟩
 have HSZ := Lib.hid (szp_make hq hIS.out)
 rw [hLl]
 clear hLl hpL hPM hNR hrv hrh hrt hb3 hRh hRh1 hA1 hB1 hQ1
 go_upto_region 2 with fail
 have hb4 := below_alloc w3 (.cells #[.slice Av p.vars.length cv, .slice Ah p.head.length ch, .slice AN p.nodes.length cN, .int .i64 p.root, .slice At p.tops.length ct] 29)
 have hR4 : Row (w3.alloc (.cells #[.slice Av p.vars.length cv, .slice Ah p.head.length ch, .slice AN p.nodes.length cN, .int .i64 p.root, .slice At p.tops.length ct] 29)) w3.heap.size 29 [.slice Av p.vars.length cv, .slice Ah p.head.length ch, .slice AN p.nodes.length cN, .int .i64 p.root, .slice At p.tops.length ct] := Row.new _ _ _
 have hB4 := bthen hB3 hb4
 have hQ4 := hQ3.later hb4
 have hP4 := hP3.later hb4
 generalize w3.heap.size = g4 at hR4 ⊢
 generalize w3.alloc _ = w4 at hR4 hB4 hQ4 hP4 ⊢
 clear hb4 hB3 hQ3 hP3
 have q0 : w4.cell? ⟨w.heap.size, 0, none⟩ = some (.string q.name) := hQ4.cell 0
 have q1 : w4.cell? ⟨w.heap.size, 1, none⟩ = some (.slice AH q.head.length cH) := hQ4.cell 1
 have q2 : w4.cell? ⟨w.heap.size, 2, none⟩ = some (.slice AA q.atoms.length cA) := hQ4.cell 2
 have HOF := Lib.hid (r14of_any q AH cH AA cA w4 hq (hH.later hB4) (hA.later hB4))
 go_wp2_with fail
 refine HOF.out.mono ?_
 rintro e w5 ⟨V, v, E, h, code5, rfl, hoE, hOf, hb5⟩
 obtain ⟨AE, cE, rfl, _, _, _, _⟩ := Rd.of_own hoE
 have hB5 := bthen hB4 hb5
 have hQ5 := hQ4.later hb5
 have hP5 := hP4.later hb5
 have hR5 := hR4.later hb5
 clear HOF q0 q1 q2 hB4 hQ4 hP4 hR4 hb5
 go_upto_region 3 with fail
 have hb6 := below_alloc w5 (.cells #[.int .i64 V, .slice AE E.length cE] 36)
 have hG6 : Row (w5.alloc (.cells #[.int .i64 V, .slice AE E.length cE] 36)) w5.heap.size 36 [.int .i64 V, .slice AE E.length cE] := Row.new _ _ _
 have hB6 := bthen hB5 hb6
 have hQ6 := hQ5.later hb6
 have hP6 := hP5.later hb6
 have hR6 := hR5.later hb6
 have hE6 := (Rd.of_own' hoE).later hb6
 have hT6 := hT.later hB6
 generalize w5.heap.size = gg at hG6 ⊢
 generalize w5.alloc _ = w6 at hG6 hB6 hQ6 hP6 hR6 hE6 hT6 ⊢
 clear hb6 hB5 hQ5 hP5 hR5 hoE hT
 have HAW := Lib.hid (fun (y : World) (hy : Below w6.heap.size w6 y) => awake18_any y (hT6.later hy))
 have hR6c : w6.cell? ⟨g4, 2, none⟩ = some (.slice AN p.nodes.length cN) := hR6.cell 2
 by_cases hs : shapeC q = 0
 case neg =>
  obtain ⟨rfl, rfl, rfl, rfl⟩ : V = 0 ∧ E = [] ∧ h = 0#32 ∧ code5 = shapeC q := by
   rcases hOf.out with ⟨_, a, b, c, d⟩ | ⟨s1, _⟩
   ·exact ⟨a, b, c, d⟩
   ·exact absurd s1 hs
  obtain ⟨rfl, rfl⟩ := make_shape hIS.out hs
  obtain ⟨e1, e2, e3⟩ := ceF hs
  have HAW6 := Lib.hid (HAW.out w6 (Below.refl _ _))
  have hn0 : noPlan.nodes.length = 0 := rfl
  rw [hn0] at hR6c
  clear hOf hIS hG6 hQ6 hP6 hR6 hE6 hT6 hs HAW HSZ hH hA
  generalize shapeC q = sc at e1 e2 e3 ⊢
  have e4 : (sc == sc) = true := by simp
  go_wp2_with fail
  refine HAW6.out.mono ?_
  rintro e w7 ⟨rfl, hb7⟩
  go_wp2_with fail
  go_ret
  exact ⟨rfl, bthen hB6 hb7⟩
 case pos =>
  obtain ⟨rfl, hEq, hh, rfl⟩ : V = (qvars q.atoms).length ∧ E = ofE q ∧ h = headW q ∧ code5 = 0 := by
   rcases hOf.out with ⟨s1, _⟩ | ⟨_, a, b, c, d⟩
   ·exact absurd hs s1
   ·exact ⟨a, b, c, d⟩
  have HG := Lib.hid (shapeC_iff.1 hs)
  have h6 : E.length ≤ 6 := by rw [hEq, ofE_length]; exact HG.out.few
  have hvl := qvars_length HG.out.narrow HG.out.few
  have HVA : Hid (validB (qvars q.atoms).length E = true) := Lib.hid (by rw [hEq]; exact ofE_valid HG.out)
  have HGD : Hid (goodB (qvars q.atoms).length E = true) := Lib.hid (goodB_iff.2 ⟨HVA.out, h6⟩)
  have HMC := Lib.hid (make_cases hIS.out hs)
  rw [← hEq, ← hh] at HMC
  have HEX := Lib.hid (exists_acy (V := (qvars q.atoms).length) HVA.out)
  have HEY := Lib.hid (exists_acy (V := (qvars q.atoms).length) (ext_valid (head := h) HGD.out))
  have g0 : w6.cell? ⟨gg, 0, none⟩ = some (.int .i64 ((qvars q.atoms).length : Nat)) := hG6.cell 0
  have g1 : w6.cell? ⟨gg, 1, none⟩ = some (.slice AE E.length cE) := hG6.cell 1
  have HEXT := Lib.hid (r17extended_any (qvars q.atoms).length AE E cE h w6 (by omega) hE6)
  clear hOf hIS hEq hh hs HG
  go_wp2_with fail
  refine HEXT.out.mono ?_
  rintro e w7 ⟨V', v', F, code7, rfl, hoF, hXI, hb7⟩
  obtain ⟨rfl, rfl, rfl⟩ : V' = (qvars q.atoms).length ∧ F = extE E h ∧ code7 = 0 := by
   rcases hXI.out with ⟨g, _⟩ | ⟨_, a, b, c⟩
   ·rw [HGD.out] at g; cases g
   ·exact ⟨a, b, c⟩
  obtain ⟨AF, cF, rfl, _, _, _, _⟩ := Rd.of_own hoF
  have hx7 : (extE E h).length ≤ 7 := by rw [extE_length]; omega
  have hB7 := bthen hB6 hb7
  have hQ7 := hQ6.later hb7
  have hR7 := hR6.later hb7
  have hP7 := hP6.later hb7
  have hG7 := hG6.later hb7
  have hE7 := hE6.later hb7
  have hT7 := hT6.later hb7
  clear hXI HEXT g0 g1 hB6 hQ6 hR6 hP6 hG6 hE6 hT6 HAW hR6c HGD
  generalize extE E h = F at hoF hx7 HMC HEY
  go_upto_region 6 with fail
  have hb8 := below_alloc w7 (.cells #[.int .i64 ((qvars q.atoms).length : Nat), .slice AF F.length cF] 36)
  have hX8 : Row (w7.alloc (.cells #[.int .i64 ((qvars q.atoms).length : Nat), .slice AF F.length cF] 36)) w7.heap.size 36 [.int .i64 ((qvars q.atoms).length : Nat), .slice AF F.length cF] := Row.new _ _ _
  have hB8 := bthen hB7 hb8
  have hQ8 := hQ7.later hb8
  have hR8 := hR7.later hb8
  have hP8 := hP7.later hb8
  have hG8 := hG7.later hb8
  have hE8 := hE7.later hb8
  have hF8 := (Rd.of_own' hoF).later hb8
  have hT8 := hT7.later hb8
  generalize w7.heap.size = gx at hX8 ⊢
  generalize w7.alloc _ = w8 at hX8 hB8 hQ8 hR8 hP8 hG8 hE8 hF8 hT8 ⊢
  clear hb8 hB7 hQ7 hR7 hP7 hG7 hE7 hoF hT7
  have g0 : w8.cell? ⟨gg, 0, none⟩ = some (.int .i64 ((qvars q.atoms).length : Nat)) := hG8.cell 0
  have g1 : w8.cell? ⟨gg, 1, none⟩ = some (.slice AE E.length cE) := hG8.cell 1
  have HE1 := Lib.hid (exists_any (qvars q.atoms).length AE E cE w8 (by omega) (by omega) hE8)
  rw [HEX.out] at HE1
  clear HEX
  have HAW8 := Lib.hid (fun (y : World) (hy : Below w8.heap.size w8 y) => awake18_any y (hT8.later hy))
  have HKP : Hid (∀ y, Below w8.heap.size w8 y → Below w8.heap.size w8 y ∧ (y.cell? ⟨w.heap.size, 0, none⟩ = some (.string q.name) ∧ y.cell? ⟨w.heap.size, 1, none⟩ = some (.slice AH q.head.length cH) ∧ y.cell? ⟨w.heap.size, 2, none⟩ = some (.slice AA q.atoms.length cA)) ∧ (y.cell? ⟨g4, 0, none⟩ = some (.slice Av p.vars.length cv) ∧ y.cell? ⟨g4, 1, none⟩ = some (.slice Ah p.head.length ch) ∧ y.cell? ⟨g4, 2, none⟩ = some (.slice AN p.nodes.length cN) ∧ y.cell? ⟨g4, 3, none⟩ = some (.int .i64 p.root) ∧ y.cell? ⟨g4, 4, none⟩ = some (.slice At p.tops.length ct))) := Lib.hid fun y hy => ⟨hy, ⟨(hQ8.later hy).cell 0, (hQ8.later hy).cell 1, (hQ8.later hy).cell 2⟩, (hR8.later hy).cell 0, (hR8.later hy).cell 1, (hR8.later hy).cell 2, (hR8.later hy).cell 3, (hR8.later hy).cell 4⟩
  rcases HMC.out with ⟨ha, rfl, rfl⟩ | ⟨ha, hx, rfl, rfl⟩ | ⟨ha, hx, hCK, rfl⟩
  ·rw [ha] at HE1
   have hn0 : noPlan.nodes.length = 0 := rfl
   clear ha HMC HEY HSZ hH hA hQ8 hR8 hP8
   go_wp2_with fail
   refine HE1.out.mono ?_
   rintro e w9 ⟨rfl, hb9⟩
   have HA9 := Lib.hid (HAW8.out w9 hb9)
   obtain ⟨_, _, _, _, z2, _⟩ := HKP.out _ hb9
   rw [hn0] at z2
   clear hn0 HKP HAW8
   go_wp2_with fail
   refine HA9.out.mono ?_
   rintro e wa ⟨rfl, hba⟩
   go_wp2_with fail
   go_ret
   exact ⟨rfl, bthen hB8 (bthen hb9 hba)⟩
  ·rw [ha] at HE1
   have hn0 : noPlan.nodes.length = 0 := rfl
   rw [hx] at HEY
   clear ha hx HMC HSZ hH hA hQ8 hR8 hP8
   go_wp2_with fail
   refine HE1.out.mono ?_
   rintro e w9 ⟨rfl, hb9⟩
   have HE2 := Lib.hid (exists_any (qvars q.atoms).length AF F cF w9 (by omega) hx7 (hF8.later hb9))
   rw [HEY.out] at HE2
   have x0 : w9.cell? ⟨gx, 0, none⟩ = some (.int .i64 ((qvars q.atoms).length : Nat)) := (hX8.later hb9).cell 0
   have x1 : w9.cell? ⟨gx, 1, none⟩ = some (.slice AF F.length cF) := (hX8.later hb9).cell 1
   clear g0 g1 HEY
   go_wp2_with fail
   refine HE2.out.mono ?_
   rintro e wa ⟨rfl, hba⟩
   have hBa := bthen hb9 hba
   have HA9 := Lib.hid (HAW8.out wa hBa)
   obtain ⟨_, _, _, _, z2, _⟩ := HKP.out _ hBa
   rw [hn0] at z2
   clear hn0 HKP HAW8 x0 x1
   go_wp2_with fail
   refine HA9.out.mono ?_
   rintro e wb ⟨rfl, hbb⟩
   go_wp2_with fail
   go_ret
   exact ⟨rfl, bthen hB8 (bthen hBa hbb)⟩
  ·rw [ha] at HE1
   rw [hx] at HEY
   have HCK := Lib.hid hCK
   clear ha hx hCK HMC
   go_wp2_with fail
   refine HE1.out.mono ?_
   rintro e w9 ⟨rfl, hb9⟩
   have HE2 := Lib.hid (exists_any (qvars q.atoms).length AF F cF w9 (by omega) hx7 (hF8.later hb9))
   rw [HEY.out] at HE2
   have x0 : w9.cell? ⟨gx, 0, none⟩ = some (.int .i64 ((qvars q.atoms).length : Nat)) := (hX8.later hb9).cell 0
   have x1 : w9.cell? ⟨gx, 1, none⟩ = some (.slice AF F.length cF) := (hX8.later hb9).cell 1
   clear g0 g1 HEY
   go_wp2_with fail
   refine HE2.out.mono ?_
   rintro e wa ⟨rfl, hba⟩
   have hBa := bthen hb9 hba
   clear x0 x1 HE1 HE2 hb9 hba hG8 hE8 hF8 hX8
   have HO18 : Hid (∀ y, Below w8.heap.size w8 y → Calls Tryz.prog 12 #[.agg #[.slice Av p.vars.length cv, .slice Ah p.head.length ch, .slice AN p.nodes.length cN, .int .i64 p.root, .slice At p.tops.length ct]] y fun e w' => ∃ gv gh gt AN' cN', e = .returned (.agg #[.slice (some ⟨gv, 0, none⟩) p.vars.length p.vars.length, .slice (some ⟨gh, 0, none⟩) p.head.length p.head.length, .slice AN' p.nodes.length cN', .int .i64 p.root, .slice (some ⟨gt, 0, none⟩) p.tops.length p.tops.length]) ∧
     PlR w' p (some ⟨gv, 0, none⟩) (some ⟨gh, 0, none⟩) AN' (some ⟨gt, 0, none⟩) ∧ Below y.heap.size y w') := Lib.hid fun y hy => by
    have h := hP8.later hy
    refine (of18_any p Av cv Ah ch AN cN At ct y HSZ.out h.1 h.2.1 h.2.2.1 h.2.2.2).mono ?_
    rintro e w' ⟨gv, gh, gt, AN', cN', rfl, h1, h2, h3, h4, hb⟩
    exact ⟨gv, gh, gt, AN', cN', rfl, ⟨h1, h2, h3, h4⟩, hb⟩
   have HCH : Hid (∀ (y : World) (gv gh gt : Nat) (AM : Option Addr) (cM : Nat), Below w8.heap.size w8 y → PlR y p (some ⟨gv, 0, none⟩) (some ⟨gh, 0, none⟩) AM (some ⟨gt, 0, none⟩) → Calls Tryz.prog 11 #[.agg #[.string q.name, .slice AH q.head.length cH, .slice AA q.atoms.length cA], .agg #[.slice (some ⟨gv, 0, none⟩) p.vars.length p.vars.length, .slice (some ⟨gh, 0, none⟩) p.head.length p.head.length, .slice AM p.nodes.length cM, .int .i64 p.root, .slice (some ⟨gt, 0, none⟩) p.tops.length p.tops.length]] y fun e w' => e = .returned (.bool true) ∧ Below y.heap.size y w') := Lib.hid fun y gv gh gt AM cM hy h => by
    refine (r18check_any q AH cH AA cA p (some ⟨gv, 0, none⟩) p.vars.length (some ⟨gh, 0, none⟩) p.head.length AM cM (some ⟨gt, 0, none⟩) p.tops.length y hq HSZ.out.l (hH.later (bthen hB8 hy)) (hA.later (bthen hB8 hy)) h.1 h.2.1 h.2.2.1 h.2.2.2).mono ?_
    rintro e w' ⟨b, rfl, hb, hb2⟩
    rw [hb.out.2 HCK.out]
    exact ⟨rfl, hb2⟩
   have HCP := Lib.hid (fun (y : World) (hy : Below w8.heap.size w8 y) => copyQ_any q AH cH AA cA y hq (hH.later (bthen hB8 hy)) (hA.later (bthen hB8 hy)))
   have HPC : Hid (∀ (y : World) (gq : Nat) (A2 : Option Addr) (c2 : Nat), Below w8.heap.size w8 y → Rd y y.heap.size (some ⟨gq, 0, none⟩) (ss q.head) → Ats y y.heap.size A2 q.atoms → Calls Tryz.prog 15 #[.agg #[.string q.name, .slice (some ⟨gq, 0, none⟩) q.head.length q.head.length, .slice A2 q.atoms.length c2], .agg #[.slice Av p.vars.length cv, .slice Ah p.head.length ch, .slice AN p.nodes.length cN, .int .i64 p.root, .slice At p.tops.length ct]] y fun e w' => e = .returned (.bool true) ∧ Below y.heap.size y w') := Lib.hid fun y gq A2 c2 hy h1 h2 => by
    have h := hP8.later hy
    refine (plancheck_any q (some ⟨gq, 0, none⟩) q.head.length A2 c2 p Av cv Ah ch AN cN At ct y hq (Nat.le_refl _) HSZ.out.l h1 h2 h.1 h.2.1 h.2.2.1 h.2.2.2 (hT8.later hy)).mono ?_
    rintro e w' ⟨b, rfl, hb, hb2⟩
    rw [hb.out.2 HCK.out]
    exact ⟨rfl, hb2⟩
   have hwd := HKP.out _ hBa.drew
   clear hQ8 hR8 hT8 hq hH hA
   go_upto_region 10 with fail
   refine wp_region_held_drew (S := (fun y : World => Below w8.heap.size w8 y ∧ (y.cell? ⟨w.heap.size, 0, none⟩ = some (.string q.name) ∧ y.cell? ⟨w.heap.size, 1, none⟩ = some (.slice AH q.head.length cH) ∧ y.cell? ⟨w.heap.size, 2, none⟩ = some (.slice AA q.atoms.length cA)) ∧ (y.cell? ⟨g4, 0, none⟩ = some (.slice Av p.vars.length cv) ∧ y.cell? ⟨g4, 1, none⟩ = some (.slice Ah p.head.length ch) ∧ y.cell? ⟨g4, 2, none⟩ = some (.slice AN p.nodes.length cN) ∧ y.cell? ⟨g4, 3, none⟩ = some (.int .i64 p.root) ∧ y.cell? ⟨g4, 4, none⟩ = some (.slice At p.tops.length ct)))) (by kernel_rfl) hwd (fun hHeld => ?_)
   refine kY 0 hHeld ?_
   simp only [Act.put, k0, k1, k2]
   refine kY 1 hHeld ?_
   simp only [Act.put, k0, k1, k2]
   refine kY 2 hHeld ?_
   simp only [Act.put, k0, k1, k2]
   refine kY 3 hHeld ?_
   simp only [Act.put, k0, k1, k2]
   refine kY 4 hHeld ?_
   simp only [Act.put, k0, k1, k2]
   refine kC 5 rfl (by kernel_rfl) (fun K hK => ?_)
   go_simp
   go_at_call 12
   refine (HO18.out _ hHeld.1).mono ?_
   rintro e2 wq ⟨gv, gh2, gt, AM, cM, rfl, hrd, hbq⟩
   have hbq2 := bthen hHeld.1 hbq
   go_wp2_with fail
   refine hK.out _ _ (HKP.out _ hbq2) (fun hNew => ?_)
   clear hK K hHeld; have hHeld := hNew; clear hNew
   try simp only [Act.put, k0, k1, k2]
   refine kC 6 rfl (by kernel_rfl) (fun K hK => ?_)
   go_simp
   go_at_call 11
   refine (HCH.out _ _ _ _ _ _ hHeld.1 hrd).mono ?_
   rintro e2 wq2 ⟨rfl, hbq⟩
   have hbq3 := bthen hHeld.1 hbq
   go_wp2_with fail
   refine hK.out _ _ (HKP.out _ hbq3) (fun hNew => ?_)
   clear hK K hHeld; have hHeld := hNew; clear hNew
   try simp only [Act.put, k0, k1, k2]
   refine kY 7 hHeld ?_
   simp only [Act.put, k0, k1, k2]
   refine kY 8 hHeld ?_
   simp only [Act.put, k0, k1, k2]
   refine kY 9 hHeld ?_
   simp only [Act.put, k0, k1, k2]
   refine kY 11 hHeld ?_
   simp only [Act.put, k0, k1, k2]
   refine kC 10 rfl (by kernel_rfl) (fun K hK => ?_)
   go_simp
   go_at_call 7
   refine (HCP.out _ hHeld.1).mono ?_
   rintro e2 wq3 ⟨gq, A2, c2, rfl, hRq, hAq, hbq⟩
   have hRq2 : Rd wq3 wq3.heap.size (some ⟨gq, 0, none⟩) (ss q.head) := hRq.rd
   have hbq4 := bthen hHeld.1 hbq
   go_wp2_with fail
   refine hK.out _ _ (HKP.out _ hbq4) (fun hNew => ?_)
   clear hK K hHeld; have hHeld := hNew; clear hNew
   try simp only [Act.put, k0, k1, k2]
   refine kC 12 rfl (by kernel_rfl) (fun K hK => ?_)
   go_simp
   go_at_call 15
   refine (HPC.out _ _ _ _ hHeld.1 hRq2 hAq).mono ?_
   rintro e2 wq4 ⟨rfl, hbq⟩
   have hbq5 := bthen hHeld.1 hbq
   go_wp2_with fail
   refine hK.out _ _ (HKP.out _ hbq5) (fun hNew => ?_)
   clear hK K hHeld; have hHeld := hNew; clear hNew
   try simp only [Act.put, k0, k1, k2]
   refine kY 13 hHeld ?_
   simp only [Act.put, k0, k1, k2]
   refine kY 14 hHeld ?_
   simp only [Act.put, k0, k1, k2]
   refine kC 15 rfl (by kernel_rfl) (fun K hK => ?_)
   go_simp
   go_at_call 9
   refine (HAW8.out _ hHeld.1).mono ?_
   rintro e2 wq5 ⟨rfl, hbq⟩
   have hbq6 := bthen hHeld.1 hbq
   go_wp2_with fail
   refine hK.out _ _ (HKP.out _ hbq6) (fun hNew => ?_)
   clear hK K hHeld; have hHeld := hNew; clear hNew
   try simp only [Act.put, k0, k1, k2]
   refine kY 16 hHeld ?_
   simp only [Act.put, k0, k1, k2]
   refine kY 17 hHeld ?_
   simp only [Act.put, k0, k1, k2]
   refine wpAnyH_done (by kernel_rfl) ?_ _
   go_wp2_with fail
   go_ret
   exact ⟨rfl, bthen hB8 hHeld.1⟩
end Go.Proofs.YtdemmjofggemhaaGreatDoor
