/- The walk of osierlaw18.PlanChecks. -/
import Derived.Test.YtdemmjofggemhaaGreatDoorLPFlat
import Derived.Test.YtdemmjofggemhaaGreatDoorPlnCheck
import Derived.Test.YtdemmjofggemhaaGreatDoorL18Same
set_option linter.unusedSimpArgs false
namespace Go.Proofs.YtdemmjofggemhaaGreatDoor
open Go.RowKit
set_option maxRecDepth 100000 in
set_option maxHeartbeats 8000000 in
theorem law_pchecks (q : Qy) (AH : Option Addr) (cH : Nat) (AA : Option Addr) (cA : Nat) (p : PPlan) (AV : Option Addr) (cV : Nat) (AP : Option Addr) (cP : Nat) (AN : Option Addr) (cN : Nat) (AT : Option Addr) (cT : Nat) (w : World) (hq : SzQ q) (hH : Rd w w.heap.size AH (ss q.head)) (hA : Ats w w.heap.size AA q.atoms)
  (hp : SzP p) (hV : Rd w w.heap.size AV (ss p.vars)) (hP : Rd w w.heap.size AP (is p.head)) (hN : NdR w w.heap.size AN p.nodes) (hTp : Rd w w.heap.size AT (is p.tops)) (hT : Tab w) :
  Calls Tryz.prog 4 #[.agg #[.string q.name, .slice AH q.head.length cH, .slice AA q.atoms.length cA], .agg #[.slice AV p.vars.length cV, .slice AP p.head.length cP, .slice AN p.nodes.length cN, .int .i64 p.root, .slice AT p.tops.length cT]] w fun e w' => e = .returned (.bool true) ∧ Below w.heap.size w w' := by
 have hpr : PlR w p AV AP AN AT := ⟨hV, hP, hN, hTp⟩
 clear hV hP hN hTp
 go_enter Tryz.func4, Tryz.ntmps4
 go_upto_region 1 with fail
 have hb0 : Below w.heap.size w ((w.alloc (.cells #[.string q.name, .slice AH q.head.length cH, .slice AA q.atoms.length cA] 25)).alloc (.cells #[.slice AV p.vars.length cV, .slice AP p.head.length cP, .slice AN p.nodes.length cN, .int .i64 p.root, .slice AT p.tops.length cT] 29)) := (below_alloc w _).alloc (by simp) _
 have hQ0 : Row ((w.alloc (.cells #[.string q.name, .slice AH q.head.length cH, .slice AA q.atoms.length cA] 25)).alloc (.cells #[.slice AV p.vars.length cV, .slice AP p.head.length cP, .slice AN p.nodes.length cN, .int .i64 p.root, .slice AT p.tops.length cT] 29)) w.heap.size 25 [.string q.name, .slice AH q.head.length cH, .slice AA q.atoms.length cA] := (Row.new w _ _).alloc _
 have hR0 : Row ((w.alloc (.cells #[.string q.name, .slice AH q.head.length cH, .slice AA q.atoms.length cA] 25)).alloc (.cells #[.slice AV p.vars.length cV, .slice AP p.head.length cP, .slice AN p.nodes.length cN, .int .i64 p.root, .slice AT p.tops.length cT] 29)) (w.heap.size + 1) 29 [.slice AV p.vars.length cV, .slice AP p.head.length cP, .slice AN p.nodes.length cN, .int .i64 p.root, .slice AT p.tops.length cT] := Row.new_ (by simp)
 generalize (w.alloc _).alloc _ = w0 at hb0 hQ0 hR0 ⊢
 have r0 : w0.cell? ⟨w.heap.size + 1, 0, none⟩ = some (.slice AV p.vars.length cV) := hR0.cell 0
 have r1 : w0.cell? ⟨w.heap.size + 1, 1, none⟩ = some (.slice AP p.head.length cP) := hR0.cell 1
 have r2 : w0.cell? ⟨w.heap.size + 1, 2, none⟩ = some (.slice AN p.nodes.length cN) := hR0.cell 2
 have r3 : w0.cell? ⟨w.heap.size + 1, 3, none⟩ = some (.int .i64 p.root) := hR0.cell 3
 have r4 : w0.cell? ⟨w.heap.size + 1, 4, none⟩ = some (.slice AT p.tops.length cT) := hR0.cell 4
 have hp0 := hpr.later hb0
 have HOF := Lib.hid (of18_any p AV cV AP cP AN cN AT cT w0 hp hp0.1 hp0.2.1 hp0.2.2.1 hp0.2.2.2)
 go_wp2_with fail
 refine HOF.out.mono ?_
 rintro e w1 ⟨gv1, gh1, gt1, AN1, cN1, rfl, d1, d2, d3, d4, hb1⟩
 have hB1 := bthen hb0 hb1
 have hQ1 := hQ0.later hb1
 have hR1 := hR0.later hb1
 have HBK := Lib.hid (back18_any p (some ⟨gv1, 0, none⟩) p.vars.length (some ⟨gh1, 0, none⟩) p.head.length AN1 cN1 (some ⟨gt1, 0, none⟩) p.tops.length w1 hp d1 d2 d3 d4)
 clear HOF r0 r1 r2 r3 r4 hb0 hQ0 hR0 hb1 hp0 d1 d2 d3 d4
 go_wp2_with fail
 refine HBK.out.mono ?_
 rintro e w2 ⟨gv5, gh5, gt5, AN5, cN5, rfl, d1, d2, d3, d4, hb2⟩
 have hi2 : PlR w2 p (some ⟨gv5, 0, none⟩) (some ⟨gh5, 0, none⟩) AN5 (some ⟨gt5, 0, none⟩) := ⟨d1, d2, d3, d4⟩
 have hB2 := bthen hB1 hb2
 have hQ2 := hQ1.later hb2
 have hR2 := hR1.later hb2
 clear HBK hB1 hQ1 hR1 hb2 d1 d2 d3 d4
 go_upto_region 2 with fail
 have hb3 := below_alloc w2 (.cells #[.slice (some ⟨gv5, 0, none⟩) p.vars.length p.vars.length, .slice (some ⟨gh5, 0, none⟩) p.head.length p.head.length, .slice AN5 p.nodes.length cN5, .int .i64 p.root, .slice (some ⟨gt5, 0, none⟩) p.tops.length p.tops.length] 29)
 have hI3 : Row (w2.alloc (.cells #[.slice (some ⟨gv5, 0, none⟩) p.vars.length p.vars.length, .slice (some ⟨gh5, 0, none⟩) p.head.length p.head.length, .slice AN5 p.nodes.length cN5, .int .i64 p.root, .slice (some ⟨gt5, 0, none⟩) p.tops.length p.tops.length] 29)) w2.heap.size 29 [.slice (some ⟨gv5, 0, none⟩) p.vars.length p.vars.length, .slice (some ⟨gh5, 0, none⟩) p.head.length p.head.length, .slice AN5 p.nodes.length cN5, .int .i64 p.root, .slice (some ⟨gt5, 0, none⟩) p.tops.length p.tops.length] := Row.new _ _ _
 have hB3 := bthen hB2 hb3
 have hQ3 := hQ2.later hb3
 have hR3 := hR2.later hb3
 have hi3 := hi2.later hb3
 have hp3 := hpr.later hB3
 have hT3 := hT.later hB3
 have hH3 := hH.later hB3
 have hA3 := hA.later hB3
 generalize w2.heap.size = g5 at hI3 ⊢
 generalize w2.alloc _ = w3 at hI3 hB3 hQ3 hR3 hi3 hp3 hT3 hH3 hA3 ⊢
 clear hb3 hB2 hQ2 hR2 hi2 hT hH hA hpr
 have HKP : Hid (∀ y, Below w3.heap.size w3 y → Below w3.heap.size w3 y ∧ (y.cell? ⟨w.heap.size, 0, none⟩ = some (.string q.name) ∧ y.cell? ⟨w.heap.size, 1, none⟩ = some (.slice AH q.head.length cH) ∧ y.cell? ⟨w.heap.size, 2, none⟩ = some (.slice AA q.atoms.length cA)) ∧ (y.cell? ⟨w.heap.size + 1, 0, none⟩ = some (.slice AV p.vars.length cV) ∧ y.cell? ⟨w.heap.size + 1, 1, none⟩ = some (.slice AP p.head.length cP) ∧ y.cell? ⟨w.heap.size + 1, 2, none⟩ = some (.slice AN p.nodes.length cN) ∧ y.cell? ⟨w.heap.size + 1, 3, none⟩ = some (.int .i64 p.root) ∧ y.cell? ⟨w.heap.size + 1, 4, none⟩ = some (.slice AT p.tops.length cT)) ∧ (y.cell? ⟨g5, 0, none⟩ = some (.slice (some ⟨gv5, 0, none⟩) p.vars.length p.vars.length) ∧ y.cell? ⟨g5, 1, none⟩ = some (.slice (some ⟨gh5, 0, none⟩) p.head.length p.head.length) ∧ y.cell? ⟨g5, 2, none⟩ = some (.slice AN5 p.nodes.length cN5) ∧ y.cell? ⟨g5, 3, none⟩ = some (.int .i64 p.root) ∧ y.cell? ⟨g5, 4, none⟩ = some (.slice (some ⟨gt5, 0, none⟩) p.tops.length p.tops.length))) := Lib.hid fun y hy => ⟨hy, ⟨(hQ3.later hy).cell 0, (hQ3.later hy).cell 1, (hQ3.later hy).cell 2⟩, ⟨(hR3.later hy).cell 0, (hR3.later hy).cell 1, (hR3.later hy).cell 2, (hR3.later hy).cell 3, (hR3.later hy).cell 4⟩, (hI3.later hy).cell 0, (hI3.later hy).cell 1, (hI3.later hy).cell 2, (hI3.later hy).cell 3, (hI3.later hy).cell 4⟩
 obtain ⟨PP, hPP⟩ : ∃ P, CheckOk q p = P := ⟨_, rfl⟩
 have HAW := Lib.hid (fun (y : World) (hy : Below w3.heap.size w3 y) => awake18_any y (hT3.later hy))
 have HCP := Lib.hid (fun (y : World) (hy : Below w3.heap.size w3 y) => copyQ_any q AH cH AA cA y hq (hH3.later hy) (hA3.later hy))
 have HPC := Lib.hid (fun (y : World) (gq : Nat) (A2 : Option Addr) (c2 : Nat) (hy : Below w3.heap.size w3 y) (h1 : Rd y y.heap.size (some ⟨gq, 0, none⟩) (ss q.head)) (h2 : Ats y y.heap.size A2 q.atoms) => plancheck_any q (some ⟨gq, 0, none⟩) q.head.length A2 c2 p (some ⟨gv5, 0, none⟩) p.vars.length (some ⟨gh5, 0, none⟩) p.head.length AN5 cN5 (some ⟨gt5, 0, none⟩) p.tops.length y hq (Nat.le_refl _) hp.l h1 h2 (hi3.later hy).1 (hi3.later hy).2.1 (hi3.later hy).2.2.1 (hi3.later hy).2.2.2 (hT3.later hy))
 have HCH := Lib.hid (fun (y : World) (gv gh gt : Nat) (AM : Option Addr) (cM : Nat) (hy : Below w3.heap.size w3 y) (h : PlR y p (some ⟨gv, 0, none⟩) (some ⟨gh, 0, none⟩) AM (some ⟨gt, 0, none⟩)) => r18check_any q AH cH AA cA p (some ⟨gv, 0, none⟩) p.vars.length (some ⟨gh, 0, none⟩) p.head.length AM cM (some ⟨gt, 0, none⟩) p.tops.length y hq hp.l (hH3.later hy) (hA3.later hy) h.1 h.2.1 h.2.2.1 h.2.2.2)
 rw [hPP] at HPC HCH
 clear hPP
 have HO : Hid (∀ y, Below w3.heap.size w3 y → Calls Tryz.prog 12 #[.agg #[.slice AV p.vars.length cV, .slice AP p.head.length cP, .slice AN p.nodes.length cN, .int .i64 p.root, .slice AT p.tops.length cT]] y fun e w' => ∃ gv gh gt AN' cN', e = .returned (.agg #[.slice (some ⟨gv, 0, none⟩) p.vars.length p.vars.length, .slice (some ⟨gh, 0, none⟩) p.head.length p.head.length, .slice AN' p.nodes.length cN', .int .i64 p.root, .slice (some ⟨gt, 0, none⟩) p.tops.length p.tops.length]) ∧
   PlR w' p (some ⟨gv, 0, none⟩) (some ⟨gh, 0, none⟩) AN' (some ⟨gt, 0, none⟩) ∧ Below y.heap.size y w') := Lib.hid fun y hy => by
  have h := hp3.later hy
  refine (of18_any p AV cV AP cP AN cN AT cT y hp h.1 h.2.1 h.2.2.1 h.2.2.2).mono ?_
  rintro e w' ⟨gv, gh, gt, AN', cN', rfl, h1, h2, h3, h4, hb⟩
  exact ⟨gv, gh, gt, AN', cN', rfl, ⟨h1, h2, h3, h4⟩, hb⟩
 have HI : Hid (∀ y, Below w3.heap.size w3 y → Calls Tryz.prog 12 #[.agg #[.slice (some ⟨gv5, 0, none⟩) p.vars.length p.vars.length, .slice (some ⟨gh5, 0, none⟩) p.head.length p.head.length, .slice AN5 p.nodes.length cN5, .int .i64 p.root, .slice (some ⟨gt5, 0, none⟩) p.tops.length p.tops.length]] y fun e w' => ∃ gv gh gt AN' cN', e = .returned (.agg #[.slice (some ⟨gv, 0, none⟩) p.vars.length p.vars.length, .slice (some ⟨gh, 0, none⟩) p.head.length p.head.length, .slice AN' p.nodes.length cN', .int .i64 p.root, .slice (some ⟨gt, 0, none⟩) p.tops.length p.tops.length]) ∧
   PlR w' p (some ⟨gv, 0, none⟩) (some ⟨gh, 0, none⟩) AN' (some ⟨gt, 0, none⟩) ∧ Below y.heap.size y w') := Lib.hid fun y hy => by
  have h := hi3.later hy
  refine (of18_any p (some ⟨gv5, 0, none⟩) p.vars.length (some ⟨gh5, 0, none⟩) p.head.length AN5 cN5 (some ⟨gt5, 0, none⟩) p.tops.length y hp h.1 h.2.1 h.2.2.1 h.2.2.2).mono ?_
  rintro e w' ⟨gv, gh, gt, AN', cN', rfl, h1, h2, h3, h4, hb⟩
  exact ⟨gv, gh, gt, AN', cN', rfl, ⟨h1, h2, h3, h4⟩, hb⟩
 have HSM := Lib.hid (fun (y : World) (gv gh gt : Nat) (AM : Option Addr) (cM : Nat) (gv' gh' gt' : Nat) (AM' : Option Addr) (cM' : Nat) (h : PlR y p (some ⟨gv, 0, none⟩) (some ⟨gh, 0, none⟩) AM (some ⟨gt, 0, none⟩)) (h' : PlR y p (some ⟨gv', 0, none⟩) (some ⟨gh', 0, none⟩) AM' (some ⟨gt', 0, none⟩)) => same18_any p (some ⟨gv, 0, none⟩) (some ⟨gh, 0, none⟩) AM (some ⟨gt, 0, none⟩) (some ⟨gv', 0, none⟩) (some ⟨gh', 0, none⟩) AM' (some ⟨gt', 0, none⟩) p.vars.length p.head.length cM p.tops.length p.vars.length p.head.length cM' p.tops.length y hp h.1 h.2.1 h.2.2.1 h.2.2.2 h'.1 h'.2.1 h'.2.2.1 h'.2.2.2)
 have hwd := HKP.out _ (Below.refl _ _).drew
 clear hQ3 hR3 hI3 hT3 hH3 hA3 hi3 hp3
 refine wp_region_held_drew (S := (fun y : World => Below w3.heap.size w3 y ∧ (y.cell? ⟨w.heap.size, 0, none⟩ = some (.string q.name) ∧ y.cell? ⟨w.heap.size, 1, none⟩ = some (.slice AH q.head.length cH) ∧ y.cell? ⟨w.heap.size, 2, none⟩ = some (.slice AA q.atoms.length cA)) ∧ (y.cell? ⟨w.heap.size + 1, 0, none⟩ = some (.slice AV p.vars.length cV) ∧ y.cell? ⟨w.heap.size + 1, 1, none⟩ = some (.slice AP p.head.length cP) ∧ y.cell? ⟨w.heap.size + 1, 2, none⟩ = some (.slice AN p.nodes.length cN) ∧ y.cell? ⟨w.heap.size + 1, 3, none⟩ = some (.int .i64 p.root) ∧ y.cell? ⟨w.heap.size + 1, 4, none⟩ = some (.slice AT p.tops.length cT)) ∧ (y.cell? ⟨g5, 0, none⟩ = some (.slice (some ⟨gv5, 0, none⟩) p.vars.length p.vars.length) ∧ y.cell? ⟨g5, 1, none⟩ = some (.slice (some ⟨gh5, 0, none⟩) p.head.length p.head.length) ∧ y.cell? ⟨g5, 2, none⟩ = some (.slice AN5 p.nodes.length cN5) ∧ y.cell? ⟨g5, 3, none⟩ = some (.int .i64 p.root) ∧ y.cell? ⟨g5, 4, none⟩ = some (.slice (some ⟨gt5, 0, none⟩) p.tops.length p.tops.length)))) (by kernel_rfl) hwd (fun hHeld => ?_)
 refine kY 0 hHeld ?_
 simp only [Act.put, k0, k1, k2]
 refine kY 2 hHeld ?_
 simp only [Act.put, k0, k1, k2]
 refine kC 1 rfl (by kernel_rfl) (fun K hK => ?_)
 go_simp
 go_at_call 7
 refine (HCP.out _ hHeld.1).mono ?_
 rintro e2 wq3 ⟨gq, A2, c2, rfl, hRq, hAq, hbq⟩
 have hRq2 : Rd wq3 wq3.heap.size (some ⟨gq, 0, none⟩) (ss q.head) := hRq.rd
 have hbq4 := bthen hHeld.1 hbq
 go_wp2_with fail
 refine hK.out _ _ (HKP.out _ hbq4) (fun hNew => ?_)
 clear hK K hHeld; have hHeld := hNew; clear hNew
 try simp only [Act.put, k0, k1, k2]
 refine kC 3 rfl (by kernel_rfl) (fun K hK => ?_)
 go_simp
 go_at_call 15
 refine (HPC.out _ _ _ _ hHeld.1 hRq2 hAq).mono ?_
 rintro e2 wq4 ⟨b6, rfl, HB6, hbq⟩
 have hbq5 := bthen hHeld.1 hbq
 go_wp2_with fail
 refine hK.out _ _ (HKP.out _ hbq5) (fun hNew => ?_)
 clear hK K hHeld; have hHeld := hNew; clear hNew
 try simp only [Act.put, k0, k1, k2]
 refine kY 4 hHeld ?_
 simp only [Act.put, k0, k1, k2]
 refine wpAnyH_done (by kernel_rfl) ?_ _
 have hBx := hHeld.1
 have hwd2 := HKP.out _ hBx.drew
 clear hHeld hwd
 go_upto_region 3 with fail
 refine wp_region_held_drew (S := (fun y : World => Below w3.heap.size w3 y ∧ (y.cell? ⟨w.heap.size, 0, none⟩ = some (.string q.name) ∧ y.cell? ⟨w.heap.size, 1, none⟩ = some (.slice AH q.head.length cH) ∧ y.cell? ⟨w.heap.size, 2, none⟩ = some (.slice AA q.atoms.length cA)) ∧ (y.cell? ⟨w.heap.size + 1, 0, none⟩ = some (.slice AV p.vars.length cV) ∧ y.cell? ⟨w.heap.size + 1, 1, none⟩ = some (.slice AP p.head.length cP) ∧ y.cell? ⟨w.heap.size + 1, 2, none⟩ = some (.slice AN p.nodes.length cN) ∧ y.cell? ⟨w.heap.size + 1, 3, none⟩ = some (.int .i64 p.root) ∧ y.cell? ⟨w.heap.size + 1, 4, none⟩ = some (.slice AT p.tops.length cT)) ∧ (y.cell? ⟨g5, 0, none⟩ = some (.slice (some ⟨gv5, 0, none⟩) p.vars.length p.vars.length) ∧ y.cell? ⟨g5, 1, none⟩ = some (.slice (some ⟨gh5, 0, none⟩) p.head.length p.head.length) ∧ y.cell? ⟨g5, 2, none⟩ = some (.slice AN5 p.nodes.length cN5) ∧ y.cell? ⟨g5, 3, none⟩ = some (.int .i64 p.root) ∧ y.cell? ⟨g5, 4, none⟩ = some (.slice (some ⟨gt5, 0, none⟩) p.tops.length p.tops.length)))) (by kernel_rfl) hwd2 (fun hHeld => ?_)
 refine kC 0 rfl (by kernel_rfl) (fun K hK => ?_)
 go_simp
 go_at_call 9
 refine (HAW.out _ hHeld.1).mono ?_
 rintro e2 wq5 ⟨rfl, hbq⟩
 have hbq6 := bthen hHeld.1 hbq
 go_wp2_with fail
 refine hK.out _ _ (HKP.out _ hbq6) (fun hNew => ?_)
 clear hK K hHeld; have hHeld := hNew; clear hNew
 try simp only [Act.put, k0, k1, k2]
 refine kY 1 hHeld ?_
 simp only [Act.put, k0, k1, k2]
 refine kY 2 hHeld ?_
 simp only [Act.put, k0, k1, k2]
 refine kY 3 hHeld ?_
 simp only [Act.put, k0, k1, k2]
 refine kY 4 hHeld ?_
 simp only [Act.put, k0, k1, k2]
 refine kC 5 rfl (by kernel_rfl) (fun K hK => ?_)
 go_simp
 go_at_call 12
 refine (HO.out _ hHeld.1).mono ?_
 rintro e2 wq6 ⟨gvc, ghc, gtc, AMc, cMc, rfl, hrc, hbq⟩
 have hbq7 := bthen hHeld.1 hbq
 go_wp2_with fail
 refine hK.out _ _ (HKP.out _ hbq7) (fun hNew => ?_)
 clear hK K hHeld; have hHeld := hNew; clear hNew
 try simp only [Act.put, k0, k1, k2]
 refine kC 6 rfl (by kernel_rfl) (fun K hK => ?_)
 go_simp
 go_at_call 11
 refine (HCH.out _ _ _ _ _ _ hHeld.1 hrc).mono ?_
 rintro e2 wq7 ⟨b7, rfl, HB7, hbq⟩
 obtain rfl : b7 = b6 := by rw [Bool.eq_iff_iff]; exact HB7.out.trans HB6.out.symm
 have hbq8 := bthen hHeld.1 hbq
 have hbb : (b7 == b7) = true := by cases b7 <;> rfl
 go_wp2_with fail
 refine hK.out _ _ (HKP.out _ hbq8) (fun hNew => ?_)
 clear hK K hHeld; have hHeld := hNew; clear hNew
 try simp only [Act.put, k0, k1, k2]
 refine kY 7 hHeld ?_
 simp only [Act.put, k0, k1, k2]
 refine kY 8 hHeld ?_
 simp only [Act.put, k0, k1, k2]
 refine kY 9 hHeld ?_
 simp only [Act.put, k0, k1, k2]
 refine kY 10 hHeld ?_
 simp only [Act.put, k0, k1, k2]
 refine kY 12 hHeld ?_
 simp only [Act.put, k0, k1, k2]
 refine kC 11 rfl (by kernel_rfl) (fun K hK => ?_)
 go_simp
 go_at_call 12
 refine (HI.out _ hHeld.1).mono ?_
 rintro e2 wqA ⟨gvA, ghA, gtA, AMA, cMA, rfl, hrA, hbqA⟩
 try replace hrB := PlR.later hrB hbqA
 have hbqA2 := bthen hHeld.1 hbqA
 go_wp2_with fail
 refine hK.out _ _ (HKP.out _ hbqA2) (fun hNew => ?_)
 clear hK K hHeld; have hHeld := hNew; clear hNew
 try simp only [Act.put, k0, k1, k2]
 refine kC 13 rfl (by kernel_rfl) (fun K hK => ?_)
 go_simp
 go_at_call 12
 refine (HO.out _ hHeld.1).mono ?_
 rintro e2 wqB ⟨gvB, ghB, gtB, AMB, cMB, rfl, hrB, hbqB⟩
 try replace hrA := PlR.later hrA hbqB
 have hbqB2 := bthen hHeld.1 hbqB
 go_wp2_with fail
 refine hK.out _ _ (HKP.out _ hbqB2) (fun hNew => ?_)
 clear hK K hHeld; have hHeld := hNew; clear hNew
 try simp only [Act.put, k0, k1, k2]
 refine kC 14 rfl (by kernel_rfl) (fun K hK => ?_)
 go_simp
 go_at_call 16
 refine (HSM.out _ _ _ _ _ _ _ _ _ _ _ hrA hrB).mono ?_
 rintro e2 wq9 ⟨rfl, hbq⟩
 have hbq9 := bthen hHeld.1 hbq
 go_wp2_with fail
 refine hK.out _ _ (HKP.out _ hbq9) (fun hNew => ?_)
 clear hK K hHeld; have hHeld := hNew; clear hNew
 try simp only [Act.put, k0, k1, k2]
 refine kY 15 hHeld ?_
 simp only [Act.put, k0, k1, k2]
 refine kY 16 hHeld ?_
 simp only [Act.put, k0, k1, k2]
 refine wpAnyH_done (by kernel_rfl) ?_ _
 go_wp2_with fail
 go_ret
 exact ⟨rfl, bthen hB3 hHeld.1⟩
end Go.Proofs.YtdemmjofggemhaaGreatDoor
