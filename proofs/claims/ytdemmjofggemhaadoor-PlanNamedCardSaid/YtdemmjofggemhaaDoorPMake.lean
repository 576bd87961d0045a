/- plan.Make: the contract. -/
import Derived.Test.YtdemmjofggemhaaDoorPMakeT
import Derived.Test.YtdemmjofggemhaaDoorPOrder
import Derived.Test.YtdemmjofggemhaaDoorBE
import Derived.Test.YtdemmjofggemhaaDoorQOf
import Derived.Test.YtdemmjofggemhaaDoorBG
import Derived.Deep.RegionHeld3
import Derived.Deep.CutBlock
import Derived.Deep.DeepCutAuto
set_option linter.unusedSimpArgs false
namespace Go.Proofs.YtdemmjofggemhaaDoor
open Go.RowKit

set_option maxRecDepth 100000 in
set_option maxHeartbeats 16000000 in
theorem plan_make_any (q : Qy) (AH : Option Addr) (cH : Nat) (AA : Option Addr) (cA : Nat) (w : World) (hq : SzQ q) (hcap : q.head.length ≤ cH) (hH : Rd w w.heap.size AH (ss q.head)) (hA : Ats w w.heap.size AA q.atoms) (hT : Tab w) :
    Calls Tryd.prog 6 #[.agg #[.string q.name, .slice AH q.head.length cH, .slice AA q.atoms.length cA]] w (MakeM w.heap.size q w) := by
  have htb := hT.lt
  have HIS : Hid (∀ p code, MakeIs q p code → MakeIs q p code) := Lib.hid fun _ _ h => h
  go_enter Tryd.func6, Tryd.ntmps6
  go_upto_region 1 with fail
  have hb0 : Below w.heap.size w ((w.alloc (.cells #[.string q.name, .slice AH q.head.length cH, .slice AA q.atoms.length cA] 25)).alloc (.cells #[.slice none 0 0, .slice none 0 0, .slice none 0 0, .int .i64 0, .slice none 0 0] 31)) := (below_alloc w _).alloc (by simp) _
  have hQ0 : Row ((w.alloc (.cells #[.string q.name, .slice AH q.head.length cH, .slice AA q.atoms.length cA] 25)).alloc (.cells #[.slice none 0 0, .slice none 0 0, .slice none 0 0, .int .i64 0, .slice none 0 0] 31)) w.heap.size 25 [.string q.name, .slice AH q.head.length cH, .slice AA q.atoms.length cA] := (Row.new w _ _).alloc _
  have hR0 : Row ((w.alloc (.cells #[.string q.name, .slice AH q.head.length cH, .slice AA q.atoms.length cA] 25)).alloc (.cells #[.slice none 0 0, .slice none 0 0, .slice none 0 0, .int .i64 0, .slice none 0 0] 31)) (w.heap.size + 1) 31 [.slice none 0 0, .slice none 0 0, .slice none 0 0, .int .i64 0, .slice none 0 0] := Row.new_ (by simp)
  generalize (w.alloc _).alloc _ = w0 at hb0 hQ0 hR0 ⊢
  have q0 : w0.cell? ⟨w.heap.size, 0, none⟩ = some (.string q.name) := hQ0.cell 0
  have q1 : w0.cell? ⟨w.heap.size, 1, none⟩ = some (.slice AH q.head.length cH) := hQ0.cell 1
  have q2 : w0.cell? ⟨w.heap.size, 2, none⟩ = some (.slice AA q.atoms.length cA) := hQ0.cell 2
  have HOF := Lib.hid (of_any q AH cH AA cA w0 hq hcap (hH.later hb0) (hA.later hb0))
  go_wp2_with fail
  refine HOF.out.mono ?_
  rintro e w1 ⟨V, v, E, h, code, rfl, hoE, hOf, hb1⟩
  obtain ⟨AE, cE, rfl, _, _, _, _⟩ := Rd.of_own hoE
  have hB1 := bthen hb0 hb1
  have hQ1 := hQ0.later hb1
  have hR1 := hR0.later hb1
  clear HOF q0 q1 q2 hb0 hQ0 hR0 hb1
  go_upto_region 2 with fail
  have hb2 := below_alloc w1 (.cells #[.int .i64 V, .slice AE E.length cE] 61)
  have hG2 : Row (w1.alloc (.cells #[.int .i64 V, .slice AE E.length cE] 61)) w1.heap.size 61 [.int .i64 V, .slice AE E.length cE] := Row.new _ _ _
  have hB2 := bthen hB1 hb2
  have hQ2 := hQ1.later hb2
  have hR2 := hR1.later hb2
  have hoE2 := own_below hoE hb2
  generalize w1.heap.size = gg at hG2 ⊢
  generalize w1.alloc _ = w2 at hb2 hG2 hB2 hQ2 hR2 hoE2 ⊢
  clear hb2 hB1 hQ1 hR1 hoE
  by_cases hs : shapeC q = 0
  case neg =>
    have e0 : (shapeC q != 0) = true := by simpa using hs
    obtain ⟨rfl, rfl, rfl, rfl⟩ : V = 0 ∧ E = [] ∧ h = 0#32 ∧ code = shapeC q := by
      rcases hOf.out with ⟨_, a, b, c, d⟩ | ⟨s1, _⟩
      · exact ⟨a, b, c, d⟩
      · exact absurd s1 hs
    have HX := Lib.hid (HIS.out noPlan (shapeC q) (.inl ⟨hs, rfl, rfl⟩))
    clear hOf hoE2 hG2 hH hA hQ2 hs
    generalize shapeC q = code at e0 HX ⊢
    have hF := ((((hR2.set_ 0 (.slice none 0 0)).set_ 1 (.slice none 0 0)).set_ 2 (.slice none 0 0)).set_ 3 (.int .i64 0)).set_ 4 (.slice none 0 0)
    have hBF : Below w.heap.size w (((((w2.setCell ⟨w.heap.size + 1, 0, none⟩ (.slice none 0 0)).setCell ⟨w.heap.size + 1, 1, none⟩ (.slice none 0 0)).setCell ⟨w.heap.size + 1, 2, none⟩ (.slice none 0 0)).setCell ⟨w.heap.size + 1, 3, none⟩ (.int .i64 0)).setCell ⟨w.heap.size + 1, 4, none⟩ (.slice none 0 0)) := ((((hB2.setCell (by simp) _).setCell (by simp) _).setCell (by simp) _).setCell (by simp) _).setCell (by simp) _
    have r0 : w2.cell? ⟨w.heap.size + 1, 0, none⟩ = some (.slice none 0 0) := hR2.cell 0
    have r1 : w2.cell? ⟨w.heap.size + 1, 1, none⟩ = some (.slice none 0 0) := hR2.cell 1
    have r2 : w2.cell? ⟨w.heap.size + 1, 2, none⟩ = some (.slice none 0 0) := hR2.cell 2
    have r3 : w2.cell? ⟨w.heap.size + 1, 3, none⟩ = some (.int .i64 0) := hR2.cell 3
    have r4 : w2.cell? ⟨w.heap.size + 1, 4, none⟩ = some (.slice none 0 0) := hR2.cell 4
    have f0 := hR2.frozen 0
    have f1 := hR2.frozen 1
    have f2 := hR2.frozen 2
    have f3 := hR2.frozen 3
    have f4 := hR2.frozen 4
    go_wp2_with fail
    generalize (((((w2.setCell _ _).setCell _ _).setCell _ _).setCell _ _).setCell _ _) = wf at hF hBF ⊢
    have z0 : wf.cell? ⟨w.heap.size + 1, 0, none⟩ = some (.slice none 0 0) := hF.cell 0
    have z1 : wf.cell? ⟨w.heap.size + 1, 1, none⟩ = some (.slice none 0 0) := hF.cell 1
    have z2 : wf.cell? ⟨w.heap.size + 1, 2, none⟩ = some (.slice none 0 0) := hF.cell 2
    have z3 : wf.cell? ⟨w.heap.size + 1, 3, none⟩ = some (.int .i64 0) := hF.cell 3
    have z4 : wf.cell? ⟨w.heap.size + 1, 4, none⟩ = some (.slice none 0 0) := hF.cell 4
    refine bodyPost_ret (v := .tuple #[.agg #[.slice none 0 0, .slice none 0 0, .slice none 0 0, .int .i64 0, .slice none 0 0], .int .i64 code]) (by simp [results, Tryd.results6, go_sem, z0, z1, z2, z3, z4]) rfl ?_
    exact ⟨noPlan, code, _, _, none, 0, _, [], rfl, HX, rfl, noPlanM _ _, hBF⟩
  case pos =>
    obtain ⟨rfl, hEq, hh, rfl⟩ : V = (qvars q.atoms).length ∧ E = ofE q ∧ h = headW q ∧ code = 0 := by
      rcases hOf.out with ⟨s1, _⟩ | ⟨_, a, b, c, d⟩
      · exact absurd hs s1
      · exact ⟨a, b, c, d⟩
    have HG := Lib.hid (shapeC_iff.1 hs)
    have HVA : Hid (validB (qvars q.atoms).length E = true) := Lib.hid (by rw [hEq]; exact ofE_valid HG.out)
    have hE6 : E.length ≤ 6 := by rw [hEq, ofE_length]; exact HG.out.few
    have hE1 : 1 ≤ E.length := by rw [hEq, ofE_length]; exact HG.out.some_
    have HEN : Hid (E ≠ []) := Lib.hid fun c => by rw [c] at hE1; simp at hE1
    have HCY : Hid (acyB (qvars q.atoms).length E = false → MakeIs q noPlan 161) := Lib.hid fun c => .inr (.inl ⟨hs, by rw [← hEq]; exact c, rfl, rfl⟩)
    have HCX : Hid (∀ n, acyB (qvars q.atoms).length E = true → FirstOk E h (runE E h).1 n false → MakeIs q noPlan 170) := Lib.hid fun n c d => .inr (.inr (.inl ⟨hs, by rw [← hEq]; exact c, ⟨n, by rw [← hEq, ← hh]; exact d⟩, rfl, rfl⟩))
    have HOK : Hid (∀ n, acyB (qvars q.atoms).length E = true → FirstOk E h (runE E h).1 n true → MakeIs q ⟨qvars q.atoms, q.head.map fun h => atI (qvars q.atoms) h, nodesE E h n, rootE E h n, topsE E h n⟩ 0) := Lib.hid fun n c d => .inr (.inr (.inr ⟨hs, by rw [← hEq]; exact c, n, by rw [← hEq, ← hh]; exact d, by rw [hEq, hh]; rfl, rfl⟩))
    have HQV := Lib.hid (fun (y : World) hy => qvars_any q.name AH q.head.length cH AA q.atoms cA y HG.out.few HG.out.narrow hy)
    have hvl := qvars_length HG.out.narrow HG.out.few
    have HSF := Lib.hid HG.out.safe
    clear hOf HIS hEq hh hs HG
    generalize qvars q.atoms = vars at HVA HCY HCX HOK HQV hvl HSF hG2 ⊢
    have d0 : w2.cell? ⟨gg, 0, none⟩ = some (.int .i64 (vars.length : Int)) := hG2.cell 0
    have d1 : w2.cell? ⟨gg, 1, none⟩ = some (.slice AE E.length cE) := hG2.cell 1
    have HAC := Lib.hid (acyclic_any vars.length AE E cE w2 (by omega) (Rd.of_own' hoE2))
    cases hac : acyB vars.length E
    · rw [hac] at HAC
      have HX := Lib.hid (HCY.out hac)
      clear hac HCY HCX HOK HQV HSF HVA HEN
      go_upto_region 4 with fail
      go_wp2_with fail
      refine HAC.out.mono ?_
      rintro e w3 ⟨rfl, hb3⟩
      have hR3 := hR2.later hb3
      have hB3 := bthen hB2 hb3
      clear HAC d0 d1 hR2 hB2 hb3 hG2 hQ2 hoE2
      have hF := ((((hR3.set_ 0 (.slice none 0 0)).set_ 1 (.slice none 0 0)).set_ 2 (.slice none 0 0)).set_ 3 (.int .i64 0)).set_ 4 (.slice none 0 0)
      have hBF : Below w.heap.size w (((((w3.setCell ⟨w.heap.size + 1, 0, none⟩ (.slice none 0 0)).setCell ⟨w.heap.size + 1, 1, none⟩ (.slice none 0 0)).setCell ⟨w.heap.size + 1, 2, none⟩ (.slice none 0 0)).setCell ⟨w.heap.size + 1, 3, none⟩ (.int .i64 0)).setCell ⟨w.heap.size + 1, 4, none⟩ (.slice none 0 0)) := ((((hB3.setCell (by simp) _).setCell (by simp) _).setCell (by simp) _).setCell (by simp) _).setCell (by simp) _
      have r0 : w3.cell? ⟨w.heap.size + 1, 0, none⟩ = some (.slice none 0 0) := hR3.cell 0
      have r1 : w3.cell? ⟨w.heap.size + 1, 1, none⟩ = some (.slice none 0 0) := hR3.cell 1
      have r2 : w3.cell? ⟨w.heap.size + 1, 2, none⟩ = some (.slice none 0 0) := hR3.cell 2
      have r3 : w3.cell? ⟨w.heap.size + 1, 3, none⟩ = some (.int .i64 0) := hR3.cell 3
      have r4 : w3.cell? ⟨w.heap.size + 1, 4, none⟩ = some (.slice none 0 0) := hR3.cell 4
      have f0 := hR3.frozen 0
      have f1 := hR3.frozen 1
      have f2 := hR3.frozen 2
      have f3 := hR3.frozen 3
      have f4 := hR3.frozen 4
      go_wp2_with fail
      generalize (((((w3.setCell _ _).setCell _ _).setCell _ _).setCell _ _).setCell _ _) = wf at hF hBF ⊢
      have z0 : wf.cell? ⟨w.heap.size + 1, 0, none⟩ = some (.slice none 0 0) := hF.cell 0
      have z1 : wf.cell? ⟨w.heap.size + 1, 1, none⟩ = some (.slice none 0 0) := hF.cell 1
      have z2 : wf.cell? ⟨w.heap.size + 1, 2, none⟩ = some (.slice none 0 0) := hF.cell 2
      have z3 : wf.cell? ⟨w.heap.size + 1, 3, none⟩ = some (.int .i64 0) := hF.cell 3
      have z4 : wf.cell? ⟨w.heap.size + 1, 4, none⟩ = some (.slice none 0 0) := hF.cell 4
      refine bodyPost_ret (v := .tuple #[.agg #[.slice none 0 0, .slice none 0 0, .slice none 0 0, .int .i64 0, .slice none 0 0], .int .i64 161]) (by simp [results, Tryd.results6, go_sem, z0, z1, z2, z3, z4]) rfl ?_
      exact ⟨noPlan, 161, _, _, none, 0, _, [], rfl, HX, rfl, noPlanM _ _, hBF⟩
    · rw [hac] at HAC
      have HCX2 : Hid (∀ n, FirstOk E h (runE E h).1 n false → MakeIs q noPlan 170) := Lib.hid fun n d => HCX.out n hac d
      have HOK2 : Hid (∀ n, FirstOk E h (runE E h).1 n true → MakeIs q ⟨vars, q.head.map fun h => atI vars h, nodesE E h n, rootE E h n, topsE E h n⟩ 0) := Lib.hid fun n d => HOK.out n hac d
      clear hac HCY HCX HOK
      go_upto_region 4 with fail
      go_wp2_with fail
      refine HAC.out.mono ?_
      rintro e w3 ⟨rfl, hb3⟩
      have hR3 := hR2.later hb3
      have hQ3 := hQ2.later hb3
      have hG3 := hG2.later hb3
      have hoE3 := own_below hoE2 hb3
      have hB3 := bthen hB2 hb3
      clear HAC d0 d1 hR2 hB2 hb3 hG2 hQ2 hoE2
      go_upto_region 8 with fail
      have hb4 := below_alloc w3 (.cells #[.slice none 0 0, .slice none 0 0, .slice none 0 0] 69)
      have hW4 : Row (w3.alloc (.cells #[.slice none 0 0, .slice none 0 0, .slice none 0 0] 69)) w3.heap.size 69 [.slice none 0 0, .slice none 0 0, .slice none 0 0] := Row.new _ _ _
      have hE4 := (Rd.of_own' hoE3).below hb4
      have hR4 := hR3.later hb4
      have hQ4 := hQ3.later hb4
      have hG4 := hG3.later hb4
      have hB4 := bthen hB3 hb4
      have hRg := hR3.lt
      have hGg := hG3.lt
      have hbs4 := hb4.size
      have hT4 := hT.later hB4
      generalize w3.heap.size = gb at hW4 hE4 hRg hGg hbs4 ⊢
      generalize w3.alloc _ = w4 at hW4 hE4 hR4 hQ4 hG4 hB4 hbs4 hT4 ⊢
      have htb4 : 0 < gb := by omega
      clear hb4 hR3 hQ3 hG3 hB3 hoE3
      have d1 : w4.cell? ⟨gg, 1, none⟩ = some (.slice AE E.length cE) := hG4.cell 1
      go_upto_block 0 with fail
      go_cut [10] (fun _ wx => BM gb gb (startPB E) wx ∧ Below gb w4 wx)
      case first =>
        have hB5 : BQ gb gb gb [] [] [] none 0 (.slice none 0 0) (.slice none 0 0) w4 := BQ.start hW4
        clear HCX2 HOK2 HQV HSF HVA hQ4 hR4 hG4 hW4 hB4 hH hA hT d1
        go_wp2_with fail
        go_loopw [10, 11, 51] (fun _ _ x wr => ∃ (k : Nat) (L : List Nd) (AN : Option Addr) (cN : Nat) (vS vP : Value), k ≤ E.length ∧ x = .int .i64 k ∧ Hid (LeafL E k L) ∧ BQ gb gb gb L (E.take k) ((List.range k).map Int.ofNat) AN cN vS vP wr ∧ Below gb w4 wr) (fun _ _ x _ => E.length - (intOf x).toNat)
        case atStart => exact ⟨0, [], none, 0, _, _, Nat.zero_le _, rfl, ⟨rfl, rfl⟩, hB5, Below.refl _ _⟩
        case round =>
          obtain ⟨k, L, AN, cN, vS, vP, hk, rfl, HL, hB, hb⟩ := hrel
          by_cases hlt : k < E.length
          · obtain ⟨ad, hAd, _, hc⟩ := (hE4.below hb).e_at hlt
            subst hAd
            have hbs : gb ≤ wr.heap.size := Nat.le_trans hbs4 hb.size
            have hTr : Tab wr := hT4.kept htb4 hb
            have a1 : (0 : Int) ≤ k := by omega
            have a2 : (k : Int) < E.length := by omega
            have hkl : L.length = k := HL.out.1
            have htk : (E.take k).length = k := by rw [List.length_take]; omega
            have hpk : ((List.range k).map Int.ofNat).length = k := by simp
            have HLN := Lib.hid (fun (A : Option Addr) (c : Nat) => leaf_next HL.out hlt A c)
            have HSN := Lib.hid (us_take_next E hlt)
            have HPN := Lib.hid (range_next k)
            clear HL
            generalize ed E k = s at hc HLN HSN
            generalize E.take k = S at hB htk HSN
            generalize (List.range k).map Int.ofNat = P at hB hpk HPN
            have c1 : wr.cell? ⟨gb, 1, none⟩ = some vS := hB.row.cell 1
            go_wp2_with (at_builtin; refine app_u32G rfl (.tmp 60) (.tmp 62) rfl gb vS S.length S s rfl rfl hB.sets (by omega) hbs ?_)
            intro vS' w5 ho5 hg5 hb5 _
            obtain ⟨AS', cS', rfl, -⟩ := Rd.of_own ho5
            have hr5 := Row.grown hB.row hg5 (own_row_ne hB.sets hB.row (by decide))
            have z1 : w5.cell? ⟨gb, 1, none⟩ = some vS := hr5.cell 1
            have z2 := hr5.frozen 1
            have hB6 := hB.appS hg5 (show w5.ownsRow gb 62 1 (.slice AS' (k + 1) cS') (S.length + 1) (us (S ++ [s])) by rw [htk]; exact ho5)
            have hb6 : Below gb w4 (w5.setCell ⟨gb, 1, none⟩ (.slice AS' (k + 1) cS')) := (hb.trans hb5).setCell (Nat.le_refl _) _
            go_upto_region 12 with fail
            clear hr5 z1 z2 hg5 ho5 hb5 hB hb c1 hTr hbs hc
            generalize w5.setCell _ _ = w6 at hB6 hb6 ⊢
            have hbs : gb ≤ w6.heap.size := Nat.le_trans hbs4 hb6.size
            have hB7 := hB6.drew
            have hT7 : Tab w6.drew := hT4.kept htb4 hb6.drew
            have HLI := Lib.hid (list_any s w6.drew hT7)
            have p2 : w6.drew.cell? ⟨gb, 2, none⟩ = some vP := hB7.row.cell 2
            go_region_law (first
              | (go_simp; go_at_call 20; refine HLI.out.mono ?_; rintro e w8 ⟨v, rfl, hov, hb8⟩; obtain ⟨AV, cV, rfl, -⟩ := Rd.of_own hov; have hB8 := hB7.later hb8; have p3 : w8.cell? ⟨gb, 2, none⟩ = some vP := hB8.row.cell 2; have hbs8 : gb ≤ w8.heap.size := Nat.le_trans hbs hb8.size)
              | (go_simp; go_at_call 19; refine (add_any gb gb _ _ _ L ⟨1, k, AV, cV, lst s, 0, 0, 0, false⟩ w8 hbs8 hB8.row hB8.nodes (by omega)).mono ?_; rintro e w9 ⟨rfl, AN', cN', hR9, hN9, ht9⟩; have p4 : w9.cell? ⟨gb, 2, none⟩ = some vP := hR9.cell 2; have q9 := hR9.lt; have hbs9 : gb ≤ w9.heap.size := Nat.le_trans hbs8 ht9.size; have hP9 := own_two hB8.pres ht9 (own_row_ne hB8.pres hB8.row (by decide)) (fun g hg => own_own_ne hB8.nodes hB8.pres (by decide) g hg))
              | (refine step_intG (wr := w9) rfl (.tmp 70) (.tmp 77) rfl gb vP P.length P _ (by first | rfl | go_simp) (by first | rfl | go_simp) hP9 (by omega) hbs9 ?_; intro vP' w10 ho10 hg10 hb10 hat10; obtain ⟨AP', cP', rfl, -⟩ := Rd.of_own ho10; have hr10 := Row.grown hR9 hg10 (own_row_ne hP9 hR9 (by decide)); have p5 := hr10.cell 2; have p6 := hr10.frozen 2; have p7 := hr10.lt))
            all_goals
              have hf : ∀ g, (vb ⟨1, k, AV, cV, lst s, 0, 0, -1, false⟩).ownBlock = some g → vP.ownBlock ≠ some g ∧ ∀ a ∈ L, (vb a).ownBlock ≠ some g := fun g hg => by
                have h1 : w6.heap.size ≤ g := (hov.lt g hg).1
                refine ⟨fun c => ?_, fun a ha c => ?_⟩
                · have h3 := (hB6.pres.lt g c).2; omega
                · have h3 := ((hB6.vars a ha).lt g c).2; omega
              have hB9 := hB8.add ⟨1, k, AV, cV, lst s, 0, 0, -1, false⟩ ht9 hR9 hN9 (own_less hov hbs) hf
              have hB10 := hB9.appP hg10 (by first | exact ho10 | (rw [hkl]; exact ho10)) hat10
              have hbz : Below w6.heap.size w6 w8 := ⟨hb8.os, hb8.tape, hb8.output, hb8.size, hb8.block⟩
              have hb9 : Below gb w4 w9 := (hb6.trans (hbz.mono hbs)).trans (ht9.below (Nat.le_refl _) (fun j hj => (hB8.nodes.lt j hj).1) hbs8)
              have hb11 : Below gb w4 (w10.setCell ⟨gb, 2, none⟩ (.slice AP' (P.length + 1) cP')) := (hb9.trans hb10).setCell (Nat.le_refl _) _
              have HL2 := Lib.hid (HLN.out AV cV)
              rw [← HSN.out] at hB10
              clear hB9 hb9 hbz hf hr10 p5 p6 p7 ho10 hg10 hb10 hat10 hP9 p4 q9 hbs9 hR9 hN9 ht9 hov hB8 p3 hbs8 hb8 HLI p2 hB7 hT7 hB6 hb6 HLN HSN
              go_wp2_with fail
              go_roundw
              case rel => exact ⟨k + 1, _, AN', cN', _, _, by omega, by go_num, HL2, by rw [HPN.out]; simpa [hkl, hpk] using hB10, by simpa [hpk] using hb11⟩
              case measure => simp [intOf]; omega
          · obtain rfl : k = E.length := by omega
            have hM : BM gb gb (startPB E) wr := by
              rw [List.take_length] at hB
              obtain ⟨gS, cS, gP, cP, rfl, rfl, hBS⟩ := hB.bs (Nat.le_refl _) (by omega) (by simp; omega)
              exact ⟨L, AN, cN, gS, cS, gP, cP, leaf_end HL.out, hBS⟩
            go_wp2_with fail
            go_meet
            exact ⟨hM, hb⟩
      case rest =>
        obtain ⟨hM5, hb5⟩ := hcut
        have hR5 := Row.below hR4 hb5 hRg
        have hQ5 := Row.below hQ4 hb5 (by omega)
        have hG5 := Row.below hG4 hb5 hGg
        have hE5 := hE4.below hb5
        have hB5 : Below w.heap.size w wc := hB4.trans (hb5.mono (by omega))
        have hbs5 : gb ≤ wc.heap.size := Nat.le_trans hbs4 hb5.size
        have hT5 := hT4.kept htb4 hb5
        have HFI := Lib.hid (first_any gb gb vars.length AE E cE h (startPB E) ⟨leafG E, id⟩ (runE E h).1 rfl wc hbs5 hT5 htb4 (Nat.le_refl _) HVA.out hE5 (fit_begin E) (by simp [startPB, leafG_length]; omega) hM5)
        have d0 : wc.cell? ⟨gg, 0, none⟩ = some (.int .i64 (vars.length : Int)) := hG5.cell 0
        have d1 : wc.cell? ⟨gg, 1, none⟩ = some (.slice AE E.length cE) := hG5.cell 1
        clear hM5 hB4 hT4 hbs4 hE4 hR4 hQ4 hG4 hW4 hb5
        go_wp2_with fail
        refine HFI.out.mono ?_
        rintro e w6 ⟨v, ok, n, rfl, hFO, hM6, hb6, hoL⟩
        have hR6 := Row.below hR5 hb6 hRg
        have hQ6 := Row.below hQ5 hb6 (by omega)
        have hG6 := Row.below hG5 hb6 hGg
        have hB6 : Below w.heap.size w w6 := hB5.trans (hb6.mono (by omega))
        have hbs6 : gb ≤ w6.heap.size := Nat.le_trans hbs5 hb6.size
        clear d0 d1 HFI hR5 hQ5 hG5 hB5 hE5 hT5
        cases ok
        · have HX := Lib.hid (HCX2.out n hFO.out)
          clear HCX2 HOK2 hFO hoL hM6 HQV HSF HVA hQ6 hG6 hH hA hT
          have hF := ((((hR6.set_ 0 (.slice none 0 0)).set_ 1 (.slice none 0 0)).set_ 2 (.slice none 0 0)).set_ 3 (.int .i64 0)).set_ 4 (.slice none 0 0)
          have hBF : Below w.heap.size w (((((w6.setCell ⟨w.heap.size + 1, 0, none⟩ (.slice none 0 0)).setCell ⟨w.heap.size + 1, 1, none⟩ (.slice none 0 0)).setCell ⟨w.heap.size + 1, 2, none⟩ (.slice none 0 0)).setCell ⟨w.heap.size + 1, 3, none⟩ (.int .i64 0)).setCell ⟨w.heap.size + 1, 4, none⟩ (.slice none 0 0)) := ((((hB6.setCell (by simp) _).setCell (by simp) _).setCell (by simp) _).setCell (by simp) _).setCell (by simp) _
          have r0 : w6.cell? ⟨w.heap.size + 1, 0, none⟩ = some (.slice none 0 0) := hR6.cell 0
          have r1 : w6.cell? ⟨w.heap.size + 1, 1, none⟩ = some (.slice none 0 0) := hR6.cell 1
          have r2 : w6.cell? ⟨w.heap.size + 1, 2, none⟩ = some (.slice none 0 0) := hR6.cell 2
          have r3 : w6.cell? ⟨w.heap.size + 1, 3, none⟩ = some (.int .i64 0) := hR6.cell 3
          have r4 : w6.cell? ⟨w.heap.size + 1, 4, none⟩ = some (.slice none 0 0) := hR6.cell 4
          have f0 := hR6.frozen 0
          have f1 := hR6.frozen 1
          have f2 := hR6.frozen 2
          have f3 := hR6.frozen 3
          have f4 := hR6.frozen 4
          go_wp2_with fail
          generalize (((((w6.setCell _ _).setCell _ _).setCell _ _).setCell _ _).setCell _ _) = wf at hF hBF ⊢
          have z0 : wf.cell? ⟨w.heap.size + 1, 0, none⟩ = some (.slice none 0 0) := hF.cell 0
          have z1 : wf.cell? ⟨w.heap.size + 1, 1, none⟩ = some (.slice none 0 0) := hF.cell 1
          have z2 : wf.cell? ⟨w.heap.size + 1, 2, none⟩ = some (.slice none 0 0) := hF.cell 2
          have z3 : wf.cell? ⟨w.heap.size + 1, 3, none⟩ = some (.int .i64 0) := hF.cell 3
          have z4 : wf.cell? ⟨w.heap.size + 1, 4, none⟩ = some (.slice none 0 0) := hF.cell 4
          refine bodyPost_ret (v := .tuple #[.agg #[.slice none 0 0, .slice none 0 0, .slice none 0 0, .int .i64 0, .slice none 0 0], .int .i64 170]) (by simp [results, Tryd.results6, go_sem, z0, z1, z2, z3, z4]) rfl ?_
          exact ⟨noPlan, 170, _, _, none, 0, _, [], rfl, HX, rfl, noPlanM _ _, hBF⟩
        · have HIS2 := Lib.hid (HOK2.out n hFO.out)
          have hn : n ≤ (runE E h).1.length := hFO.out.1
          have hoL1 := hoL rfl
          clear hoL
          have hL7 : (leftL E h n).length ≤ 7 := Nat.le_trans (mkTo_len _ _ _) (by rw [begin_len]; omega)
          have hM6 : BM gb gb (midPB E h n) w6 := hM6
          have hoLL : w6.ownsRow wc.heap.size 77 2 v (leftL E h n).length (lfs (leftL E h n)) := hoL1
          clear hoL1
          have HF1 := Lib.hid (fit1 (E := E) (head := h) hn)
          obtain ⟨AL, cL, rfl, _, _, _, _⟩ := Rd.of_ownS hoLL
          clear HCX2 HOK2 hFO
          go_upto_region 17 with fail
          obtain ⟨L, AN, cN, gS, cS, gP, cP, hZ, hBS⟩ := hM6
          obtain ⟨M, hMe⟩ : ∃ M, leftL E h n = M := ⟨_, rfl⟩
          rw [hMe] at hoLL hL7 HF1 ⊢
          obtain ⟨P, hPe⟩ : ∃ P, (midPB E h n).pres = P := ⟨_, rfl⟩
          rw [hPe] at hBS
          clear hb6
          have hbS := hBS.base_s
          have b0 : w6.cell? ⟨gb, 0, none⟩ = some (.slice AN L.length cN) := hBS.row.cell 0
          go_cut [14, 15] (fun x y wx => x = .int .i64 L.length ∧ y = .pointer (some ⟨w6.heap.size, 0, none⟩) ∧ wx = w6.drew.alloc (.cells #[.slice AN L.length cN, .slice none 0 0, .slice none 0 0] 69))
          case first =>
            have hgl := hBS.row.lt
            go_region_held3 (fun y : World => y.cell? ⟨gb, 0, none⟩ = some (.slice AN L.length cN)) (first | exact b0 | assumption | exact (hBS.row.drew.alloc _).cell 0) (first | (fail))
            all_goals
              go_wp2_with fail
              go_meet
              exact ⟨rfl, rfl, rfl⟩
          case rest =>
            obtain ⟨rfl, rfl, rfl⟩ := hcut
            have hmm := fun t w => run_makeMap (P := Tryd.prog) t w
            have hRB : Below w6.heap.size w6 ((w6.alloc (.cells #[.slice AN L.length cN, .slice none 0 0, .slice none 0 0] 69)).alloc (.map #[] 0)).drew := (((Below.refl w6.heap.size w6).alloc (Nat.le_refl _) _).alloc (by simp) _).drew
            have hW7 : Row ((w6.alloc (.cells #[.slice AN L.length cN, .slice none 0 0, .slice none 0 0] 69)).alloc (.map #[] 0)).drew w6.heap.size 69 [.slice AN L.length cN, .slice none 0 0, .slice none 0 0] := ((Row.new w6 _ _).alloc _).drew
            have hM7 : OwnsCnt ((w6.alloc (.cells #[.slice AN L.length cN, .slice none 0 0, .slice none 0 0] 69)).alloc (.map #[] 0)).drew (w6.heap.size + 1) 0 (fun _ => 0) := by
              have := (OwnsCnt.made (w6.alloc (.cells #[.slice AN L.length cN, .slice none 0 0, .slice none 0 0] 69))).drew
              rwa [show (w6.alloc (.cells #[.slice AN L.length cN, .slice none 0 0, .slice none 0 0] 69)).heap.size = w6.heap.size + 1 by simp] at this
            go_upto_block 2 with fail
            clear hmm
            obtain ⟨bs, hbse⟩ : ∃ bs, w6.heap.size = bs := ⟨_, rfl⟩
            have hQB := hB6.trans (hRB.mono (by rw [hbse]; have := hQ6.lt; omega))
            rw [hbse] at hRB hW7 hM7 hbS hbs6 ⊢
            have hgb : gb < bs := by have := hBS.row.lt; omega
            have hgP : gP < bs := by have := hBS.base_p.2; omega
            have hbs7 : bs ≤ ((w6.alloc (.cells #[.slice AN L.length cN, .slice none 0 0, .slice none 0 0] 69)).alloc (.map #[] 0)).drew.heap.size := by simp; omega
            generalize ((w6.alloc _).alloc _).drew = w7 at hRB hW7 hM7 hbs7 hQB ⊢
            go_cut [18] (fun _ wx => ∃ (vS vP : Value) (n' : Nat), n' ≤ 7 ∧ BQ gb bs bs L (setsL (M)) (pres2 (M) P) AN cN vS vP wx ∧ OwnsCnt wx (bs + 1) n' (fun y => (pres2 (M) P).count y) ∧ Below bs w6 wx)
            case first =>
              have hBQ7 : BQ gb bs bs L [] [] AN cN (.slice none 0 0) (.slice none 0 0) w7 := BS.second (hBS.later (by rw [hbse]; exact hRB)) hW7
              have cgb : w6.cell? ⟨gb, 2, none⟩ = some (.slice (some ⟨gP, 0, none⟩) P.length cP) := hBS.row.cell 2
              have hoL2 := (own_rd hoLL).1
              rw [hbse] at hoL2
              have HK : Hid (∀ x ∈ M, x.1 < P.length ∧ 0 ≤ pz P x.1 ∧ pz P x.1 ≤ 1000) := Lib.hid fun x hx => by
                have h1 := (ginv1 (E := E) (head := h) hn).pl x (by rw [hMe]; exact hx)
                have h2 := HF1.out.nodes
                have h3 := (plan_counts HEN.out hn).1
                have h4 := runE_len E h
                have h5 := congrArg List.length h2
                rw [List.length_map, h3] at h5
                rw [← hPe]
                refine ⟨(HF1.out.key x hx).2, ?_⟩
                rw [HF1.out.pres x hx]; omega
              have HPC := Lib.hid (fun e he => hBS.p_cell (e := e) he)
              clear HF1 HIS2 HQV HSF HVA hQ6 hR6 hG6 hB6 hBS hoLL hW7 hZ hH hA hT hn hQB hMe hPe
              go_wp2_with fail
              go_loopw [18, 106] (fun _ x wr => ∃ (k : Nat) (vS vP : Value), k ≤ M.length ∧ x = .int .i64 k ∧ BQ gb bs bs L (setsL (M.take k)) (pres2 (M.take k) P) AN cN vS vP wr ∧ OwnsCnt wr (bs + 1) k (fun y => (pres2 (M.take k) P).count y) ∧ Below bs w6 wr) (fun _ x _ => M.length - (intOf x).toNat)
              case atStart => exact ⟨0, _, _, Nat.zero_le _, rfl, hBQ7, by simpa [pres2] using hM7, hRB⟩
              case round =>
                obtain ⟨k, vS, vP, hk, rfl, hB, hM, hb⟩ := hrel
                by_cases hlt : k < M.length
                · obtain ⟨ad, hAd, _, hc0, hc1⟩ := (hoL2.below hb).lf_cells hlt
                  subst hAd
                  have hxm := lft_mem hlt
                  obtain ⟨hkey, hy0, hy1⟩ := HK.out _ hxm
                  have hpc := HPC.out _ hkey
                  have HSN := Lib.hid (sets_next hlt)
                  have HPN := Lib.hid (pres2_next P hlt)
                  have hsl : (setsL (M.take k)).length = k := by simp [setsL]; omega
                  have hpl : (pres2 (M.take k) P).length = k := by simp [pres2]; omega
                  clear hxm HK
                  generalize setsL (M.take k) = S2 at hB HSN hsl
                  generalize pres2 (M.take k) P = P2 at hB hM HPN hpl
                  generalize lft M k = x at hc0 hc1 hkey hpc HSN HPN hy0 hy1
                  generalize pz P x.1 = y at hpc HPN hy0 hy1
                  have b1 : (0 : Int) ≤ k := by omega
                  have b2 : (k : Int) < M.length := by omega
                  go_upto_region 22 with fail
                  have hba := below_alloc wr (.cells #[.int .i64 (x.1 : Nat), .int .u32 (uz x.2)] 77)
                  have hX9 : Row (wr.alloc (.cells #[.int .i64 (x.1 : Nat), .int .u32 (uz x.2)] 77)) wr.heap.size 77 [.int .i64 (x.1 : Nat), .int .u32 (uz x.2)] := Row.new _ _ _
                  have hB9 := (hB.later hba).drew
                  have hM9 := (hM.later hba).drew
                  have hbsr : bs ≤ wr.heap.size := Nat.le_trans (by rw [← hbse]; exact Nat.le_refl _) hb.size
                  have hb9 := (hb.trans (hba.mono hbsr)).drew
                  have hX9 := hX9.drew
                  generalize wr.heap.size = gl at hX9 ⊢
                  generalize wr.alloc _ = w9 at hX9 hB9 hM9 hb9 ⊢
                  have hbs9 : bs ≤ w9.drew.heap.size := Nat.le_trans (by rw [← hbse]; exact Nat.le_refl _) hb9.size
                  clear hba hB hM hb hc0 hc1
                  have s1 : w9.drew.cell? ⟨bs, 1, none⟩ = some vS := hB9.row.cell 1
                  have s2 : w9.drew.cell? ⟨gl, 1, none⟩ = some (.int .u32 (uz x.2)) := hX9.cell 1
                  refine wp_region_until 11 (fun wx : World => wx.cell? ⟨bs, 1, none⟩ = some vS ∧ wx.cell? ⟨gl, 1, none⟩ = some (.int .u32 (uz x.2))) (by kernel_rfl) ⟨s1, s2⟩ (fun hHeld => ?_)
                  refine uN 0 hHeld ?_
                  try simp only [Act.put, uA, u0, u1]
                  refine uN 1 hHeld ?_
                  try simp only [Act.put, uA, u0, u1]
                  refine uN 2 hHeld ?_
                  try simp only [Act.put, uA, u0, u1]
                  refine uN 3 hHeld ?_
                  try simp only [Act.put, uA, u0, u1]
                  refine uL 4 [4] hHeld ?_
                  try simp only [Act.put, uA, u0, u1]
                  refine uN 5 hHeld ?_
                  try simp only [Act.put, uA, u0, u1]
                  refine uL 6 [6] hHeld ?_
                  try simp only [Act.put, uA, u0, u1]
                  refine wpAnyU_one (i := 7) (by kernel_rfl) rfl (fun K hK => ?_)
                  go_simp
                  refine hK.out _ _ ⟨(hB9.row.alloc _).cell 1, (hX9.alloc _).cell 1⟩ (fun hNew => ?_)
                  clear hK K hHeld
                  have hHeld := hNew
                  clear hNew
                  try simp only [Act.put, uA, u0, u1]
                  refine wpAnyU_one (i := 8) (by kernel_rfl) rfl (fun K hK => ?_)
                  refine step_u32G (wr := w9.drew) rfl (.tmp 114) (.tmp 117) rfl bs vS S2.length S2 x.2 (by first | rfl | go_simp) (by first | rfl | go_simp) hB9.sets (by omega) hbs9 ?_
                  intro vS' w10 ho10 hg10 hb10 _
                  obtain ⟨AS', cS', rfl, -⟩ := Rd.of_own ho10
                  have hr10 := Row.grown hB9.row hg10 (own_row_ne hB9.sets hB9.row (by decide))
                  have hX10 := Row.grown hX9 hg10 (own_row_ne hB9.sets hX9 (by decide))
                  have z1 : w10.cell? ⟨bs, 1, none⟩ = some vS := hr10.cell 1
                  have z2 := hr10.frozen 1
                  refine hK.out _ _ ⟨hr10.cell 1, hX10.cell 1⟩ (fun hNew => ?_)
                  clear hK K hHeld
                  have hHeld := hNew
                  clear hNew
                  try simp only [Act.put, uA, u0, u1]
                  refine uN 9 hHeld ?_
                  try simp only [Act.put, uA, u0, u1]
                  refine uN 10 hHeld ?_
                  try simp only [Act.put, uA, u0, u1]
                  refine wpAnyU_last (i := 11) (by kernel_rfl) rfl (by kernel_rfl) (fun K hK => ?_)
                  go_simp
                  refine hK.out _ _ ?_
                  clear hK K hHeld
                  try simp only [Act.put]
                  refine wpAnyU_done (by kernel_rfl) ?_ _
                  have hB11 := hB9.appS hg10 ho10
                  have hne : gl ≠ bs := fun c => by
                    have h1 := hr10
                    rw [← c] at h1
                    unfold Row at h1 hX10
                    rw [h1] at hX10
                    injection hX10 with hX10
                    injection hX10 with _ ht _
                    exact absurd ht (by decide)
                  have hX11 := hX10.far (p := ⟨bs, 1, none⟩) hne (.slice AS' (S2.length + 1) cS')
                  have hM11 := (hM9.kept hg10 (own_not_map hM9 hB9.sets)).set_ (g := bs) (i := 1) (by omega) (.slice AS' (S2.length + 1) cS')
                  have hb11 : Below bs w6 (w10.setCell ⟨bs, 1, none⟩ (.slice AS' (S2.length + 1) cS')) := (hb9.trans hb10).setCell (Nat.le_refl _) _
                  clear hr10 hX10 z1 z2 hg10 ho10 hb10 hB9 hM9 hX9 hb9 hbs9 s1 s2
                  go_upto_region 23 with fail
                  rw [hsl] at hB11 hX11 hM11 hb11
                  generalize w10.setCell _ _ = w11 at hB11 hX11 hM11 hb11 ⊢
                  have hB12 := hB11.drew
                  have hX12 := hX11.drew
                  have hM12 := hM11.drew
                  have hb12 := hb11.drew
                  have hbs12 : bs ≤ w11.drew.heap.size := Nat.le_trans (by rw [← hbse]; exact Nat.le_refl _) hb12.size
                  have s1 : w11.drew.cell? ⟨bs, 2, none⟩ = some vP := hB12.row.cell 2
                  have s2 : w11.drew.cell? ⟨gb, 2, none⟩ = some (.slice (some ⟨gP, 0, none⟩) P.length cP) := (hb12.cell (p := ⟨gb, 2, none⟩) hgb).trans cgb
                  have s3 : w11.drew.cell? ⟨gl, 0, none⟩ = some (.int .i64 (x.1 : Nat)) := hX12.cell 0
                  have s4 : w11.drew.cell? ⟨gP, x.1, none⟩ = some (.int .i64 y) := (hb12.cell (p := ⟨gP, x.1, none⟩) hgP).trans hpc
                  have e1 : (0 : Int) ≤ (x.1 : Nat) := by omega
                  have e2 : ((x.1 : Nat) : Int) < P.length := by omega
                  clear hB11 hX11 hM11 hb11
                  refine wp_region_until 17 (fun wx : World => wx.cell? ⟨bs, 2, none⟩ = some vP ∧ wx.cell? ⟨gb, 2, none⟩ = some (.slice (some ⟨gP, 0, none⟩) P.length cP) ∧ wx.cell? ⟨gl, 0, none⟩ = some (.int .i64 (x.1 : Nat)) ∧ wx.cell? ⟨gP, x.1, none⟩ = some (.int .i64 y)) (by kernel_rfl) ⟨s1, s2, s3, s4⟩ (fun hHeld => ?_)
                  refine uN 0 hHeld ?_
                  try simp only [Act.put, uA, u0, u1]
                  refine uN 1 hHeld ?_
                  try simp only [Act.put, uA, u0, u1]
                  refine uN 2 hHeld ?_
                  try simp only [Act.put, uA, u0, u1]
                  refine uN 3 hHeld ?_
                  try simp only [Act.put, uA, u0, u1]
                  refine uL 4 [4] hHeld ?_
                  try simp only [Act.put, uA, u0, u1]
                  refine uN 5 hHeld ?_
                  try simp only [Act.put, uA, u0, u1]
                  refine uN 6 hHeld ?_
                  try simp only [Act.put, uA, u0, u1]
                  refine uN 7 hHeld ?_
                  try simp only [Act.put, uA, u0, u1]
                  refine uL 8 [8] hHeld ?_
                  try simp only [Act.put, uA, u0, u1]
                  refine uN 9 hHeld ?_
                  try simp only [Act.put, uA, u0, u1]
                  refine uL 10 [10] hHeld ?_
                  try simp only [Act.put, uA, u0, u1]
                  refine uN 11 hHeld ?_
                  try simp only [Act.put, uA, u0, u1]
                  refine uL 12 [12] hHeld ?_
                  try simp only [Act.put, uA, u0, u1]
                  refine wpAnyU_one (i := 13) (by kernel_rfl) rfl (fun K hK => ?_)
                  go_simp
                  refine hK.out _ _ ⟨(hB12.row.alloc _).cell 2, ((hb12.alloc hbs12 _).cell (p := ⟨gb, 2, none⟩) hgb).trans cgb, (hX12.alloc _).cell 0, ((hb12.alloc hbs12 _).cell (p := ⟨gP, x.1, none⟩) hgP).trans hpc⟩ (fun hNew => ?_)
                  clear hK K hHeld
                  have hHeld := hNew
                  clear hNew
                  try simp only [Act.put, uA, u0, u1]
                  refine wpAnyU_one (i := 14) (by kernel_rfl) rfl (fun K hK => ?_)
                  refine step_intG (wr := w11.drew) rfl (.tmp 125) (.tmp 134) rfl bs vP P2.length P2 y (by first | rfl | go_simp) (by first | rfl | go_simp) hB12.pres (by omega) hbs12 ?_
                  intro vP' w13 ho13 hg13 hb13 hat13
                  obtain ⟨AP', cP', rfl, -⟩ := Rd.of_own ho13
                  have hr13 := Row.grown hB12.row hg13 (own_row_ne hB12.pres hB12.row (by decide))
                  have hX13 := Row.grown hX12 hg13 (own_row_ne hB12.pres hX12 (by decide))
                  have z1 : w13.cell? ⟨bs, 2, none⟩ = some vP := hr13.cell 2
                  have z2 := hr13.frozen 2
                  refine hK.out _ _ ⟨hr13.cell 2, ((hb12.trans hb13).cell (p := ⟨gb, 2, none⟩) hgb).trans cgb, hX13.cell 0, ((hb12.trans hb13).cell (p := ⟨gP, x.1, none⟩) hgP).trans hpc⟩ (fun hNew => ?_)
                  clear hK K hHeld
                  have hHeld := hNew
                  clear hNew
                  try simp only [Act.put, uA, u0, u1]
                  refine uN 15 hHeld ?_
                  try simp only [Act.put, uA, u0, u1]
                  refine uN 16 hHeld ?_
                  try simp only [Act.put, uA, u0, u1]
                  refine wpAnyU_last (i := 17) (by kernel_rfl) rfl (by kernel_rfl) (fun K hK => ?_)
                  go_simp
                  refine hK.out _ _ ?_
                  clear hK K hHeld
                  try simp only [Act.put]
                  refine wpAnyU_done (by kernel_rfl) ?_ _
                  have hB14 := hB12.appP hg13 ho13 hat13
                  have hX14 := hX13.far (p := ⟨bs, 2, none⟩) hne (.slice AP' (P2.length + 1) cP')
                  have hM14 := (hM12.kept hg13 (own_not_map hM12 hB12.pres)).set_ (g := bs) (i := 2) (by omega) (.slice AP' (P2.length + 1) cP')
                  have hb14 : Below bs w6 (w13.setCell ⟨bs, 2, none⟩ (.slice AP' (P2.length + 1) cP')) := (hb12.trans hb13).setCell (Nat.le_refl _) _
                  clear hr13 hX13 z1 z2 hg13 ho13 hb13 hat13 hB12 hM12 hX12 hb12 hbs12 s1 s2 s3 s4
                  go_upto_region 24 with fail
                  rw [hpl] at hB14 hX14 hM14 hb14
                  generalize w13.setCell _ _ = w14 at hB14 hX14 hM14 hb14 ⊢
                  have hB15 := hB14.drew
                  have hb15 := hb14.drew
                  have hbs15 : bs ≤ w14.drew.heap.size := Nat.le_trans (by rw [← hbse]; exact Nat.le_refl _) hb15.size
                  have s2 : w14.drew.cell? ⟨gb, 2, none⟩ = some (.slice (some ⟨gP, 0, none⟩) P.length cP) := (hb15.cell (p := ⟨gb, 2, none⟩) hgb).trans cgb
                  have s3 : w14.drew.cell? ⟨gl, 0, none⟩ = some (.int .i64 (x.1 : Nat)) := hX14.drew.cell 0
                  have s4 : w14.drew.cell? ⟨gP, x.1, none⟩ = some (.int .i64 y) := (hb15.cell (p := ⟨gP, x.1, none⟩) hgP).trans hpc
                  have hyw : (Lit.int .i64 y).wf = true := WalkArith.wf_i64 (by omega)
                  have hcl : P2.count y ≤ 7 := Nat.le_trans List.count_le_length (by omega)
                  have hM15 := hM14.drew
                  have s5 := hM15.look y hyw
                  obtain ⟨wm, hu, hMu, hgu⟩ := hM15.put y hyw (by omega) (by omega)
                  have hwr : IntKind.i64.wrap (((P2.count y : Nat) : Int) + 1) = ((P2.count y : Nat) : Int) + 1 := IntWalk.i64_in _ (by omega)
                  clear hM14 hX14 hB14 hb14
                  refine wp_region_until 11 (fun wx : World => wx.cell? ⟨gb, 2, none⟩ = some (.slice (some ⟨gP, 0, none⟩) P.length cP) ∧ wx.cell? ⟨gl, 0, none⟩ = some (.int .i64 (x.1 : Nat)) ∧ wx.cell? ⟨gP, x.1, none⟩ = some (.int .i64 y) ∧ (Instr.lookup 75 (.map (some (bs + 1))) (.int .i64 y) false).run Tryd.prog wx = .ok (.int .i64 (P2.count y : Nat)) wx) (by kernel_rfl) ⟨s2, s3, s4, s5⟩ (fun hHeld => ?_)
                  refine uN 0 hHeld ?_
                  try simp only [Act.put, uA, u0, u1]
                  refine uN 1 hHeld ?_
                  try simp only [Act.put, uA, u0, u1]
                  refine uN 2 hHeld ?_
                  try simp only [Act.put, uA, u0, u1]
                  refine uN 3 hHeld ?_
                  try simp only [Act.put, uA, u0, u1]
                  refine uL 4 [4] hHeld ?_
                  try simp only [Act.put, uA, u0, u1]
                  refine uN 5 hHeld ?_
                  try simp only [Act.put, uA, u0, u1]
                  refine uL 6 [6] hHeld ?_
                  try simp only [Act.put, uA, u0, u1]
                  refine uN 7 hHeld ?_
                  try simp only [Act.put, uA, u0, u1]
                  refine uL 8 [8] hHeld ?_
                  try simp only [Act.put, uA, u0, u1]
                  refine uL 9 [9] hHeld ?_
                  try simp only [Act.put, uA, u0, u1]
                  refine uN 10 hHeld ?_
                  try simp only [Act.put, uA, u0, u1]
                  refine wpAnyU_last (i := 11) (by kernel_rfl) rfl (by kernel_rfl) (fun K hK => ?_)
                  go_simp
                  refine hK.out _ _ ?_
                  clear hK K hHeld
                  try simp only [Act.put]
                  refine wpAnyU_done (by kernel_rfl) ?_ _
                  have hnm : ∀ {b s m : Nat} {e : TypeId} {v : Value} {xs : List Value}, w14.drew.ownsRow b e s v m xs → wm.ownsRow b e s v m xs := fun ho => own_grown ho hgu fun g hg c => own_not_map hM15 ho (by injection hg with hg; rw [c, hg])
                  have hBm : BQ gb bs bs L (S2 ++ [x.2]) (P2 ++ [y]) AN cN (.slice AS' (k + 1) cS') (.slice AP' (k + 1) cP') wm := ⟨Row.grown hB15.row hgu (fun c => by injection c with c; exact (hM15.row_ne hB15.row) c), hnm hB15.nodes, hnm hB15.sets, hnm hB15.pres, fun n hn => hnm (hB15.vars n hn), hB15.apart, hB15.dist⟩
                  have hbm : Below bs w6 wm := hb15.grown hgu hbs15 fun j hj => by injection hj with hj; omega
                  have hcnt : (fun z => if z = y then P2.count y + 1 else P2.count z) = fun z => (P2 ++ [y]).count z := by funext z; rw [count_snoc]
                  rw [hcnt] at hMu
                  clear hB15 hb15 hbs15 s2 s3 s4 s5 hu hgu hM15 hnm hwr
                  go_wp2_with fail
                  go_roundw
                  case rel => exact ⟨k + 1, _, _, by omega, by go_num, by rw [HSN.out, HPN.out]; exact hBm, by rw [HPN.out]; exact hMu, hbm⟩
                  case measure => simp [intOf]; omega
                · obtain rfl : k = M.length := by omega
                  rw [List.take_length] at hB hM
                  go_wp2_with fail
                  go_meet
                  exact ⟨vS, vP, M.length, hL7, hB, hM, hb⟩
            case rest =>
              obtain ⟨vS, vP, n', hn7, hB8, hM8, hb8⟩ := hcut
              obtain ⟨w8, hw8⟩ : ∃ wo, wo = wc := ⟨_, rfl⟩
              subst hw8
              have hM0 : 0 < M.length := by
                have := left_ne (head := h) (n := n) HEN.out hn
                rw [hMe] at this
                cases M with
                | nil => exact absurd rfl this
                | cons a l => simp
              have hsl : (setsL M).length = M.length := by simp [setsL]
              have hpl : (pres2 M P).length = M.length := by simp [pres2]
              have hgbs : gb ≤ bs := Nat.le_of_lt hgb
              obtain ⟨gS2, cS2, gP2, cP2, rfl, rfl, hBS8⟩ := hB8.bs hgbs (by omega) (by omega)
              have hB8w : Below w.heap.size w w8 := hB6.trans (hb8.mono (by rw [← hbse]; have := hQ6.lt; omega))
              have hQ8 := Row.below hQ6 hb8 (by omega)
              have hR8 := Row.below hR6 hb8 (by omega)
              have hG8 := Row.below hG6 hb8 (by omega)
              have hbs8 : bs ≤ w8.heap.size := Nat.le_trans (by rw [← hbse]; exact Nat.le_refl _) hb8.size
              have HV2 : Hid (validB (vars.length : Int) (setsL M) = true) := Lib.hid (by rw [← hMe]; exact sets_valid HVA.out hn)
              obtain ⟨T1, hT1⟩ : ∃ T, (run2 E h n).1 = T := ⟨_, rfl⟩
              obtain ⟨T2, hT2⟩ : ∃ T, (run2 E h n).2 = T := ⟨_, rfl⟩
              have HS1 : Hid (T1 = (runE (setsL M) 0#32).1) := Lib.hid (by rw [← hT1]; unfold run2; rw [hMe])
              have HS2 : Hid (T2 = (runE (setsL M) 0#32).2) := Lib.hid (by rw [← hT2]; unfold run2; rw [hMe])
              have HT2n : Hid (T2 ≠ []) := Lib.hid (by rw [← hT2]; exact run2_ne HEN.out hn)
              have hT1l : T1.length ≤ 232 := by rw [HS1.out]; exact runE_len _ _
              have HEND : Hid (endPB E h n = T1.foldl stepPB ⟨L.map pl, setsL M, pres2 M P⟩) := Lib.hid (by rw [← hT1, ← hZ, ← hMe, ← hPe]; rfl)
              have HROOT : Hid (rootE E h n = pz (endPB E h n).pres (lft T2 0).1) := Lib.hid (by rw [← hT2]; rfl)
              have hs100 : (setsL M).length ≤ 7 := by omega
              have HSL := Lib.hid hsl
              have HPL := Lib.hid hpl
              have HKEY : Hid ((lft T2 0).1 < (endPB E h n).pres.length) := Lib.hid (by rw [← hT2]; exact ((fit3 hn).key _ (lft_zero_mem (run2_ne HEN.out hn))).2)
              clear hT1 hT2 hsl hpl
              clear hB8 hB6 hQ6 hR6 hG6 hBS hoLL hb8 hRB hW7 hM7 hQB hbS b0 HVA
              go_upto_region 26 with fail
              have HK : Hid (∀ y, Below w8.heap.size w8 y → y.cell? ⟨gg, 0, none⟩ = some (.int .i64 (vars.length : Int)) ∧ y.cell? ⟨bs, 1, none⟩ = some (.slice (some ⟨gS2, 0, none⟩) (setsL M).length cS2)) := Lib.hid fun y hy => ⟨(hG8.later hy).cell 0, (hBS8.later hy).row.cell 1⟩
              have C1 : Hid (∀ y, Below w8.heap.size w8 y → Calls Tryd.prog 23 #[.slice (some ⟨gS2, 0, none⟩) (setsL M).length cS2] y fun e w' => ∃ A c, e = .returned (.slice A (setsL M).length c) ∧ Rd w' w'.heap.size A (us (setsL M)) ∧ Below w8.heap.size w8 w') := Lib.hid fun y hy => by
                refine (clone_u32_any ⟨gS2, 0, none⟩ (setsL M) cS2 y (by omega) (Rd.of_own' (hBS8.later hy).sets)).mono ?_
                rintro e w' ⟨v, rfl, ho, hb⟩
                obtain ⟨A, c, rfl, _, _, hRd, _⟩ := Rd.of_own ho
                exact ⟨A, c, rfl, hRd, bthen hy hb⟩
              have C2 := Lib.hid (fun y A c hy hRd => run2_any (vars.length : Int) A (setsL M) c w8 y HS1.out HS2.out HV2.out (by omega) hy hRd)
              go_cut [19, 20, 21] (fun x y z wx => ∃ A1 c1 A2 c2, x = .slice A1 T1.length c1 ∧ y = .slice A2 T2.length c2 ∧ z = .int .i64 0 ∧ wx.ownsRow w8.heap.size 84 4 (.slice A1 T1.length c1) T1.length (sts T1) ∧ wx.ownsRow w8.heap.size 77 2 (.slice A2 T2.length c2) T2.length (lfs T2) ∧ Below w8.heap.size w8 wx)
              case first =>
                go_region_held3 (fun y : World => Below w8.heap.size w8 y ∧ y.cell? ⟨gg, 0, none⟩ = some (.int .i64 (vars.length : Int)) ∧ y.cell? ⟨bs, 1, none⟩ = some (.slice (some ⟨gS2, 0, none⟩) (setsL M).length cS2))
                  (first | exact ⟨by assumption, HK.out _ (by assumption)⟩ | exact ⟨(Below.refl _ _).drew, HK.out _ (Below.refl _ _).drew⟩)
                  (first
                    | (go_at_call 23; refine (C1.out _ (by first | assumption | exact (Below.refl _ _).drew)).mono ?_; rintro e w12 ⟨A0, c0, rfl, hR0, hb12⟩)
                    | (go_at_call 22; refine (C2.out _ A0 c0 (by first | assumption | exact (Below.refl _ _).drew) hR0).mono ?_; rintro e w13 ⟨A1, c1, A2, c2, rfl, ho1, ho2, hb13⟩))
                all_goals
                  go_wp2_with fail
                  go_meet
                  exact ⟨A1, c1, A2, c2, rfl, rfl, rfl, ho1, ho2, hb13⟩
              case rest =>
                obtain ⟨A1, c1, A2, c2, rfl, rfl, rfl, ho1, ho2, hb9⟩ := hcut
                obtain ⟨w9, hw9⟩ : ∃ wo, wo = wc := ⟨_, rfl⟩
                subst hw9
                have hM9 := hM8.later hb9
                have hQ9 := hQ8.later hb9
                have hR9 := hR8.later hb9
                have hB9w : Below w.heap.size w w9 := hB8w.trans (hb9.mono (by have := hB8w.size; exact this))
                have hbs9 : bs ≤ w9.heap.size := Nat.le_trans hbs8 hb9.size
                have hT9 := hT.later hB9w
                have HR := Lib.hid (show Rch 0#32 (beginE (setsL M)) T1 T2 by rw [HS1.out, HS2.out]; exact runE_rch _ _)
                have HF2 : Hid (∃ g2, Fit (beginE (setsL M)) ⟨L.map pl, setsL M, pres2 M P⟩ g2) := Lib.hid ⟨_, by rw [← hZ, ← hMe, ← hPe]; exact fit2 hn⟩
                have hLl : L.length ≤ 300 := by
                  have h3 := (plan_counts HEN.out hn).1
                  have h4 := runE_len E h
                  have h5 := congrArg List.length hZ
                  rw [List.length_map, h3] at h5; omega
                have hBM : BM gb bs ⟨L.map pl, setsL M, pres2 M P⟩ w9 := ⟨L, AN, cN, gS2, cS2, gP2, cP2, rfl, hBS8.later hb9⟩
                have hbl : (⟨L.map pl, setsL M, pres2 M P⟩ : PB).nodes.length ≤ 300 := by show (L.map pl).length ≤ 300; rw [List.length_map]; exact hLl
                generalize (⟨L.map pl, setsL M, pres2 M P⟩ : PB) = b at HEND HF2 hBM hbl
                clear hb9 hB8w hQ8 hR8 hM8 hBS8 hG8 HV2 HK C1 C2 HS1 HS2
                go_upto_block 4 with fail
                go_cut [23] (fun _ wx => BM gb bs (T1.foldl stepPB b) wx ∧ Below gb w9 wx ∧ KeptT w9 wx)
                case first =>
                  clear HIS2 HQV HSF hQ9 hR9 hB9w hM9 hH hA hT hn HEND HROOT hZ hMe hPe HF1
                  go_wp2_with fail
                  go_loopw [23, 165] (fun _ x wr => ∃ k : Nat, k ≤ T1.length ∧ x = .int .i64 k ∧ BM gb bs (afterPB b T1 k) wr ∧ Below gb w9 wr ∧ KeptT w9 wr) (fun _ x _ => T1.length - (intOf x).toNat)
                  case atStart => exact ⟨0, Nat.zero_le _, rfl, hBM, Below.refl _ _, KeptT.refl _⟩
                  case round =>
                    obtain ⟨k, hk, rfl, hB, hb, hkt⟩ := hrel
                    by_cases hlt : k < T1.length
                    · obtain ⟨ad, hAd, _, d0, d1', d2, d3⟩ := (own_rd (hkt.own ho1 far_step)).1.st_cells hlt
                      subst hAd
                      have b1 : (0 : Int) ≤ k := by omega
                      have b2 : (k : Int) < T1.length := by omega
                      have hbsr : bs ≤ wr.heap.size := Nat.le_trans hbs9 hb.size
                      have hba := below_alloc wr (.cells #[.int .i64 (stp T1 k).kind, .int .i64 (stp T1 k).edge, .int .i64 (stp T1 k).into, .int .u32 (uz (stp T1 k).cut)] 84)
                      have hX : Row (wr.alloc (.cells #[.int .i64 (stp T1 k).kind, .int .i64 (stp T1 k).edge, .int .i64 (stp T1 k).into, .int .u32 (uz (stp T1 k).cut)] 84)) wr.heap.size 84 [.int .i64 (stp T1 k).kind, .int .i64 (stp T1 k).edge, .int .i64 (stp T1 k).into, .int .u32 (uz (stp T1 k).cut)] := Row.new _ _ _
                      have hB1 := hB.later hba
                      have hb1 : Below gb w9 (wr.alloc (.cells #[.int .i64 (stp T1 k).kind, .int .i64 (stp T1 k).edge, .int .i64 (stp T1 k).into, .int .u32 (uz (stp T1 k).cut)] 84)) := hb.trans (hba.mono (by omega))
                      have hk1 := hkt.later hba
                      have hT1' : Tab (wr.alloc (.cells #[.int .i64 (stp T1 k).kind, .int .i64 (stp T1 k).edge, .int .i64 (stp T1 k).into, .int .u32 (uz (stp T1 k).cut)] 84)) := hT9.kept htb4 hb1
                      obtain ⟨g2, hF2⟩ := HF2.out
                      have HST := Lib.hid (step_any gb bs (afterPB b T1 k) (mkTo (beginE (setsL M)) T1 k) _ 0#32 (stp T1 k) _ (Nat.le_trans hgbs (Nat.le_trans hbs9 hb1.size)) hT1' htb4 hgbs (mkTo_srt (srt_begin _) T1 k) (HR.out.stp_at k hlt) (Fit.take HR.out (srt_begin _) hF2 hk) (by have := afterPB_len b T1 k; omega) hB1)
                      rw [← afterPB_next b hlt] at HST
                      clear hF2 hB hb hkt hba hT1'
                      generalize stp T1 k = s at d0 d1' d2 d3 HST hX hB1 hb1 hk1
                      go_upto_region 30 with fail
                      generalize wr.heap.size = gx at hX ⊢
                      generalize wr.alloc _ = w10 at hX HST hB1 hb1 hk1 ⊢
                      have x0 : w10.cell? ⟨gx, 0, none⟩ = some (.int .i64 s.kind) := hX.cell 0
                      have x1 : w10.cell? ⟨gx, 1, none⟩ = some (.int .i64 s.edge) := hX.cell 1
                      have x2 : w10.cell? ⟨gx, 2, none⟩ = some (.int .i64 s.into) := hX.cell 2
                      have x3 : w10.cell? ⟨gx, 3, none⟩ = some (.int .u32 (uz s.cut)) := hX.cell 3
                      go_wp2_with fail
                      refine HST.out.mono ?_
                      rintro e w11 ⟨rfl, hB2, hb2, hk2⟩
                      go_wp2_with fail
                      go_roundw
                      case rel => exact ⟨k + 1, by omega, by go_num, hB2, hb1.trans hb2, hk1.trans hk2⟩
                      case measure => simp [intOf]; omega
                    · obtain rfl : k = T1.length := by omega
                      have hB' : BM gb bs (T1.foldl stepPB b) wr := by
                        unfold afterPB at hB
                        rwa [List.take_length] at hB
                      go_wp2_with fail
                      go_meet
                      exact ⟨hB', hb, hkt⟩
                case rest =>
                  obtain ⟨hM10, hb10, hk10⟩ := hcut
                  rename_i hTail
                  obtain ⟨w10, hw10⟩ : ∃ wo, wo = wc := ⟨_, rfl⟩
                  subst hw10
                  rw [← HEND.out] at hM10
                  obtain ⟨L3, AN3, cN3, gS3, cS3, gP3, cP3, hZ3, hBS3⟩ := hM10
                  have hx0 := HKEY.out
                  have hT20 : 0 < T2.length := by
                    have := HT2n.out
                    cases T2 with
                    | nil => exact absurd rfl this
                    | cons a l => simp
                  obtain ⟨ad, hA2, had, hl0, _⟩ := (own_rd (hk10.own ho2 far_left)).1.lf_cells hT20
                  subst hA2
                  have hr0 := HROOT.out
                  obtain ⟨r, hr, hrl⟩ := root_lt (head := h) HEN.out hn
                  have hp0 := hBS3.p_cell hx0
                  rw [← hr0, hr] at hp0
                  have hL3l : L3.length = (endPB E h n).nodes.length := by rw [hZ3, List.length_map]
                  have hL3f : L3.length ≤ 28 := by have := nodes_few (head := h) HEN.out hn; omega
                  have hgbw : w.heap.size + 1 < gb := hRg
                  have hgbw10 : gb ≤ w10.heap.size := Nat.le_trans (by omega) hb10.size
                  have hB10w : Below w.heap.size w w10 := hB9w.trans (hb10.mono (by omega))
                  have hQ10 := Row.below hQ9 hb10 (by omega)
                  have hR10 := Row.below hR9 hb10 (by omega)
                  have hM10 := hM9.keptT hk10
                  have HRR : Hid (rootE E h n = r) := Lib.hid hr
                  have HZ3 := Lib.hid hZ3
                  have HNL : Hid (L3.length = (endPB E h n).nodes.length) := Lib.hid hL3l
                  have hrl3 : r < L3.length := by omega
                  have HFN := Lib.hid (forest_nodes (E := E) (head := h) hn)
                  have HFR := Lib.hid (forest_raw (E := E) (head := h) hn)
                  have HLOW : Hid (lowE E h n = L.length) := Lib.hid (by unfold lowE; rw [hZ, List.length_map])
                  have HSP : Hid ((secPB E h n).pres = pres2 M P) := Lib.hid (by rw [← hMe, ← hPe]; rfl)
                  have HPAR : Hid (∀ m ∈ L3, m.parent = -1) := Lib.hid fun m hm => by
                    have h1 : pl m ∈ (endPB E h n).nodes := by rw [hZ3]; exact List.mem_map_of_mem hm
                    rw [(fit3 (E := E) (head := h) hn).nodes] at h1
                    obtain ⟨g, _, hg⟩ := List.mem_map.1 h1
                    have h2 : (pl m).parent = -1 := by rw [← hg]; rfl
                    exact h2
                  generalize (lft T2 0).1 = x0 at hx0 hl0 hp0
                  clear hr hr0 HROOT HKEY HEND HT2n ho1 ho2 HR HF2 hBM hbl hM9 hQ9 hR9 hB9w hk10 hT9 hMe hPe hZ HF1 hZ3 hL3l HSL HPL
                  generalize (endPB E h n).pres = P3 at hx0 hp0 hBS3
                  generalize (endPB E h n).sets = S3 at hBS3
                  have hgbw11 : gb ≤ w10.heap.size := Nat.le_trans (by omega) hb10.size
                  refine hTail _ _ ?_
                  exact plan_tail q AH cH AA cA w hq hH hA E h n vars M P L.length gb bs n' r ad T2 c2 x0 L3 AN3 S3 P3 cN3 gS3 cS3 gP3 cP3 w10 HIS2 HQV hvl hRg hgbw11 hB10w hQ10 hR10 hM10 HRR HZ3 hrl3 hL3f HFN HFR HLOW HSP HPAR hx0 hl0 had hp0 hT20 hBS3 _ (by kernel_rfl)
end Go.Proofs.YtdemmjofggemhaaDoor
