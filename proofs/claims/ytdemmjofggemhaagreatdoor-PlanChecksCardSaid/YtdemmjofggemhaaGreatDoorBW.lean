/- Several texts in one: R18Tree R18Vars R18Tops. -/
import Derived.Test.YtdemmjofggemhaaGreatDoorBV
import Derived.Deep.CutBlock
import Derived.Deep.DeepCutAuto
/- osierref18.tree: property 4. -/
namespace Go.Proofs.YtdemmjofggemhaaGreatDoor
open Go.RowKit
theorem loc_next {N : List PNd} {rt : Int} {k : Nat} (h : ∀ i, i < k → LocOk N rt i) (hk : LocOk N rt k) : ∀ i, i < k + 1 → LocOk N rt i := fun i hi => by
 rcases Nat.lt_or_ge i k with d | d
 ·exact h i d
 ·obtain rfl : i = k := by omega
  exact hk
theorem up_next {N : List PNd} {i m : Nat} (h : ∀ j, j < m → (i : Int) ∈ chl (nd N j) → (nd N i).parent = j) (hm : (i : Int) ∈ chl (nd N m) → (nd N i).parent = m) : ∀ j, j < m + 1 → (i : Int) ∈ chl (nd N j) → (nd N i).parent = j := fun j hj => by
 rcases Nat.lt_or_ge j m with d | d
 ·exact h j d
 ·obtain rfl : j = m := by omega
  exact hm
set_option maxRecDepth 100000 in
set_option maxHeartbeats 8000000 in
theorem r18tree_any (AV AH AN AT : Option Addr) (nv cv nh ch cN nt ct : Nat) (N : List PNd) (r : Nat) (w : World) (hr : r < N.length) (hl : N.length ≤ 64) (HK : ∀ i, i < N.length → (nd N i).kind = 1 ∨ (nd N i).kind = 2 ∨ (nd N i).kind = 3) (kids : Kids N)
  (hN : NdR w w.heap.size AN N) :
  Calls Tryz.prog 43 #[.agg #[.slice AV nv cv, .slice AH nh ch, .slice AN N.length cN, .int .i64 r, .slice AT nt ct]] w fun e w' => ∃ b, e = .returned (.bool b) ∧ Hid (b = true ↔ TreeOk N r) ∧ Below w.heap.size w w' := by
 have HTL := Lib.hid (tree_loc kids hr)
 have HCA := Lib.hid (fun (j : Nat) (i : Int) (y : World) (hj : j < N.length) (hy : NdR y y.heap.size AN N) => r18child_any AV AH AN AT nv cv nh ch cN nt ct N r j i y hj hy)
 have HKD := Lib.hid HK
 have HKI := Lib.hid kids
 clear HK kids
 go_enter Tryz.func43, Tryz.ntmps43
 go_upto_region 1 with fail
 have hb0 := below_alloc w (.cells #[.slice AV nv cv, .slice AH nh ch, .slice AN N.length cN, .int .i64 r, .slice AT nt ct] 46)
 have hP0 : RRow (w.alloc (.cells #[.slice AV nv cv, .slice AH nh ch, .slice AN N.length cN, .int .i64 r, .slice AT nt ct] 46)) w.heap.size AV AH AN AT nv cv nh ch N.length cN nt ct r := Row.new w _ _
 have hN0 := hN.later hb0
 generalize w.alloc _ = w0 at hb0 hP0 hN0 ⊢
 obtain ⟨ad, hA, _⟩ := hN0.cells hr
 subst hA
 clear hN
 go_wp2_with fail
 go_loopw [3, 4, 5, 6] (fun x t j n wr => ∃ k : Nat, k ≤ N.length ∧ x = .int .i64 k ∧ Hid (∀ i, i < k → LocOk N r i) ∧ Below w0.heap.size w0 wr) (fun x _ _ _ _ => N.length - (intOf x).toNat)
 case atStart => exact ⟨0, Nat.zero_le _, rfl, Lib.hid (fun i hi => absurd hi (Nat.not_lt_zero _)), Below.refl _ _⟩
 case round =>
  obtain ⟨k, hk, rfl, HLO, hb⟩ := hrel
  have p2 : wr.cell? ⟨w.heap.size, 2, none⟩ = some (.slice (some ad) N.length cN) := Row.cell (Row.later hP0 hb) 2
  by_cases hlt : k < N.length
  ·have b1 : (0 : Int) ≤ k := by omega
   have b2 : (k : Int) < N.length := by omega
   obtain ⟨pI, hpI⟩ : ∃ p, (nd N k).parent = p := ⟨_, rfl⟩
   go_wp2_with fail
   go_loopw [4, 5, 6] (fun t j _ wi => ∃ m : Nat, m ≤ N.length ∧ t = .int .i64 (times N k m : Nat) ∧ j = .int .i64 m ∧ Hid (∀ j, j < m → (k : Int) ∈ chl (nd N j) → (nd N k).parent = j) ∧ Below w0.heap.size w0 wi) (fun _ j _ _ => N.length - (intOf j).toNat)
   case atStart => exact ⟨0, Nat.zero_le _, rfl, rfl, Lib.hid (fun i hi => absurd hi (Nat.not_lt_zero _)), hb⟩
   case round =>
    clear hb p2
    obtain ⟨m, hm, rfl, rfl, HU, hb⟩ := hrel
    have hPr := Row.later hP0 hb
    have hNr := hN0.later hb
    have p2 : wr.cell? ⟨w.heap.size, 2, none⟩ = some (.slice (some ad) N.length cN) := Row.cell hPr 2
    by_cases hlm : m < N.length
    ·obtain ⟨ad2, hA2, _, T, cT, _, c0, c1, c2, c3, c4, c5, c6⟩ := hNr.cells hlm
     injection hA2 with hA2
     subst hA2
     have m1 : (0 : Int) ≤ m := by omega
     have m2 : (m : Int) < N.length := by omega
     have HT := Lib.hid (times_succ N k m)
     obtain ⟨T', hT'⟩ : ∃ t, times N k (m + 1) = t := ⟨_, rfl⟩
     rw [hT'] at HT
     have htl := times_le N k m
     generalize times N (k : Int) m = t at HT htl ⊢
     have hkd := HKD.out m hlm
     have HC := Lib.hid (fun (y : World) hy => HCA.out m (k : Int) y hlm hy)
     have HUN : Hid ((k : Int) ∉ chl (nd N m) → ∀ j, j < m + 1 → (k : Int) ∈ chl (nd N j) → (nd N k).parent = j) := Lib.hid fun h => up_next HU.out fun c => absurd c h
     have HUY : Hid (pI = (m : Int) → ∀ j, j < m + 1 → (k : Int) ∈ chl (nd N j) → (nd N k).parent = j) := Lib.hid fun h => up_next HU.out fun _ => by rw [hpI, h]
     have HNO : Hid ((k : Int) ∈ chl (nd N m) → pI ≠ (m : Int) → ¬ TreeOk N r) := Lib.hid fun h c t => c (hpI ▸ t.par m hlm k h)
     have HCL : Hid (chl (nd N m) = if (nd N m).kind = 2 then [(nd N m).source] else if (nd N m).kind = 3 then [(nd N m).source, (nd N m).side] else []) := Lib.hid rfl
     clear HU HLO HTL
     generalize nd N m = x at c0 c1 c2 c3 c4 c5 c6 hkd HCL HT HC HUN HNO
     obtain ⟨K, at_, vs, sr, sd, pr, tp⟩ := x
     dsimp only at c0 c1 c2 c3 c4 c5 c6 hkd HCL
     go_upto_region 9 with fail
     have hb1 := below_alloc wr (.cells #[.int .i64 K, .int .i64 at_, .slice T vs.length cT, .int .i64 sr, .int .i64 sd, .int .i64 pr, .bool tp] 106)
     have hX1 : Row (wr.alloc (.cells #[.int .i64 K, .int .i64 at_, .slice T vs.length cT, .int .i64 sr, .int .i64 sd, .int .i64 pr, .bool tp] 106)) wr.heap.size 106 [.int .i64 K, .int .i64 at_, .slice T vs.length cT, .int .i64 sr, .int .i64 sd, .int .i64 pr, .bool tp] := Row.new _ _ _
     have hB1 := bthen hb hb1
     have hP1 := Row.later hPr hb1
     have hN1 := hNr.later hb1
     generalize wr.heap.size = g at hX1 ⊢
     generalize wr.alloc _ = w1 at hB1 hX1 hP1 hN1 ⊢
     have x0 : w1.cell? ⟨g, 0, none⟩ = some (.int .i64 K) := hX1.cell 0
     have x3 : w1.cell? ⟨g, 3, none⟩ = some (.int .i64 sr) := hX1.cell 3
     have x4 : w1.cell? ⟨g, 4, none⟩ = some (.int .i64 sd) := hX1.cell 4
     have p0 : w1.cell? ⟨w.heap.size, 0, none⟩ = some (.slice AV nv cv) := Row.cell hP1 0
     have p1 : w1.cell? ⟨w.heap.size, 1, none⟩ = some (.slice AH nh ch) := Row.cell hP1 1
     have p2' : w1.cell? ⟨w.heap.size, 2, none⟩ = some (.slice (some ad) N.length cN) := Row.cell hP1 2
     have p3 : w1.cell? ⟨w.heap.size, 3, none⟩ = some (.int .i64 r) := Row.cell hP1 3
     have p4 : w1.cell? ⟨w.heap.size, 4, none⟩ = some (.slice AT nt ct) := Row.cell hP1 4
     have HCH := Lib.hid (HC.out w1 hN1)
     have v1 : IntKind.i64.wrap ((t : Int) + 1) = ((t + 1 : Nat) : Int) := by rw [show (t : Int) + 1 = ((t + 1 : Nat) : Int) by omega]; exact IntWalk.i64_in _ (by omega)
     have v2 : IntKind.i64.wrap (((t + 1 : Nat) : Int) + 1) = ((t + 2 : Nat) : Int) := by rw [show ((t + 1 : Nat) : Int) + 1 = ((t + 2 : Nat) : Int) by omega]; exact IntWalk.i64_in _ (by omega)
     clear c0 c1 c2 c3 c4 c5 c6 hb hb1 hPr hNr hP1 hX1 hN1 HC p2
     generalize chl _ = C at HCL HUN HNO HT HCH
     rcases hkd with h | h | h
     ·subst h
      have hC : C = [] := HCL.out
      have hmem : (k : Int) ∉ C := by rw [hC]; simp
      have hTT : T' = t := by rw [HT.out, hC]; simp
      clear hC HT
      rw [decide_eq_false hmem] at HCH
      have HU2 := Lib.hid (HUN.out hmem)
      clear hmem HUN HUY HNO HCL
      go_wp2_with fail
      refine HCH.out.mono ?_
      rintro e2 w2 ⟨rfl, hb2⟩
      have hB2 := bthen hB1 hb2
      go_wp2_with fail
      go_roundw
      case rel => exact ⟨m + 1, by omega, by rw [hT', hTT] <;> first | rfl | go_num | simp, by go_num, HU2, hB2⟩
      case measure => simp [intOf]; omega
     ·subst h
      have hC : C = [sr] := HCL.out
      by_cases hs : sr = (k : Int)
      ·have hmem : (k : Int) ∈ C := by rw [hC, hs]; simp
       have hTT : T' = t + 1 := by rw [HT.out, hC, hs]; simp
       obtain ⟨s1, s2, s3⟩ := ceT hs
       clear hC HT hs
       rw [decide_eq_true hmem] at HCH
       have HX := Lib.hid (HNO.out hmem)
       clear hmem HUN HNO HCL
       go_wp2_with fail
       refine HCH.out.mono ?_
       rintro e2 w2 ⟨rfl, hb2⟩
       have hB2 := bthen hB1 hb2
       have r2 : w2.cell? ⟨w.heap.size, 2, none⟩ = some (.slice (some ad) N.length cN) := Row.cell (Row.later hP0 hB2) 2
       obtain ⟨ad2, hA2, _, T2, cT2, _, _, _, _, _, _, e5, _⟩ := (hN0.later hB2).cells hlt
       injection hA2 with hA2
       subst hA2
       rw [hpI] at e5
       by_cases hpm : pI = (m : Int)
       ·obtain ⟨f1, f2, f3⟩ := ceT hpm
        have HU2 := Lib.hid (HUY.out hpm)
        clear hpm HX HUY hpI
        go_wp2_with fail
        go_roundw
        case rel => exact ⟨m + 1, by omega, by rw [hT', hTT] <;> first | rfl | go_num | simp, by go_num, HU2, hB2⟩
        case measure => simp [intOf]; omega
       ·obtain ⟨f1, f2, f3⟩ := ceF hpm
        have HQ := Lib.hid (HX.out hpm)
        clear hpm HX HUY hpI
        go_wp2_with fail
        go_ret
        exact ⟨_, rfl, Lib.hid ⟨fun c => Bool.noConfusion c, fun c => absurd c HQ.out⟩, bthen hb0 hB2⟩
      ·have hmem : (k : Int) ∉ C := by rw [hC]; simp; omega
       have hTT : T' = t := by rw [HT.out, hC]; simp [hs]
       obtain ⟨s1, s2, s3⟩ := ceF hs
       clear hC HT hs
       rw [decide_eq_false hmem] at HCH
       have HU2 := Lib.hid (HUN.out hmem)
       clear hmem HUN HUY HNO HCL
       go_wp2_with fail
       refine HCH.out.mono ?_
       rintro e2 w2 ⟨rfl, hb2⟩
       have hB2 := bthen hB1 hb2
       go_wp2_with fail
       go_roundw
       case rel => exact ⟨m + 1, by omega, by rw [hT', hTT] <;> first | rfl | go_num | simp, by go_num, HU2, hB2⟩
       case measure => simp [intOf]; omega
     ·subst h
      have hC : C = [sr, sd] := HCL.out
      by_cases hs : sr = (k : Int)
      ·by_cases hd : sd = (k : Int)
       ·have hmem : (k : Int) ∈ C := by rw [hC, hs]; simp
        have hTT : T' = t + 2 := by rw [HT.out, hC, hs, hd]; simp
        obtain ⟨s1, s2, s3⟩ := ceT hs
        obtain ⟨d1, d2, d3⟩ := ceT hd
        clear hC HT hs hd
        rw [decide_eq_true hmem] at HCH
        have HX := Lib.hid (HNO.out hmem)
        clear hmem HUN HNO HCL
        go_wp2_with fail
        refine HCH.out.mono ?_
        rintro e2 w2 ⟨rfl, hb2⟩
        have hB2 := bthen hB1 hb2
        have r2 : w2.cell? ⟨w.heap.size, 2, none⟩ = some (.slice (some ad) N.length cN) := Row.cell (Row.later hP0 hB2) 2
        obtain ⟨ad2, hA2, _, T2, cT2, _, _, _, _, _, _, e5, _⟩ := (hN0.later hB2).cells hlt
        injection hA2 with hA2
        subst hA2
        rw [hpI] at e5
        by_cases hpm : pI = (m : Int)
        ·obtain ⟨f1, f2, f3⟩ := ceT hpm
         have HU2 := Lib.hid (HUY.out hpm)
         clear hpm HX HUY hpI
         go_wp2_with fail
         go_roundw
         case rel => exact ⟨m + 1, by omega, by rw [hT', hTT] <;> first | rfl | go_num | simp, by go_num, HU2, hB2⟩
         case measure => simp [intOf]; omega
        ·obtain ⟨f1, f2, f3⟩ := ceF hpm
         have HQ := Lib.hid (HX.out hpm)
         clear hpm HX HUY hpI
         go_wp2_with fail
         go_ret
         exact ⟨_, rfl, Lib.hid ⟨fun c => Bool.noConfusion c, fun c => absurd c HQ.out⟩, bthen hb0 hB2⟩
       ·have hmem : (k : Int) ∈ C := by rw [hC, hs]; simp
        have hTT : T' = t + 1 := by rw [HT.out, hC, hs]; simp [hd]
        obtain ⟨s1, s2, s3⟩ := ceT hs
        obtain ⟨d1, d2, d3⟩ := ceF hd
        clear hC HT hs hd
        rw [decide_eq_true hmem] at HCH
        have HX := Lib.hid (HNO.out hmem)
        clear hmem HUN HNO HCL
        go_wp2_with fail
        refine HCH.out.mono ?_
        rintro e2 w2 ⟨rfl, hb2⟩
        have hB2 := bthen hB1 hb2
        have r2 : w2.cell? ⟨w.heap.size, 2, none⟩ = some (.slice (some ad) N.length cN) := Row.cell (Row.later hP0 hB2) 2
        obtain ⟨ad2, hA2, _, T2, cT2, _, _, _, _, _, _, e5, _⟩ := (hN0.later hB2).cells hlt
        injection hA2 with hA2
        subst hA2
        rw [hpI] at e5
        by_cases hpm : pI = (m : Int)
        ·obtain ⟨f1, f2, f3⟩ := ceT hpm
         have HU2 := Lib.hid (HUY.out hpm)
         clear hpm HX HUY hpI
         go_wp2_with fail
         go_roundw
         case rel => exact ⟨m + 1, by omega, by rw [hT', hTT] <;> first | rfl | go_num | simp, by go_num, HU2, hB2⟩
         case measure => simp [intOf]; omega
        ·obtain ⟨f1, f2, f3⟩ := ceF hpm
         have HQ := Lib.hid (HX.out hpm)
         clear hpm HX HUY hpI
         go_wp2_with fail
         go_ret
         exact ⟨_, rfl, Lib.hid ⟨fun c => Bool.noConfusion c, fun c => absurd c HQ.out⟩, bthen hb0 hB2⟩
      ·by_cases hd : sd = (k : Int)
       ·have hmem : (k : Int) ∈ C := by rw [hC, hd]; simp
        have hTT : T' = t + 1 := by rw [HT.out, hC, hd]; simp [hs]
        obtain ⟨s1, s2, s3⟩ := ceF hs
        obtain ⟨d1, d2, d3⟩ := ceT hd
        clear hC HT hs hd
        rw [decide_eq_true hmem] at HCH
        have HX := Lib.hid (HNO.out hmem)
        clear hmem HUN HNO HCL
        go_wp2_with fail
        refine HCH.out.mono ?_
        rintro e2 w2 ⟨rfl, hb2⟩
        have hB2 := bthen hB1 hb2
        have r2 : w2.cell? ⟨w.heap.size, 2, none⟩ = some (.slice (some ad) N.length cN) := Row.cell (Row.later hP0 hB2) 2
        obtain ⟨ad2, hA2, _, T2, cT2, _, _, _, _, _, _, e5, _⟩ := (hN0.later hB2).cells hlt
        injection hA2 with hA2
        subst hA2
        rw [hpI] at e5
        by_cases hpm : pI = (m : Int)
        ·obtain ⟨f1, f2, f3⟩ := ceT hpm
         have HU2 := Lib.hid (HUY.out hpm)
         clear hpm HX HUY hpI
         go_wp2_with fail
         go_roundw
         case rel => exact ⟨m + 1, by omega, by rw [hT', hTT] <;> first | rfl | go_num | simp, by go_num, HU2, hB2⟩
         case measure => simp [intOf]; omega
        ·obtain ⟨f1, f2, f3⟩ := ceF hpm
         have HQ := Lib.hid (HX.out hpm)
         clear hpm HX HUY hpI
         go_wp2_with fail
         go_ret
         exact ⟨_, rfl, Lib.hid ⟨fun c => Bool.noConfusion c, fun c => absurd c HQ.out⟩, bthen hb0 hB2⟩
       ·have hmem : (k : Int) ∉ C := by rw [hC]; simp; omega
        have hTT : T' = t := by rw [HT.out, hC]; simp [hs, hd]
        obtain ⟨s1, s2, s3⟩ := ceF hs
        obtain ⟨d1, d2, d3⟩ := ceF hd
        clear hC HT hs hd
        rw [decide_eq_false hmem] at HCH
        have HU2 := Lib.hid (HUN.out hmem)
        clear hmem HUN HUY HNO HCL
        go_wp2_with fail
        refine HCH.out.mono ?_
        rintro e2 w2 ⟨rfl, hb2⟩
        have hB2 := bthen hB1 hb2
        go_wp2_with fail
        go_roundw
        case rel => exact ⟨m + 1, by omega, by rw [hT', hTT] <;> first | rfl | go_num | simp, by go_num, HU2, hB2⟩
        case measure => simp [intOf]; omega
    ·obtain rfl : m = N.length := by omega
     have p3 : wr.cell? ⟨w.heap.size, 3, none⟩ = some (.int .i64 r) := Row.cell hPr 3
     obtain ⟨ad2, hA2, _, T, cT, _, _, _, e2, _, _, e5, _⟩ := hNr.cells hlt
     injection hA2 with hA2
     subst hA2
     have HRT : Hid (TreeOk N r → k = r → times N k N.length = 0 ∧ pI = -1 ∧ (nd N k).vars = []) := Lib.hid fun t e => by
      have := t.rt
      rw [Int.toNat_natCast] at this
      rw [← hpI, e]; exact this
     have HON : Hid (TreeOk N r → k ≠ r → times N k N.length = 1) := Lib.hid fun t e => t.one k hlt (by omega)
     have HLK : Hid ((k = r → times N k N.length = 0 ∧ pI = -1 ∧ (nd N k).vars = []) → (k ≠ r → times N k N.length = 1) → ∀ i, i < k + 1 → LocOk N r i) := Lib.hid fun h1 h2 => loc_next HLO.out ⟨HU.out, fun e => by rw [hpI]; exact h1 (by omega), fun e => h2 (by omega)⟩
     rw [hpI] at e5
     generalize (nd N k).vars = vs at e2 HRT HLK
     generalize times N (k : Int) N.length = t at HRT HON HLK ⊢
     clear HTL HU HLO hpI
     by_cases hkr : k = r
     ·obtain ⟨f1, f2, f3⟩ := ceT (show (k : Int) = r by omega)
      have HRT2 := Lib.hid fun t => HRT.out t hkr
      have HLK2 := Lib.hid fun h1 => HLK.out (fun _ => h1) fun c => absurd hkr c
      clear HRT HON HLK hkr
      by_cases h0 : t = 0
      ·have g1 : ((t : Int) != 0) = false := by simp [h0]
       have g2 : (t != 0) = false := by simp [h0]
       have g3 : decide (t = 0) = true := by simp [h0]
       by_cases hp : pI = -1
       ·obtain ⟨i1, i2, i3⟩ := ceT hp
        by_cases hv : vs = []
        ·have j1 : ((vs.length : Int) != 0) = false := by simp [hv]
         have j2 : (vs.length != 0) = false := by simp [hv]
         have j3 : decide (vs.length = 0) = true := by simp [hv]
         have HL2 := Lib.hid (HLK2.out ⟨h0, hp, hv⟩)
         clear HRT2 HLK2 h0 hp hv
         go_wp2_with fail
         go_roundw
         case rel => exact ⟨k + 1, by omega, by go_num, HL2, hb⟩
         case measure => simp [intOf]; omega
        ·have j0 : 0 < vs.length := List.length_pos_iff.2 hv
         have j1 : ((vs.length : Int) != 0) = true := by simp [hv]
         have j2 : (vs.length != 0) = true := by simp [hv]
         have j3 : decide (vs.length = 0) = false := by simp [hv]
         have HX : Hid (¬ TreeOk N r) := Lib.hid fun t => hv (HRT2.out t).2.2
         clear HRT2 HLK2 h0 hp hv
         go_wp2_with fail
         go_ret
         exact ⟨_, rfl, Lib.hid ⟨fun c => Bool.noConfusion c, fun c => absurd c HX.out⟩, bthen hb0 hb⟩
       ·obtain ⟨i1, i2, i3⟩ := ceF hp
        have HX : Hid (¬ TreeOk N r) := Lib.hid fun t => hp (HRT2.out t).2.1
        clear HRT2 HLK2 h0 hp
        go_wp2_with fail
        go_ret
        exact ⟨_, rfl, Lib.hid ⟨fun c => Bool.noConfusion c, fun c => absurd c HX.out⟩, bthen hb0 hb⟩
      ·have g1 : ((t : Int) != 0) = true := by simp [h0]
       have g2 : (t != 0) = true := by simp [h0]
       have g3 : decide (t = 0) = false := by simp [h0]
       have HX : Hid (¬ TreeOk N r) := Lib.hid fun t => h0 (HRT2.out t).1
       clear HRT2 HLK2 h0
       go_wp2_with fail
       go_ret
       exact ⟨_, rfl, Lib.hid ⟨fun c => Bool.noConfusion c, fun c => absurd c HX.out⟩, bthen hb0 hb⟩
     ·obtain ⟨f1, f2, f3⟩ := ceF (show ¬ (k : Int) = r by omega)
      by_cases h1 : t = 1
      ·have g1 : ((t : Int) != 1) = false := by simp [h1]
       have g2 : (t != 1) = false := by simp [h1]
       have HL2 := Lib.hid (HLK.out (fun c => absurd c hkr) fun _ => h1)
       clear HRT HON HLK hkr h1
       go_wp2_with fail
       go_roundw
       case rel => exact ⟨k + 1, by omega, by go_num, HL2, hb⟩
       case measure => simp [intOf]; omega
      ·have g1 : ((t : Int) != 1) = true := by simp; omega
       have g2 : (t != 1) = true := by simp [h1]
       have HX : Hid (¬ TreeOk N r) := Lib.hid fun t => h1 (HON.out t hkr)
       clear HRT HON HLK hkr h1
       go_wp2_with fail
       go_ret
       exact ⟨_, rfl, Lib.hid ⟨fun c => Bool.noConfusion c, fun c => absurd c HX.out⟩, bthen hb0 hb⟩
  ·obtain rfl : k = N.length := by omega
   have HTR : Hid (TreeOk N r ↔ ∀ i, i < N.length → Dsc N r i) := Lib.hid ⟨fun t => (HTL.out.2 t).2, fun d => HTL.out.1 ⟨HLO.out, d⟩⟩
   have p3 : wr.cell? ⟨w.heap.size, 3, none⟩ = some (.int .i64 r) := Row.cell (Row.later hP0 hb) 3
   clear HTL HLO HKD
   go_upto_region 21 with fail
   have hb1 := below_alloc wr (.cells #[.int .i64 r] 3)
   have hB1 := bthen hb hb1
   have ho1 : (wr.alloc (.cells #[.int .i64 r] 3)).ownsRow w0.heap.size 3 1 (.slice (some ⟨wr.heap.size, 0, none⟩) 1 1) [(r : Int)].length (is [(r : Int)]) := Row.own (Row.new_ (xs := is [(r : Int)]) rfl) hb.size (by simp [maxLen])
   generalize wr.alloc _ = w1 at hB1 ho1 ⊢
   generalize (⟨wr.heap.size, 0, none⟩ : Addr) = A1 at ho1 ⊢
   have HG1 := Lib.hid (rchG_start hr)
   clear hb hb1 p2 p3
   go_wp2_with fail
   go_loopw [7, 8, 9] (fun v n _ wi => ∃ (R : List Int) (m : Nat), m ≤ R.length ∧ n = .int .i64 m ∧ wi.ownsRow w0.heap.size 3 1 v R.length (is R) ∧ Hid (RchG N r R m) ∧ Below w0.heap.size w0 wi) (fun _ n _ _ => N.length - (intOf n).toNat)
   case atStart => exact ⟨[(r : Int)], 0, Nat.zero_le _, rfl, ho1, HG1, hB1⟩
   case round =>
    clear ho1 hB1
    obtain ⟨R, m, hm, rfl, ho, HG, hb⟩ := hrel
    have hRl := HG.out.len
    obtain ⟨AR, cR, rfl, _, _, hRR, _⟩ := Rd.of_own ho
    by_cases hlm : m < R.length
    ·have m1 : decide ((m : Int) < R.length) = true := decide_eq_true (by omega)
     have m2 : decide (m < R.length) = true := decide_eq_true hlm
     have HGM := Lib.hid HG.out.mid
     clear HG hRR
     go_wp2_with fail
     go_loopw [7, 9] (fun v x wi => ∃ (R : List Int) (i : Nat), i ≤ N.length ∧ x = .int .i64 i ∧ m < R.length ∧ wi.ownsRow w0.heap.size 3 1 v R.length (is R) ∧ Hid (RchM N r R m i) ∧ Below w0.heap.size w0 wi) (fun _ x _ => N.length - (intOf x).toNat)
     case atStart => exact ⟨R, 0, Nat.zero_le _, rfl, hlm, ho, HGM, hb⟩
     case round =>
      clear ho hb m1 m2 hlm HGM hRl hm
      obtain ⟨R, i, hi, rfl, hlm, ho, HG, hb⟩ := hrel
      have hRl := HG.out.g.len
      obtain ⟨AR, cR, rfl, _, _, hRR, _⟩ := Rd.of_own ho
      have p2 : wr.cell? ⟨w.heap.size, 2, none⟩ = some (.slice (some ad) N.length cN) := Row.cell (Row.later hP0 hb) 2
      by_cases hli : i < N.length
      ·have i1 : decide ((i : Int) < N.length) = true := decide_eq_true (by omega)
       have i2 : decide (i < N.length) = true := decide_eq_true hli
       obtain ⟨k, hk, hkN, _⟩ := HG.out.g.at_ hlm
       obtain ⟨aR, hAR, haRl, hcR⟩ := hRR.p_at hlm
       subst hAR
       rw [hk] at hcR
       have HSK : Hid ((i : Int) ∉ chl (nd N k) ∨ (i : Int) ∈ R → RchM N r R m (i + 1)) := Lib.hid fun h => HG.out.skip (by rw [hk, Int.toNat_natCast]; exact h)
       have HCO : Hid ((i : Int) ∈ chl (nd N k) → (i : Int) ∉ R → RchM N r (R ++ [(i : Int)]) m (i + 1)) := Lib.hid fun h1 h2 => HG.out.come hlm hli (by rw [hk, Int.toNat_natCast]; exact h1) h2
       have HCH := Lib.hid (fun (y : World) (hy : Below wr.heap.size wr y) => HCA.out k (i : Int) y hkN (hN0.later (hb.trans (hy.mono hb.size))))
       have HIN := Lib.hid (fun (y : World) (hy : Below wr.heap.size wr y) => r18in_any (some aR) R cR (i : Int) y (by omega) (hRR.later hy))
       generalize chl (nd N k) = C at HSK HCO HCH
       have hPr := Row.later hP0 hb
       have HK : Hid (∀ y, Below wr.heap.size wr y → Below wr.heap.size wr y ∧ y.cell? ⟨w.heap.size, 0, none⟩ = some (.slice AV nv cv) ∧ y.cell? ⟨w.heap.size, 1, none⟩ = some (.slice AH nh ch) ∧ y.cell? ⟨w.heap.size, 2, none⟩ = some (.slice (some ad) N.length cN) ∧ y.cell? ⟨w.heap.size, 3, none⟩ = some (.int .i64 r) ∧ y.cell? ⟨w.heap.size, 4, none⟩ = some (.slice AT nt ct) ∧ y.cell? (aR.add m) = some (.int .i64 k)) := Lib.hid fun y hy => ⟨hy, Row.cell (Row.later hPr hy) 0, Row.cell (Row.later hPr hy) 1, Row.cell (Row.later hPr hy) 2, Row.cell (Row.later hPr hy) 3, Row.cell (Row.later hPr hy) 4, (hy.cell (by rw [block_add]; exact haRl)).trans hcR⟩
       have m1 : (0 : Int) ≤ m := by omega
       have m2 : (m : Int) < R.length := by omega
       clear HG hk hcR hRR hPr
       go_upto_region 27 with fail
       clear p2
       refine wp_region_held_drew (S := (fun y : World => Below wr.heap.size wr y ∧ y.cell? ⟨w.heap.size, 0, none⟩ = some (.slice AV nv cv) ∧ y.cell? ⟨w.heap.size, 1, none⟩ = some (.slice AH nh ch) ∧ y.cell? ⟨w.heap.size, 2, none⟩ = some (.slice (some ad) N.length cN) ∧ y.cell? ⟨w.heap.size, 3, none⟩ = some (.int .i64 r) ∧ y.cell? ⟨w.heap.size, 4, none⟩ = some (.slice AT nt ct) ∧ y.cell? (aR.add m) = some (.int .i64 k))) (by kernel_rfl) (HK.out _ (Below.refl _ _).drew) (fun hHeld => ?_)
       refine kY 0 hHeld ?_
       simp only [Act.put, k0, k1, k2]
       refine kY 1 hHeld ?_
       simp only [Act.put, k0, k1, k2]
       refine kY 2 hHeld ?_
       simp only [Act.put, k0, k1, k2]
       refine kY 3 hHeld ?_
       simp only [Act.put, k0, k1, k2]
       refine kY 4 hHeld ?_
       simp only [Act.put, k0, k1, k2]
       refine kY 5 hHeld ?_
       simp only [Act.put, k0, k1, k2]
       refine kC 6 rfl (by kernel_rfl) (fun K hK => ?_)
       go_simp
       go_at_call 76
       refine (HCH.out _ hHeld.1).mono ?_
       rintro e2 wq ⟨rfl, hbq⟩
       have hbq2 := bthen hHeld.1 hbq
       go_wp2_with fail
       refine hK.out _ _ (HK.out _ hbq2) (fun hNew => ?_)
       clear hK K hHeld; have hHeld := hNew; clear hNew
       try simp only [Act.put, k0, k1, k2]
       by_cases q114 : (i : Int) ∈ C
       ·have d114 := decide_eq_true q114
        have H114 := Lib.hid q114; clear q114; try simp only [d114]
        refine kY 7 hHeld ?_
        simp only [Act.put, k0, k1, k2]
        refine kY 8 hHeld ?_
        simp only [Act.put, k0, k1, k2]
        refine kY 9 hHeld ?_
        simp only [Act.put, k0, k1, k2]
        refine kC 10 rfl (by kernel_rfl) (fun K hK => ?_)
        go_simp
        go_at_call 77
        refine (HIN.out _ hHeld.1).mono ?_
        rintro e2 wq2 ⟨rfl, rfl⟩
        go_wp2_with fail
        refine hK.out _ _ hHeld (fun hNew => ?_)
        clear hK K hHeld; have hHeld := hNew; clear hNew
        try simp only [Act.put, k0, k1, k2]
        by_cases q118 : (i : Int) ∈ R
        ·have d118 := decide_eq_true q118
         have H118 := Lib.hid q118; clear q118; try simp only [d118]
         refine kY 11 hHeld ?_
         simp only [Act.put, k0, k1, k2]
         refine kY 12 hHeld ?_
         simp only [Act.put, k0, k1, k2]
         refine wpAnyH_done (by kernel_rfl) ?_ _
         have HS := Lib.hid (HSK.out (.inr H118.out))
         have hoq := own_below ho hHeld.1
         have hBq := bthen hb hHeld.1
         clear HK HSK HCO HCH HIN hHeld
         go_wp2_with fail
         go_roundw
         case rel => exact ⟨R, i + 1, by omega, by go_num, hlm, hoq, HS, hBq⟩
         case measure => simp [intOf]; omega
        ·have d118 := decide_eq_false q118
         have H118 := Lib.hid q118; clear q118; try simp only [d118]
         refine kY 11 hHeld ?_
         simp only [Act.put, k0, k1, k2]
         refine kY 12 hHeld ?_
         simp only [Act.put, k0, k1, k2]
         refine wpAnyH_done (by kernel_rfl) ?_ _
         have HS := Lib.hid (HCO.out H114.out H118.out)
         have hoq := own_below ho hHeld.1
         have hBq := bthen hb hHeld.1
         have hszq := hBq.size
         clear HK HSK HCO HCH HIN hHeld ho
         go_wp2_with (at_builtin; refine app_int rfl (.tmp 121) (.tmp 123) rfl w0.heap.size _ _ R (i : Int) rfl rfl hoq (by omega) hszq ?_)
         intro v5 w5 ho5 hb5
         go_wp2_with fail
         go_roundw
         case rel => exact ⟨R ++ [(i : Int)], i + 1, by omega, by go_num, by rw [List.length_append]; omega, by rw [List.length_append]; exact ho5, HS, hBq.trans hb5⟩
         case measure => simp [intOf]; omega
       ·have d114 := decide_eq_false q114
        have H114 := Lib.hid q114; clear q114; try simp only [d114]
        refine kY 7 hHeld ?_
        simp only [Act.put, k0, k1, k2]
        refine kN 1 [(8, 116), (9, 117), (10, 118), (11, 119)] rfl (by kernel_rfl) (fun _ _ _ _ h => h) hHeld ?_
        simp only [k3, k4, Act.put, k0, k1, k2]
        refine kY 12 hHeld ?_
        simp only [Act.put, k0, k1, k2]
        refine wpAnyH_done (by kernel_rfl) ?_ _
        have HS := Lib.hid (HSK.out (.inl H114.out))
        have hoq := own_below ho hHeld.1
        have hBq := bthen hb hHeld.1
        clear HK HSK HCO HCH HIN hHeld
        go_wp2_with fail
        go_roundw
        case rel => exact ⟨R, i + 1, by omega, by go_num, hlm, hoq, HS, hBq⟩
        case measure => simp [intOf]; omega
      ·obtain rfl : i = N.length := by omega
       have HGE := Lib.hid HG.out.end_
       have i1 : decide ((N.length : Int) < N.length) = false := decide_eq_false (by omega)
       clear HG hRR
       go_wp2_with fail
       go_roundw
       case rel => exact ⟨R, m + 1, by omega, by go_num, ho, HGE, hb⟩
       case measure => simp [intOf]; omega
    ·obtain rfl : m = R.length := by omega
     have HAL := Lib.hid (HG.out.all HKI.out)
     have p2 : wr.cell? ⟨w.heap.size, 2, none⟩ = some (.slice (some ad) N.length cN) := Row.cell (Row.later hP0 hb) 2
     have m1 : decide ((R.length : Int) < R.length) = false := decide_eq_false (by omega)
     clear HG hRR
     by_cases he : R.length = N.length
     ·have g1 : ((R.length : Int) == N.length) = true := by simp [he]
      have g2 : (R.length == N.length) = true := by simp [he]
      have g3 : decide (R.length = N.length) = true := by simp [he]
      have HX := Lib.hid (HTR.out.2 (HAL.out.1 he))
      clear HTR HAL he
      go_wp2_with fail
      go_ret
      exact ⟨_, rfl, Lib.hid ⟨fun _ => HX.out, fun _ => by first | rfl | simp [g2] | simp [g1]⟩, bthen hb0 hb⟩
     ·have g1 : ((R.length : Int) == N.length) = false := by simp; omega
      have g2 : (R.length == N.length) = false := by simp [he]
      have g3 : decide (R.length = N.length) = false := by simp [he]
      have HX : Hid (¬ TreeOk N r) := Lib.hid fun t => he (HAL.out.2 (HTR.out.1 t))
      clear HTR HAL he
      go_wp2_with fail
      go_ret
      exact ⟨_, rfl, Lib.hid ⟨fun c => by first | exact Bool.noConfusion c | (simp [g2] at c) | (simp [g1] at c), fun c => absurd c HX.out⟩, bthen hb0 hb⟩
end Go.Proofs.YtdemmjofggemhaaGreatDoor
/- osierref18.vars: property 5. -/
set_option linter.unusedSimpArgs false
namespace Go.Proofs.YtdemmjofggemhaaGreatDoor
open Go.RowKit
theorem cntB_yes {p : Nat → Bool} {n : Nat} (h : p n = true) : cntB p (n + 1) = cntB p n + 1 := by
 show _ + _ = _
 rw [if_pos h]
theorem cntB_no {p : Nat → Bool} {n : Nat} (h : p n = false) : cntB p (n + 1) = cntB p n := by
 show _ + _ = _
 rw [if_neg (by rw [h]; decide)]; rfl
def ParIn (N : List PNd) (r : Nat) : Prop := ∀ i, i < N.length → i ≠ r → ∃ j : Nat, (nd N i).parent = j ∧ j < N.length
theorem TreeOk.parIn {N : List PNd} {r : Nat} (t : TreeOk N r) : ParIn N r := fun i hi hne => by
 obtain ⟨j, hj, _, hp⟩ := only_par t.par t.one hi hne
 exact ⟨j, hp, hj⟩
theorem ent_root {N : List PNd} {r : Nat} {v : Int} : entB N r v r = decide (v ∈ (nd N r).vars) := by simp [entB]
theorem ent_node {N : List PNd} {r i j : Nat} {v : Int} (h : i ≠ r) (hp : (nd N i).parent = j) : entB N r v i = (decide (v ∈ (nd N i).vars) && !decide (v ∈ (nd N j).vars)) := by
 have : ¬ (i : Int) = r := by omega
 unfold entB vrs
 rw [hp, Int.toNat_natCast, decide_eq_false this, Bool.false_or]
theorem beside {N : List PNd} {r : Nat} (P : ParIn N r) (hr : r < N.length) (i : Nat) (hi : i < N.length) (v : Int) : ∃ j : Nat, j < N.length ∧ (i ≠ r → (nd N i).parent = j ∧ entB N r v i = (decide (v ∈ (nd N i).vars) && !decide (v ∈ (nd N j).vars))) := by
 by_cases e : i = r
 ·exact ⟨r, hr, fun c => absurd e c⟩
 ·obtain ⟨j, hp, hj⟩ := P i hi e
  exact ⟨j, hj, fun c => ⟨hp, ent_node c hp⟩⟩
set_option maxRecDepth 100000 in
set_option maxHeartbeats 8000000 in
theorem r18vars_any (AV AH AN AT : Option Addr) (nv cv nh ch cN nt ct : Nat) (N : List PNd) (r : Nat) (w : World) (hr : r < N.length) (hl : N.length ≤ 64) (hv : nv ≤ 35184372087808) (hz : ∀ m ∈ N, m.vars.length ≤ 35184372087808) (HPI : ParIn N r)
  (hN : NdR w w.heap.size AN N) :
  Calls Tryz.prog 44 #[.agg #[.slice AV nv cv, .slice AH nh ch, .slice AN N.length cN, .int .i64 r, .slice AT nt ct]] w fun e w' => ∃ b, e = .returned (.bool b) ∧ Hid (b = true ↔ VarsOk N r nv) ∧ Below w.heap.size w w' := by
 have HZ : Hid (∀ k, k < N.length → (nd N k).vars.length ≤ 35184372087808) := Lib.hid fun k hk => hz _ (by rw [← nd_eq N k hk]; exact List.getElem_mem _)
 have HBS := Lib.hid (beside HPI hr)
 clear hz HPI
 go_enter Tryz.func44, Tryz.ntmps44
 go_upto_region 1 with fail
 have hb0 := below_alloc w (.cells #[.slice AV nv cv, .slice AH nh ch, .slice AN N.length cN, .int .i64 r, .slice AT nt ct] 46)
 have hP0 : RRow (w.alloc (.cells #[.slice AV nv cv, .slice AH nh ch, .slice AN N.length cN, .int .i64 r, .slice AT nt ct] 46)) w.heap.size AV AH AN AT nv cv nh ch N.length cN nt ct r := Row.new w _ _
 have hN0 := hN.later hb0
 generalize w.alloc _ = w0 at hb0 hP0 hN0 ⊢
 obtain ⟨ad, hA, _⟩ := hN0.cells hr
 subst hA
 clear hN
 go_wp2_with fail
 go_loopw [3, 4, 5] (fun x t j wr => ∃ k : Nat, k ≤ nv ∧ x = .int .i64 k ∧ Hid (∀ v : Nat, v < k → cntB (entB N r v) N.length ≤ 1) ∧ Below w0.heap.size w0 wr) (fun x _ _ _ => nv - (intOf x).toNat)
 case atStart => exact ⟨0, Nat.zero_le _, rfl, Lib.hid (fun i hi => absurd hi (Nat.not_lt_zero _)), Below.refl _ _⟩
 case round =>
  obtain ⟨k, hk, rfl, HLO, hb⟩ := hrel
  have p0 : wr.cell? ⟨w.heap.size, 0, none⟩ = some (.slice AV nv cv) := Row.cell (Row.later hP0 hb) 0
  by_cases hlt : k < nv
  ·have b1 : decide ((k : Int) < nv) = true := decide_eq_true (by omega)
   have b2 : decide (k < nv) = true := decide_eq_true hlt
   go_wp2_with fail
   go_loopw [4, 5] (fun t j wi => ∃ m : Nat, m ≤ N.length ∧ t = .int .i64 (cntB (entB N r k) m : Nat) ∧ j = .int .i64 m ∧ Below w0.heap.size w0 wi) (fun _ j _ => N.length - (intOf j).toNat)
   case atStart => exact ⟨0, Nat.zero_le _, rfl, rfl, hb⟩
   case round =>
    clear hb p0
    obtain ⟨m, hm, rfl, rfl, hb⟩ := hrel
    have hPr := Row.later hP0 hb
    have hNr := hN0.later hb
    have p2 : wr.cell? ⟨w.heap.size, 2, none⟩ = some (.slice (some ad) N.length cN) := Row.cell hPr 2
    have hcl := cntB_le (entB N r k) m
    by_cases hlm : m < N.length
    ·obtain ⟨ad2, hA2, hal, T, cT, hvT, _, _, c2, _, _, c5, _⟩ := hNr.cells hlm
     injection hA2 with hA2
     subst hA2
     obtain ⟨j, hj, hjp⟩ := HBS.out m hlm k
     obtain ⟨ad3, hA3, _, T3, cT3, hv3, _, _, d2, _⟩ := hNr.cells hj
     injection hA3 with hA3
     subst hA3
     have m1 : (0 : Int) ≤ m := by omega
     have m2 : (m : Int) < N.length := by omega
     have j1 : (0 : Int) ≤ j := by omega
     have j2 : (j : Int) < N.length := by omega
     have HCY := Lib.hid (cntB_yes (p := entB N r k) (n := m))
     have HCN := Lib.hid (cntB_no (p := entB N r k) (n := m))
     have HE1 : Hid (m = r → entB N r k m = decide ((k : Int) ∈ (nd N m).vars)) := Lib.hid fun e => by subst e; exact ent_root
     have HE2 := Lib.hid hjp
     clear hjp
     have hz1 := HZ.out m hlm
     have hz2 := HZ.out j hj
     have HIV := Lib.hid (fun (y : World) (hy : Below wr.heap.size wr y) => r18in_any T (nd N m).vars cT k y hz1 (hvT.later hy))
     have HIU := Lib.hid (fun (y : World) (hy : Below wr.heap.size wr y) => r18in_any T3 (nd N j).vars cT3 k y hz2 (hv3.later hy))
     generalize entB N r k m = B at HCY HCN HE1 HE2
     generalize cntB (entB N r k) m = t at HCY HCN hcl ⊢
     generalize (nd N j).vars = us at d2 HE2 HIU hz2
     generalize (nd N m).vars = vs at c2 HE1 HE2 HIV hz1
     generalize (nd N m).parent = pI at c5 HE2
     have HK : Hid (∀ y, Below wr.heap.size wr y → Below wr.heap.size wr y ∧ y.cell? ⟨w.heap.size, 2, none⟩ = some (.slice (some ad) N.length cN) ∧ y.cell? ⟨w.heap.size, 3, none⟩ = some (.int .i64 r) ∧ y.cell? ⟨(ad.add (m * 7)).block, (ad.add (m * 7)).off + 2, none⟩ = some (.slice T vs.length cT) ∧ y.cell? ⟨(ad.add (m * 7)).block, (ad.add (m * 7)).off + 5, none⟩ = some (.int .i64 pI) ∧ y.cell? ⟨(ad.add (j * 7)).block, (ad.add (j * 7)).off + 2, none⟩ = some (.slice T3 us.length cT3)) := Lib.hid fun y hy => ⟨hy, Row.cell (Row.later hPr hy) 2, Row.cell (Row.later hPr hy) 3, (hy.cell (by rw [block_add]; exact hal)).trans c2, (hy.cell (by rw [block_add]; exact hal)).trans c5, (hy.cell (by rw [block_add]; exact hal)).trans d2⟩
     have v1 : IntKind.i64.wrap ((t : Int) + 1) = ((t + 1 : Nat) : Int) := by rw [show (t : Int) + 1 = ((t + 1 : Nat) : Int) by omega]; exact IntWalk.i64_in _ (by omega)
     clear c2 c5 d2 hvT hv3 hPr hNr HBS HLO
     go_upto_region 8 with fail
     clear p2
     refine wp_region_held_drew (S := (fun y : World => Below wr.heap.size wr y ∧ y.cell? ⟨w.heap.size, 2, none⟩ = some (.slice (some ad) N.length cN) ∧ y.cell? ⟨w.heap.size, 3, none⟩ = some (.int .i64 r) ∧ y.cell? ⟨(ad.add (m * 7)).block, (ad.add (m * 7)).off + 2, none⟩ = some (.slice T vs.length cT) ∧ y.cell? ⟨(ad.add (m * 7)).block, (ad.add (m * 7)).off + 5, none⟩ = some (.int .i64 pI) ∧ y.cell? ⟨(ad.add (j * 7)).block, (ad.add (j * 7)).off + 2, none⟩ = some (.slice T3 us.length cT3))) (by kernel_rfl) (HK.out _ (Below.refl _ _).drew) (fun hHeld => ?_)
     refine kY 0 hHeld ?_
     simp only [Act.put, k0, k1, k2]
     refine kY 1 hHeld ?_
     simp only [Act.put, k0, k1, k2]
     refine kY 2 hHeld ?_
     simp only [Act.put, k0, k1, k2]
     refine kY 3 hHeld ?_
     simp only [Act.put, k0, k1, k2]
     refine kY 4 hHeld ?_
     simp only [Act.put, k0, k1, k2]
     refine kY 5 hHeld ?_
     simp only [Act.put, k0, k1, k2]
     refine kY 6 hHeld ?_
     simp only [Act.put, k0, k1, k2]
     refine kC 7 rfl (by kernel_rfl) (fun K hK => ?_)
     go_simp
     go_at_call 77
     refine (HIV.out _ hHeld.1).mono ?_
     rintro e2 wq ⟨rfl, rfl⟩
     go_wp2_with fail
     refine hK.out _ _ hHeld (fun hNew => ?_)
     clear hK K hHeld; have hHeld := hNew; clear hNew
     try simp only [Act.put, k0, k1, k2]
     by_cases q27 : (k : Int) ∈ vs
     ·have d27 := decide_eq_true q27
      have H27 := Lib.hid q27; clear q27; try simp only [d27]
      refine kY 8 hHeld ?_
      simp only [Act.put, k0, k1, k2]
      refine kY 9 hHeld ?_
      simp only [Act.put, k0, k1, k2]
      refine kY 10 hHeld ?_
      simp only [Act.put, k0, k1, k2]
      refine kY 11 hHeld ?_
      simp only [Act.put, k0, k1, k2]
      refine kY 12 hHeld ?_
      simp only [Act.put, k0, k1, k2]
      by_cases q32 : (m : Int) = r
      ·obtain ⟨d32, e32, f32⟩ := ceT q32
       have H32 := Lib.hid q32; clear q32; try simp only [d32, e32, f32]
       refine kY 13 hHeld ?_
       simp only [Act.put, k0, k1, k2]
       refine kN 2 [(14, 34), (15, 35), (16, 36), (17, 37), (18, 38), (19, 39), (20, 40), (21, 41), (22, 42), (23, 43), (24, 44), (25, 45), (26, 46), (27, 47)] rfl (by kernel_rfl) (fun _ _ _ _ h => h) hHeld ?_
       simp only [k3, k4, Act.put, k0, k1, k2]
       refine kY 28 hHeld ?_
       simp only [Act.put, k0, k1, k2]
       refine kY 29 hHeld ?_
       simp only [Act.put, k0, k1, k2]
       refine wpAnyH_done (by kernel_rfl) ?_ _
       have HB : B = true := by rw [HE1.out (by have := H32.out; omega), decide_eq_true H27.out]
       have HS := Lib.hid (HCY.out HB)
       have hBq := bthen hb hHeld.1
       clear HB HK HCN HCY HE1 HE2 HIV HIU hHeld
       go_wp2_with fail
       go_roundw
       case rel => exact ⟨m + 1, by omega, by rw [HS.out] <;> first | rfl | go_num | simp, by go_num, hBq⟩
       case measure => simp [intOf]; omega
      ·obtain ⟨d32, e32, f32⟩ := ceF q32
       have H32 := Lib.hid q32; clear q32; try simp only [d32, e32, f32]
       obtain ⟨hpj, HE3⟩ := HE2.out (fun c => H32.out (by omega))
       subst hpj
       replace HE3 := Lib.hid HE3
       refine kY 13 hHeld ?_
       simp only [Act.put, k0, k1, k2]
       refine kY 14 hHeld ?_
       simp only [Act.put, k0, k1, k2]
       refine kY 15 hHeld ?_
       simp only [Act.put, k0, k1, k2]
       refine kY 16 hHeld ?_
       simp only [Act.put, k0, k1, k2]
       refine kY 17 hHeld ?_
       simp only [Act.put, k0, k1, k2]
       refine kY 18 hHeld ?_
       simp only [Act.put, k0, k1, k2]
       refine kY 19 hHeld ?_
       simp only [Act.put, k0, k1, k2]
       refine kY 20 hHeld ?_
       simp only [Act.put, k0, k1, k2]
       refine kY 21 hHeld ?_
       simp only [Act.put, k0, k1, k2]
       refine kY 22 hHeld ?_
       simp only [Act.put, k0, k1, k2]
       refine kY 23 hHeld ?_
       simp only [Act.put, k0, k1, k2]
       refine kY 24 hHeld ?_
       simp only [Act.put, k0, k1, k2]
       refine kY 25 hHeld ?_
       simp only [Act.put, k0, k1, k2]
       refine kC 26 rfl (by kernel_rfl) (fun K hK => ?_)
       go_simp
       go_at_call 77
       refine (HIU.out _ hHeld.1).mono ?_
       rintro e2 wq ⟨rfl, rfl⟩
       go_wp2_with fail
       refine hK.out _ _ hHeld (fun hNew => ?_)
       clear hK K hHeld; have hHeld := hNew; clear hNew
       try simp only [Act.put, k0, k1, k2]
       by_cases q46 : (k : Int) ∈ us
       ·have d46 := decide_eq_true q46
        have H46 := Lib.hid q46; clear q46; try simp only [d46]
        refine kY 27 hHeld ?_
        simp only [Act.put, k0, k1, k2]
        refine kY 28 hHeld ?_
        simp only [Act.put, k0, k1, k2]
        refine kY 29 hHeld ?_
        simp only [Act.put, k0, k1, k2]
        refine wpAnyH_done (by kernel_rfl) ?_ _
        have HB : B = false := by rw [HE3.out, decide_eq_true H46.out, Bool.not_true, Bool.and_false]
        clear HE3
        have HS := Lib.hid (HCN.out HB)
        have hBq := bthen hb hHeld.1
        clear HB HK HCN HCY HE1 HE2 HIV HIU hHeld
        go_wp2_with fail
        go_roundw
        case rel => exact ⟨m + 1, by omega, by rw [HS.out], by go_num, hBq⟩
        case measure => simp [intOf]; omega
       ·have d46 := decide_eq_false q46
        have H46 := Lib.hid q46; clear q46; try simp only [d46]
        refine kY 27 hHeld ?_
        simp only [Act.put, k0, k1, k2]
        refine kY 28 hHeld ?_
        simp only [Act.put, k0, k1, k2]
        refine kY 29 hHeld ?_
        simp only [Act.put, k0, k1, k2]
        refine wpAnyH_done (by kernel_rfl) ?_ _
        have HB : B = true := by rw [HE3.out, decide_eq_false H46.out, decide_eq_true H27.out]; rfl
        clear HE3
        have HS := Lib.hid (HCY.out HB)
        have hBq := bthen hb hHeld.1
        clear HB HK HCN HCY HE1 HE2 HIV HIU hHeld
        go_wp2_with fail
        go_roundw
        case rel => exact ⟨m + 1, by omega, by rw [HS.out] <;> first | rfl | go_num | simp, by go_num, hBq⟩
        case measure => simp [intOf]; omega
     ·have d27 := decide_eq_false q27
      have H27 := Lib.hid q27; clear q27; try simp only [d27]
      refine kY 8 hHeld ?_
      simp only [Act.put, k0, k1, k2]
      refine kN 1 [(9, 29), (10, 30), (11, 31), (12, 32), (13, 33), (14, 34), (15, 35), (16, 36), (17, 37), (18, 38), (19, 39), (20, 40), (21, 41), (22, 42), (23, 43), (24, 44), (25, 45), (26, 46), (27, 47), (28, 48)] rfl (by kernel_rfl) (fun _ _ _ _ h => h) hHeld ?_
      simp only [k3, k4, Act.put, k0, k1, k2]
      refine kY 29 hHeld ?_
      simp only [Act.put, k0, k1, k2]
      refine wpAnyH_done (by kernel_rfl) ?_ _
      have HB : B = false := by
       by_cases e : m = r
       ·rw [HE1.out e, decide_eq_false H27.out]
       ·rw [(HE2.out e).2, decide_eq_false H27.out, Bool.false_and]
      have HS := Lib.hid (HCN.out HB)
      have hBq := bthen hb hHeld.1
      clear HB HK HCN HCY HE1 HE2 HIV HIU hHeld
      go_wp2_with fail
      go_roundw
      case rel => exact ⟨m + 1, by omega, by rw [HS.out], by go_num, hBq⟩
      case measure => simp [intOf]; omega
    ·obtain rfl : m = N.length := by omega
     have HNX : Hid (cntB (entB N r k) N.length ≤ 1 → ∀ v : Nat, v < k + 1 → cntB (entB N r v) N.length ≤ 1) := Lib.hid fun h v hv => by
      rcases Nat.lt_or_ge v k with d | d
      ·exact HLO.out v d
      ·obtain rfl : v = k := by omega
       exact h
     have HNO : Hid (¬ cntB (entB N r k) N.length ≤ 1 → ¬ VarsOk N r nv) := Lib.hid fun h c => h (c k hlt)
     generalize cntB (entB N r k) N.length = t at HNX HNO hcl ⊢
     clear HLO HBS
     by_cases h1 : t ≤ 1
     ·have g1 : decide ((1 : Int) < t) = false := decide_eq_false (by omega)
      have g2 : decide (1 < t) = false := decide_eq_false (by omega)
      have HS := Lib.hid (HNX.out h1)
      clear HNX HNO h1
      go_wp2_with fail
      go_roundw
      case rel => exact ⟨k + 1, by omega, by go_num, HS, hb⟩
      case measure => simp [intOf]; omega
     ·have g1 : decide ((1 : Int) < t) = true := decide_eq_true (by omega)
      have g2 : decide (1 < t) = true := decide_eq_true (by omega)
      have HX := Lib.hid (HNO.out h1)
      clear HNX HNO h1
      go_wp2_with fail
      go_ret
      exact ⟨_, rfl, Lib.hid ⟨fun c => Bool.noConfusion c, fun c => absurd c HX.out⟩, bthen hb0 hb⟩
  ·obtain rfl : k = nv := by omega
   have b1 : decide ((k : Int) < k) = false := decide_eq_false (by omega)
   have HX : Hid (VarsOk N r k) := Lib.hid HLO.out
   clear HLO HBS
   go_wp2_with fail
   go_ret
   exact ⟨_, rfl, Lib.hid ⟨fun _ => HX.out, fun _ => rfl⟩, bthen hb0 hb⟩
end Go.Proofs.YtdemmjofggemhaaGreatDoor
/- osierref18.tops: properties 6 and 7. -/
set_option linter.unusedSimpArgs false
namespace Go.Proofs.YtdemmjofggemhaaGreatDoor
open Go.RowKit
def Says (P : Prop) (w : World) (e : Ending) (w' : World) : Prop := ∃ b, e = .returned (.bool b) ∧ Hid (b = true ↔ P) ∧ Below w.heap.size w w'
theorem says_no {P : Prop} {w w' : World} (h : ¬ P) (hb : Below w.heap.size w w') : Says P w (.returned (.bool false)) w' := ⟨false, rfl, Lib.hid ⟨fun c => Bool.noConfusion c, fun c => absurd c h⟩, hb⟩
theorem says_yes {P : Prop} {w w' : World} (h : P) (hb : Below w.heap.size w w') : Says P w (.returned (.bool true)) w' := ⟨true, rfl, Lib.hid ⟨fun _ => h, fun _ => rfl⟩, hb⟩
def TopN (N : List PNd) (H : List Int) (r i : Nat) : Prop := (nd N i).top = true → ((i ≠ r → (nd N (nd N i).parent.toNat).top = true) ∧ ∀ v ∈ (nd N i).vars, v ∈ H)
def HasTo (N : List PNd) (h : Int) (n : Nat) : Prop := ∃ i : Nat, i < n ∧ (nd N i).top = true ∧ h ∈ (nd N i).vars
theorem tops_iff {N : List PNd} {H T : List Int} {r : Nat} : TopsOk N H r T ↔ (nd N r).top = true ∧ (∀ i, i < N.length → TopN N H r i) ∧ (∀ k, k < H.length → HasTo N (pz H k) N.length) ∧ T = ordF N N.length r := by
 constructor
 ·intro t
  have h1 := t.rt
  rw [Int.toNat_natCast] at h1
  exact ⟨h1, fun i hi ht => ⟨fun hne => t.up i hi ht (by omega), t.sub i hi ht⟩, fun k hk => t.cov _ (by rw [← pz_eq H k hk]; exact List.getElem_mem _), t.ord⟩
 ·rintro ⟨h1, h2, h3, h4⟩
  refine ⟨by rw [Int.toNat_natCast]; exact h1, fun i hi ht hne => (h2 i hi ht).1 (by omega), fun i hi ht => (h2 i hi ht).2, fun h hh => ?_, h4⟩
  obtain ⟨k, hk, rfl⟩ := List.mem_iff_getElem.1 hh
  rw [pz_eq H k hk]
  exact h3 k hk
theorem has_next (N : List PNd) (h : Int) (n : Nat) : HasTo N h (n + 1) ↔ HasTo N h n ∨ ((nd N n).top = true ∧ h ∈ (nd N n).vars) := by
 constructor
 ·rintro ⟨i, hi, q⟩
  rcases Nat.lt_or_ge i n with d | d
  ·exact .inl ⟨i, d, q⟩
  ·obtain rfl : i = n := by omega
   exact .inr q
 ·rintro (⟨i, hi, q⟩ | q)
  ·exact ⟨i, by omega, q⟩
  ·exact ⟨n, by omega, q⟩
theorem all_pz {vs H : List Int} : (∀ v ∈ vs, v ∈ H) ↔ ∀ c, c < vs.length → pz vs c ∈ H := by
 constructor
 ·exact fun h c hc => h _ (by rw [← pz_eq vs c hc]; exact List.getElem_mem _)
 ·intro h v hv
  obtain ⟨c, hc, rfl⟩ := List.mem_iff_getElem.1 hv
  rw [pz_eq vs c hc]; exact h c hc
theorem lt_next {P : Nat → Prop} {k : Nat} (h : ∀ i, i < k → P i) (hk : P k) : ∀ i, i < k + 1 → P i := fun i hi => by
 rcases Nat.lt_or_ge i k with d | d
 ·exact h i d
 ·obtain rfl : i = k := by omega
  exact hk
set_option maxRecDepth 100000 in
set_option maxHeartbeats 8000000 in
theorem r18tops_any (AV AH AN AT : Option Addr) (nv cv ch cN ct : Nat) (H TP : List Int) (N : List PNd) (r : Nat) (w : World) (hr : r < N.length) (hl : N.length ≤ 64) (hhl : H.length ≤ 35184372087808) (htl : TP.length ≤ 35184372087808) (hz : ∀ m ∈ N, m.vars.length ≤ 35184372087808)
  (HK : ∀ i, i < N.length → (nd N i).kind = 1 ∨ (nd N i).kind = 2 ∨ (nd N i).kind = 3) (kids : Kids N) (T : TreeOk N r) (hH : Rd w w.heap.size AH (is H)) (hT : Rd w w.heap.size AT (is TP)) (hN : NdR w w.heap.size AN N) :
  Calls Tryz.prog 45 #[.agg #[.slice AV nv cv, .slice AH H.length ch, .slice AN N.length cN, .int .i64 r, .slice AT TP.length ct]] w (Says (TopsOk N H r TP) w) := by
 have HZ : Hid (∀ k, k < N.length → (nd N k).vars.length ≤ 35184372087808) := Lib.hid fun k hk => hz _ (by rw [← nd_eq N k hk]; exact List.getElem_mem _)
 have HTI := Lib.hid (tops_iff (N := N) (H := H) (T := TP) (r := r))
 have HPI := Lib.hid T.parIn
 obtain ⟨rk, F, hrk⟩ := T.forR kids hr
 have hol := ordF_rlen F N.length r hr
 have HOR := Lib.hid (fun (y : World) (hy : NdR y y.heap.size AN N) => r18order_any AV AH AN AT nv cv H.length ch cN TP.length ct N r rk HK (fun i hi _ x hx => F.below i hi x hx) (fun f i => Nat.le_trans (ordF_rany F f i) (by omega)) N.length r y hr hrk hy)
 clear hz HK kids T F hrk
 generalize TopsOk N H r TP = PP at HTI ⊢
 go_enter Tryz.func45, Tryz.ntmps45
 go_upto_region 1 with fail
 have hb0 := below_alloc w (.cells #[.slice AV nv cv, .slice AH H.length ch, .slice AN N.length cN, .int .i64 r, .slice AT TP.length ct] 46)
 have hP0 : RRow (w.alloc (.cells #[.slice AV nv cv, .slice AH H.length ch, .slice AN N.length cN, .int .i64 r, .slice AT TP.length ct] 46)) w.heap.size AV AH AN AT nv cv H.length ch N.length cN TP.length ct r := Row.new w _ _
 have hN0 := hN.later hb0
 have hH0 := hH.later hb0
 have hT0 := hT.later hb0
 generalize w.alloc _ = w0 at hb0 hP0 hN0 hH0 hT0 ⊢
 obtain ⟨ad, hA, _, _, _, _, _, _, _, _, _, _, c6⟩ := hN0.cells hr
 subst hA
 clear hN hH hT
 have p2 : w0.cell? ⟨w.heap.size, 2, none⟩ = some (.slice (some ad) N.length cN) := Row.cell hP0 2
 have p3 : w0.cell? ⟨w.heap.size, 3, none⟩ = some (.int .i64 r) := Row.cell hP0 3
 have r1 : (0 : Int) ≤ r := by omega
 have r2 : (r : Int) < N.length := by omega
 obtain ⟨tr, htr⟩ : ∃ t, (nd N r).top = t := ⟨_, rfl⟩
 rw [htr] at c6 HTI
 cases tr
 ·have HX : Hid (¬ PP) := Lib.hid fun c => Bool.noConfusion (HTI.out.1 c).1
  clear HTI
  go_wp2_with fail
  go_ret
  exact says_no HX.out hb0
 ·have HT2 : Hid (PP ↔ (∀ i, i < N.length → TopN N H r i) ∧ (∀ k, k < H.length → HasTo N (pz H k) N.length) ∧ TP = ordF N N.length r) := Lib.hid (by rw [HTI.out]; simp)
  clear HTI htr
  go_wp2_with fail
  clear p2 p3 c6
  go_loopw [3, 4] (fun x _ wr => ∃ k : Nat, k ≤ N.length ∧ x = .int .i64 k ∧ Hid (∀ i, i < k → TopN N H r i) ∧ Below w0.heap.size w0 wr) (fun x _ _ => N.length - (intOf x).toNat)
  case atStart => exact ⟨0, Nat.zero_le _, rfl, Lib.hid (fun i hi => absurd hi (Nat.not_lt_zero _)), Below.refl _ _⟩
  case round =>
   obtain ⟨k, hk, rfl, HLO, hb⟩ := hrel
   have p2 : wr.cell? ⟨w.heap.size, 2, none⟩ = some (.slice (some ad) N.length cN) := Row.cell (Row.later hP0 hb) 2
   by_cases hlt : k < N.length
   ·have b1 : (0 : Int) ≤ k := by omega
    have b2 : (k : Int) < N.length := by omega
    obtain ⟨ad2, hA2, hal, T, cT, hvT, _, _, c2, _, _, c5, c6⟩ := hN0.cells hlt
    injection hA2 with hA2
    subst hA2
    obtain ⟨j, hj, hjp⟩ : ∃ j : Nat, j < N.length ∧ (k ≠ r → (nd N k).parent = j) := by
     by_cases e : k = r
     ·exact ⟨r, hr, fun c => absurd e c⟩
     ·obtain ⟨j, hp, hj⟩ := HPI.out k hlt e
      exact ⟨j, hj, fun _ => hp⟩
    obtain ⟨ad3, hA3, _, _, _, _, _, _, _, _, _, _, d6⟩ := hN0.cells hj
    injection hA3 with hA3
    subst hA3
    have j1 : (0 : Int) ≤ j := by omega
    have j2 : (j : Int) < N.length := by omega
    have HTN : Hid (TopN N H r k ↔ ((nd N k).top = true → ((k ≠ r → (nd N j).top = true) ∧ ∀ v ∈ (nd N k).vars, v ∈ H))) := Lib.hid (by
     unfold TopN
     by_cases e : k = r
     ·simp [e]
     ·rw [hjp e, Int.toNat_natCast])
    have HPJ := Lib.hid hjp
    clear hjp
    have hzk := HZ.out k hlt
    have HNXT := Lib.hid (fun h => lt_next (P := TopN N H r) HLO.out (k := k) h)
    have HNO : Hid (¬ TopN N H r k → ¬ PP) := Lib.hid fun h c => h ((HT2.out.1 c).1 k hlt)
    obtain ⟨TT, hTT⟩ : ∃ TT, TopN N H r k = TT := ⟨_, rfl⟩
    rw [hTT] at HTN HNXT HNO
    generalize (nd N k).vars = vs at c2 hvT HTN hzk
    generalize (nd N k).parent = pI at c5 HPJ
    obtain ⟨tk, htk⟩ : ∃ t, (nd N k).top = t := ⟨_, rfl⟩
    obtain ⟨tj, htj⟩ : ∃ t, (nd N j).top = t := ⟨_, rfl⟩
    rw [htk] at c6 HTN
    rw [htj] at d6 HTN
    clear htk htj HLO hTT
    have HBK : Hid (tk = true ↔ tk = true) := Lib.hid Iff.rfl
    have HBJ : Hid (tj = true ↔ tj = true) := Lib.hid Iff.rfl
    have HK : Hid (∀ y, Below w0.heap.size w0 y → Below w0.heap.size w0 y ∧ y.cell? ⟨w.heap.size, 2, none⟩ = some (.slice (some ad) N.length cN) ∧ y.cell? ⟨w.heap.size, 3, none⟩ = some (.int .i64 r) ∧ y.cell? ⟨(ad.add (k * 7)).block, (ad.add (k * 7)).off + 5, none⟩ = some (.int .i64 pI) ∧ y.cell? ⟨(ad.add (k * 7)).block, (ad.add (k * 7)).off + 6, none⟩ = some (.bool tk) ∧ y.cell? ⟨(ad.add (j * 7)).block, (ad.add (j * 7)).off + 6, none⟩ = some (.bool tj)) := Lib.hid fun y hy => ⟨hy, Row.cell (Row.later hP0 hy) 2, Row.cell (Row.later hP0 hy) 3, (hy.cell (by rw [block_add]; exact hal)).trans c5, (hy.cell (by rw [block_add]; exact hal)).trans c6, (hy.cell (by rw [block_add]; exact hal)).trans d6⟩
    have HK2 : Hid (∀ y, Below w0.heap.size w0 y → y.cell? ⟨w.heap.size, 1, none⟩ = some (.slice AH H.length ch) ∧ y.cell? ⟨w.heap.size, 2, none⟩ = some (.slice (some ad) N.length cN) ∧ y.cell? ⟨(ad.add (k * 7)).block, (ad.add (k * 7)).off + 2, none⟩ = some (.slice T vs.length cT) ∧ y.cell? ⟨(ad.add (k * 7)).block, (ad.add (k * 7)).off + 6, none⟩ = some (.bool tk)) := Lib.hid fun y hy => ⟨Row.cell (Row.later hP0 hy) 1, Row.cell (Row.later hP0 hy) 2, (hy.cell (by rw [block_add]; exact hal)).trans c2, (hy.cell (by rw [block_add]; exact hal)).trans c6⟩
    clear c2 c5 c6 d6
    go_upto_region 6 with fail
    go_cut [3, 48] (fun i b wx => ∃ bad : Bool, i = .int .i64 k ∧ b = .bool bad ∧ Hid (bad = true ↔ ¬ (tk = true → k ≠ r → tj = true)) ∧ Below w0.heap.size w0 wx)
    case first =>
     have hwd := HK.out _ hb.drew
     clear p2 HK HK2 HTN HNXT HNO hb
     refine wp_region_held_drew (S := (fun y : World => Below w0.heap.size w0 y ∧ y.cell? ⟨w.heap.size, 2, none⟩ = some (.slice (some ad) N.length cN) ∧ y.cell? ⟨w.heap.size, 3, none⟩ = some (.int .i64 r) ∧ y.cell? ⟨(ad.add (k * 7)).block, (ad.add (k * 7)).off + 5, none⟩ = some (.int .i64 pI) ∧ y.cell? ⟨(ad.add (k * 7)).block, (ad.add (k * 7)).off + 6, none⟩ = some (.bool tk) ∧ y.cell? ⟨(ad.add (j * 7)).block, (ad.add (j * 7)).off + 6, none⟩ = some (.bool tj))) (by kernel_rfl) hwd (fun hHeld => ?_)
     refine kY 0 hHeld ?_
     simp only [Act.put, k0, k1, k2]
     refine kY 1 hHeld ?_
     simp only [Act.put, k0, k1, k2]
     refine kY 2 hHeld ?_
     simp only [Act.put, k0, k1, k2]
     refine kY 3 hHeld ?_
     simp only [Act.put, k0, k1, k2]
     refine kY 4 hHeld ?_
     simp only [Act.put, k0, k1, k2]
     refine kY 5 hHeld ?_
     simp only [Act.put, k0, k1, k2]
     cases tk
     ·have H28 := hidF HBK; clear HBK
      refine kY 6 hHeld ?_
      simp only [Act.put, k0, k1, k2]
      refine kN 15 [(7, 30), (8, 31), (9, 32), (10, 33)] rfl (by kernel_rfl) (fun _ _ _ _ h => h) hHeld ?_
      simp only [k3, k4, Act.put, k0, k1, k2]
      refine kY 11 hHeld ?_
      simp only [Act.put, k0, k1, k2]
      refine kY 12 hHeld ?_
      simp only [Act.put, k0, k1, k2]
      refine kN 1 [(13, 36), (14, 37), (15, 38), (16, 39), (17, 40), (18, 41), (19, 42), (20, 43), (21, 44), (22, 45), (23, 46), (24, 47)] rfl (by kernel_rfl) (fun _ _ _ _ h => h) hHeld ?_
      simp only [k3, k4, Act.put, k0, k1, k2]
      refine kY 25 hHeld ?_
      simp only [Act.put, k0, k1, k2]
      refine wpAnyH_done (by kernel_rfl) ?_ _
      go_wp2_with fail
      go_meet
      exact ⟨_, rfl, rfl, Lib.hid (by simp), hHeld.1⟩
     ·have H28 := hidT HBK; clear HBK
      refine kY 6 hHeld ?_
      simp only [Act.put, k0, k1, k2]
      refine kY 7 hHeld ?_
      simp only [Act.put, k0, k1, k2]
      refine kY 8 hHeld ?_
      simp only [Act.put, k0, k1, k2]
      refine kY 9 hHeld ?_
      simp only [Act.put, k0, k1, k2]
      refine kY 10 hHeld ?_
      simp only [Act.put, k0, k1, k2]
      by_cases q33 : (k : Int) = r
      ·obtain ⟨d33, e33, f33⟩ := ceT q33
       have H33 := Lib.hid q33; clear q33; try simp only [d33, e33, f33]
       refine kY 11 hHeld ?_
       simp only [Act.put, k0, k1, k2]
       refine kY 12 hHeld ?_
       simp only [Act.put, k0, k1, k2]
       refine kN 1 [(13, 36), (14, 37), (15, 38), (16, 39), (17, 40), (18, 41), (19, 42), (20, 43), (21, 44), (22, 45), (23, 46), (24, 47)] rfl (by kernel_rfl) (fun _ _ _ _ h => h) hHeld ?_
       simp only [k3, k4, Act.put, k0, k1, k2]
       refine kY 25 hHeld ?_
       simp only [Act.put, k0, k1, k2]
       refine wpAnyH_done (by kernel_rfl) ?_ _
       have HKR : Hid (k = r) := Lib.hid (by have := H33.out; omega)
       go_wp2_with fail
       go_meet
       exact ⟨_, rfl, rfl, Lib.hid (by simp [HKR.out]), hHeld.1⟩
      ·obtain ⟨d33, e33, f33⟩ := ceF q33
       have H33 := Lib.hid q33; clear q33; try simp only [d33, e33, f33]
       have hpj := HPJ.out (fun c => H33.out (by omega))
       subst hpj
       refine kY 11 hHeld ?_
       simp only [Act.put, k0, k1, k2]
       refine kY 12 hHeld ?_
       simp only [Act.put, k0, k1, k2]
       refine kY 13 hHeld ?_
       simp only [Act.put, k0, k1, k2]
       refine kY 14 hHeld ?_
       simp only [Act.put, k0, k1, k2]
       refine kY 15 hHeld ?_
       simp only [Act.put, k0, k1, k2]
       refine kY 16 hHeld ?_
       simp only [Act.put, k0, k1, k2]
       refine kY 17 hHeld ?_
       simp only [Act.put, k0, k1, k2]
       refine kY 18 hHeld ?_
       simp only [Act.put, k0, k1, k2]
       refine kY 19 hHeld ?_
       simp only [Act.put, k0, k1, k2]
       refine kY 20 hHeld ?_
       simp only [Act.put, k0, k1, k2]
       refine kY 21 hHeld ?_
       simp only [Act.put, k0, k1, k2]
       refine kY 22 hHeld ?_
       simp only [Act.put, k0, k1, k2]
       refine kY 23 hHeld ?_
       simp only [Act.put, k0, k1, k2]
       cases tj
       ·have H46 := hidF HBJ; clear HBJ
        refine kY 24 hHeld ?_
        simp only [Act.put, k0, k1, k2]
        refine kY 25 hHeld ?_
        simp only [Act.put, k0, k1, k2]
        refine wpAnyH_done (by kernel_rfl) ?_ _
        have HKR : Hid (¬ k = r) := Lib.hid fun c => H33.out (by omega)
        go_wp2_with fail
        go_meet
        exact ⟨_, rfl, rfl, Lib.hid (by simp [HKR.out]), hHeld.1⟩
       ·have H46 := hidT HBJ; clear HBJ
        refine kY 24 hHeld ?_
        simp only [Act.put, k0, k1, k2]
        refine kY 25 hHeld ?_
        simp only [Act.put, k0, k1, k2]
        refine wpAnyH_done (by kernel_rfl) ?_ _
        go_wp2_with fail
        go_meet
        exact ⟨_, rfl, rfl, Lib.hid (by simp), hHeld.1⟩
    case rest =>
     obtain ⟨bad, rfl, rfl, HBAD, hB5⟩ := hcut
     obtain ⟨w5, hw5⟩ : ∃ wo, wo = wc := ⟨_, rfl⟩
     subst hw5
     clear HK HPJ HBJ p2 hb
     cases bad
     ·have HTN2 : Hid (TT ↔ (tk = true → ∀ c, c < vs.length → pz vs c ∈ H)) := Lib.hid (by
       rw [HTN.out]
       have hb := hidF HBAD
       exact ⟨fun h t => all_pz.1 (h t).2, fun h t => ⟨Classical.not_not.1 hb.out t, all_pz.2 (h t)⟩⟩)
      clear HTN HBAD
      go_wp2_with fail
      go_loopw [4] (fun x wi => ∃ c : Nat, c ≤ vs.length ∧ x = .int .i64 c ∧ Hid (tk = true → ∀ d, d < c → pz vs d ∈ H) ∧ Below w0.heap.size w0 wi) (fun x _ => vs.length - (intOf x).toNat)
      case atStart => exact ⟨0, Nat.zero_le _, rfl, Lib.hid (fun _ i hi => absurd hi (Nat.not_lt_zero _)), hB5⟩
      case round =>
       clear hB5
       obtain ⟨c, hc, rfl, HLV, hb⟩ := hrel
       obtain ⟨q1, q2, q3, q4⟩ := HK2.out _ hb
       by_cases hlc : c < vs.length
       ·have g1 : decide ((c : Int) < vs.length) = true := decide_eq_true (by omega)
        have g2 : decide (c < vs.length) = true := decide_eq_true hlc
        have c1 : (0 : Int) ≤ c := by omega
        have c2 : (c : Int) < vs.length := by omega
        obtain ⟨tv, hTv, htvl, htc⟩ := hvT.p_at hlc
        subst hTv
        have HIN := Lib.hid (fun (y : World) (hy : Below w0.heap.size w0 y) => r18in_any AH H ch (pz vs c) y hhl (hH0.later hy))
        have HNX2 : Hid ((tk = true → pz vs c ∈ H) → tk = true → ∀ d, d < c + 1 → pz vs d ∈ H) := Lib.hid fun h t => lt_next (HLV.out t) (h t)
        have HNO2 : Hid (tk = true → ¬ pz vs c ∈ H → ¬ PP) := Lib.hid fun t h => HNO.out fun q => h (HTN2.out.1 q t c hlc)
        generalize pz vs c = x at htc HIN HNX2 HNO2
        have HK3 : Hid (∀ y, Below w0.heap.size w0 y → Below w0.heap.size w0 y ∧ y.cell? ⟨w.heap.size, 1, none⟩ = some (.slice AH H.length ch) ∧ y.cell? ⟨w.heap.size, 2, none⟩ = some (.slice (some ad) N.length cN) ∧ y.cell? ⟨(ad.add (k * 7)).block, (ad.add (k * 7)).off + 2, none⟩ = some (.slice (some tv) vs.length cT) ∧ y.cell? ⟨(ad.add (k * 7)).block, (ad.add (k * 7)).off + 6, none⟩ = some (.bool tk) ∧ y.cell? (tv.add c) = some (.int .i64 x)) := Lib.hid fun y hy => ⟨hy, (HK2.out y hy).1, (HK2.out y hy).2.1, (HK2.out y hy).2.2.1, (HK2.out y hy).2.2.2, (hy.cell (by rw [block_add]; exact htvl)).trans htc⟩
        have hwd := HK3.out _ hb.drew
        clear htc hvT HLV hb
        go_upto_region 11 with fail
        clear q1 q2 q3 q4 HK2 HTN2 HNXT HNO
        have HBK2 : Hid (tk = true ↔ tk = true) := Lib.hid Iff.rfl
        refine wp_region_held_drew (S := (fun y : World => Below w0.heap.size w0 y ∧ y.cell? ⟨w.heap.size, 1, none⟩ = some (.slice AH H.length ch) ∧ y.cell? ⟨w.heap.size, 2, none⟩ = some (.slice (some ad) N.length cN) ∧ y.cell? ⟨(ad.add (k * 7)).block, (ad.add (k * 7)).off + 2, none⟩ = some (.slice (some tv) vs.length cT) ∧ y.cell? ⟨(ad.add (k * 7)).block, (ad.add (k * 7)).off + 6, none⟩ = some (.bool tk) ∧ y.cell? (tv.add c) = some (.int .i64 x))) (by kernel_rfl) hwd (fun hHeld => ?_)
        refine kY 0 hHeld ?_
        simp only [Act.put, k0, k1, k2]
        refine kY 1 hHeld ?_
        simp only [Act.put, k0, k1, k2]
        refine kY 2 hHeld ?_
        simp only [Act.put, k0, k1, k2]
        refine kY 3 hHeld ?_
        simp only [Act.put, k0, k1, k2]
        refine kY 4 hHeld ?_
        simp only [Act.put, k0, k1, k2]
        refine kY 5 hHeld ?_
        simp only [Act.put, k0, k1, k2]
        cases tk
        ·have H65 := hidF HBK2; clear HBK2
         refine kY 6 hHeld ?_
         simp only [Act.put, k0, k1, k2]
         refine kN 1 [(7, 67), (8, 68), (9, 69), (10, 70), (11, 71), (12, 72), (13, 73), (14, 74), (15, 75), (16, 76), (17, 77), (18, 78), (19, 79)] rfl (by kernel_rfl) (fun _ _ _ _ h => h) hHeld ?_
         simp only [k3, k4, Act.put, k0, k1, k2]
         refine kY 20 hHeld ?_
         simp only [Act.put, k0, k1, k2]
         refine wpAnyH_done (by kernel_rfl) ?_ _
         have HS := Lib.hid (HNX2.out (fun t => absurd t (by decide)))
         have hBq := hHeld.1
         clear HNX2 HNO2 HIN HK3 hHeld
         go_wp2_with fail
         go_roundw
         case rel => exact ⟨c + 1, by omega, by go_num, HS, hBq⟩
         case measure => simp [intOf]; omega
        ·have H65 := hidT HBK2; clear HBK2
         refine kY 6 hHeld ?_
         simp only [Act.put, k0, k1, k2]
         refine kY 7 hHeld ?_
         simp only [Act.put, k0, k1, k2]
         refine kY 8 hHeld ?_
         simp only [Act.put, k0, k1, k2]
         refine kY 9 hHeld ?_
         simp only [Act.put, k0, k1, k2]
         refine kY 10 hHeld ?_
         simp only [Act.put, k0, k1, k2]
         refine kY 11 hHeld ?_
         simp only [Act.put, k0, k1, k2]
         refine kY 12 hHeld ?_
         simp only [Act.put, k0, k1, k2]
         refine kY 13 hHeld ?_
         simp only [Act.put, k0, k1, k2]
         refine kY 14 hHeld ?_
         simp only [Act.put, k0, k1, k2]
         refine kY 15 hHeld ?_
         simp only [Act.put, k0, k1, k2]
         refine kY 16 hHeld ?_
         simp only [Act.put, k0, k1, k2]
         refine kY 17 hHeld ?_
         simp only [Act.put, k0, k1, k2]
         refine kC 18 rfl (by kernel_rfl) (fun K hK => ?_)
         go_simp
         go_at_call 77
         refine (HIN.out _ hHeld.1).mono ?_
         rintro e2 wq ⟨rfl, rfl⟩
         go_wp2_with fail
         refine hK.out _ _ hHeld (fun hNew => ?_)
         clear hK K hHeld; have hHeld := hNew; clear hNew
         try simp only [Act.put, k0, k1, k2]
         by_cases q78 : x ∈ H
         ·have d78 := decide_eq_true q78
          have H78 := Lib.hid q78; clear q78; try simp only [d78]
          refine kY 19 hHeld ?_
          simp only [Act.put, k0, k1, k2]
          refine kY 20 hHeld ?_
          simp only [Act.put, k0, k1, k2]
          refine wpAnyH_done (by kernel_rfl) ?_ _
          have HS := Lib.hid (HNX2.out (fun _ => H78.out))
          have hBq := hHeld.1
          clear HNX2 HNO2 HIN HK3 hHeld
          go_wp2_with fail
          go_roundw
          case rel => exact ⟨c + 1, by omega, by go_num, HS, hBq⟩
          case measure => simp [intOf]; omega
         ·have d78 := decide_eq_false q78
          have H78 := Lib.hid q78; clear q78; try simp only [d78]
          refine kY 19 hHeld ?_
          simp only [Act.put, k0, k1, k2]
          refine kY 20 hHeld ?_
          simp only [Act.put, k0, k1, k2]
          refine wpAnyH_done (by kernel_rfl) ?_ _
          have HX := Lib.hid (HNO2.out (by first | rfl | trivial) H78.out)
          have hBq := hHeld.1
          clear HNX2 HNO2 HIN HK3 hHeld
          go_wp2_with fail
          go_ret
          exact says_no HX.out (bthen hb0 hBq)
       ·obtain rfl : c = vs.length := by omega
        have g1 : decide ((vs.length : Int) < vs.length) = false := decide_eq_false (by omega)
        have HS := Lib.hid (HNXT.out (HTN2.out.2 HLV.out))
        clear HNXT HNO HTN2 HLV HK2
        go_wp2_with fail
        go_roundw
        case rel => exact ⟨k + 1, by omega, by go_num, HS, hb⟩
        case measure => simp [intOf]; omega
     ·have HX := Lib.hid (HNO.out (by rw [HTN.out]; exact fun c => (hidT HBAD).out fun t => (c t).1))
      clear HNO HNXT HTN HBAD HK2
      go_wp2_with fail
      go_ret
      exact says_no HX.out (bthen hb0 hB5)
   ·obtain rfl : k = N.length := by omega
    have HT3 : Hid (PP ↔ (∀ k, k < H.length → HasTo N (pz H k) N.length) ∧ TP = ordF N N.length r) := Lib.hid (by
     rw [HT2.out]
     exact ⟨fun h => h.2, fun h => ⟨HLO.out, h⟩⟩)
    clear HT2 HLO HPI p2
    have HKP : Hid (∀ y, Below w0.heap.size w0 y → y.cell? ⟨w.heap.size, 1, none⟩ = some (.slice AH H.length ch) ∧ y.cell? ⟨w.heap.size, 2, none⟩ = some (.slice (some ad) N.length cN)) := Lib.hid fun y hy => ⟨Row.cell (Row.later hP0 hy) 1, Row.cell (Row.later hP0 hy) 2⟩
    obtain ⟨z1, z2⟩ := HKP.out _ hb
    have hbr := hb
    go_wp2_with fail
    go_loopw [5, 6, 7] (fun x _ _ wi => ∃ c : Nat, c ≤ H.length ∧ x = .int .i64 c ∧ Hid (∀ d, d < c → HasTo N (pz H d) N.length) ∧ Below w0.heap.size w0 wi) (fun x _ _ _ => H.length - (intOf x).toNat)
    case atStart => exact ⟨0, Nat.zero_le _, rfl, Lib.hid (fun i hi => absurd hi (Nat.not_lt_zero _)), hbr⟩
    case round =>
     clear hb hbr z1 z2
     obtain ⟨c, hc, rfl, HLO, hb⟩ := hrel
     obtain ⟨q1, q2⟩ := HKP.out _ hb
     by_cases hlc : c < H.length
     ·have g1 : decide ((c : Int) < H.length) = true := decide_eq_true (by omega)
      have g2 : decide (c < H.length) = true := decide_eq_true hlc
      have c1 : (0 : Int) ≤ c := by omega
      have c2 : (c : Int) < H.length := by omega
      obtain ⟨ah, hAh, hahl, hhc⟩ := hH0.p_at hlc
      subst hAh
      have HNXT := Lib.hid (fun h => lt_next (P := fun d => HasTo N (pz H d) N.length) HLO.out (k := c) h)
      have HNO : Hid (¬ HasTo N (pz H c) N.length → ¬ PP) := Lib.hid fun h q => h ((HT3.out.1 q).1 c hlc)
      go_wp2_with fail
      go_loopw [6, 7] (fun t x wi => ∃ (m : Nat) (hs : Bool), m ≤ N.length ∧ x = .int .i64 m ∧ t = .bool hs ∧ Hid (hs = true ↔ HasTo N (pz H c) m) ∧ Below w0.heap.size w0 wi) (fun _ x _ => N.length - (intOf x).toNat)
      case atStart => exact ⟨0, false, Nat.zero_le _, rfl, rfl, Lib.hid ⟨fun q => Bool.noConfusion q, fun ⟨i, hi, _⟩ => absurd hi (Nat.not_lt_zero _)⟩, hb⟩
      case round =>
       clear hb q1 q2
       obtain ⟨m, hs, hm, rfl, rfl, HBH, hb⟩ := hrel
       obtain ⟨q1, q2⟩ := HKP.out _ hb
       by_cases hlm : m < N.length
       ·obtain ⟨ad2, hA2, hal, T, cT, hvT, _, _, c2', _, _, _, c6⟩ := hN0.cells hlm
        injection hA2 with hA2
        subst hA2
        have i1 : decide ((m : Int) < N.length) = true := decide_eq_true (by omega)
        have i2 : decide (m < N.length) = true := decide_eq_true hlm
        have i3 : (0 : Int) ≤ m := by omega
        have i4 : (m : Int) < N.length := by omega
        have HHN := Lib.hid (has_next N (pz H c) m)
        have hzm := HZ.out m hlm
        have HIN := Lib.hid (fun (y : World) (hy : Below w0.heap.size w0 y) => r18in_any T (nd N m).vars cT (pz H c) y hzm (hvT.later hy))
        obtain ⟨A1, hA1⟩ : ∃ A, HasTo N (pz H c) (m + 1) = A := ⟨_, rfl⟩
        rw [hA1] at HHN
        generalize HasTo N (pz H c) m = A0 at HHN HBH
        obtain ⟨tm, htm⟩ : ∃ t, (nd N m).top = t := ⟨_, rfl⟩
        rw [htm] at c6 HHN
        have HA1 := Lib.hid hA1
        clear htm hA1
        obtain ⟨x, hx⟩ : ∃ x, pz H c = x := ⟨_, rfl⟩
        rw [hx] at HHN HIN
        have hhc' := hhc
        rw [hx] at hhc'
        clear hx
        generalize (nd N m).vars = vs at c2' hvT HHN hzm HIN
        have HBM : Hid (tm = true ↔ tm = true) := Lib.hid Iff.rfl
        have HK : Hid (∀ y, Below w0.heap.size w0 y → Below w0.heap.size w0 y ∧ y.cell? ⟨w.heap.size, 1, none⟩ = some (.slice (some ah) H.length ch) ∧ y.cell? ⟨w.heap.size, 2, none⟩ = some (.slice (some ad) N.length cN) ∧ y.cell? ⟨(ad.add (m * 7)).block, (ad.add (m * 7)).off + 2, none⟩ = some (.slice T vs.length cT) ∧ y.cell? ⟨(ad.add (m * 7)).block, (ad.add (m * 7)).off + 6, none⟩ = some (.bool tm) ∧ y.cell? (ah.add c) = some (.int .i64 x)) := Lib.hid fun y hy => ⟨hy, (HKP.out y hy).1, (HKP.out y hy).2, (hy.cell (by rw [block_add]; exact hal)).trans c2', (hy.cell (by rw [block_add]; exact hal)).trans c6, (hy.cell (by rw [block_add]; exact hahl)).trans hhc'⟩
        have hwd := HK.out _ hb.drew
        clear c2' c6 hhc' hvT hb
        go_upto_region 20 with fail
        clear q1 q2
        refine wp_region_held_drew (S := (fun y : World => Below w0.heap.size w0 y ∧ y.cell? ⟨w.heap.size, 1, none⟩ = some (.slice (some ah) H.length ch) ∧ y.cell? ⟨w.heap.size, 2, none⟩ = some (.slice (some ad) N.length cN) ∧ y.cell? ⟨(ad.add (m * 7)).block, (ad.add (m * 7)).off + 2, none⟩ = some (.slice T vs.length cT) ∧ y.cell? ⟨(ad.add (m * 7)).block, (ad.add (m * 7)).off + 6, none⟩ = some (.bool tm) ∧ y.cell? (ah.add c) = some (.int .i64 x))) (by kernel_rfl) hwd (fun hHeld => ?_)
        refine kY 0 hHeld ?_
        simp only [Act.put, k0, k1, k2]
        cases hs
        ·have H95 := hidF HBH; clear HBH
         refine kY 1 hHeld ?_
         simp only [Act.put, k0, k1, k2]
         refine kY 2 hHeld ?_
         simp only [Act.put, k0, k1, k2]
         refine kY 3 hHeld ?_
         simp only [Act.put, k0, k1, k2]
         refine kY 4 hHeld ?_
         simp only [Act.put, k0, k1, k2]
         refine kY 5 hHeld ?_
         simp only [Act.put, k0, k1, k2]
         refine kY 6 hHeld ?_
         simp only [Act.put, k0, k1, k2]
         refine kY 7 hHeld ?_
         simp only [Act.put, k0, k1, k2]
         cases tm
         ·have H102 := hidF HBM; clear HBM
          refine kY 8 hHeld ?_
          simp only [Act.put, k0, k1, k2]
          refine kN 3 [(9, 104), (10, 105), (11, 106), (12, 107), (13, 108), (14, 109), (15, 110), (16, 111), (17, 112), (18, 113), (19, 114), (20, 115)] rfl (by kernel_rfl) (fun _ _ _ _ h => h) hHeld ?_
          simp only [k3, k4, Act.put, k0, k1, k2]
          refine kY 21 hHeld ?_
          simp only [Act.put, k0, k1, k2]
          refine kY 22 hHeld ?_
          simp only [Act.put, k0, k1, k2]
          refine kY 23 hHeld ?_
          simp only [Act.put, k0, k1, k2]
          refine wpAnyH_done (by kernel_rfl) ?_ _
          have HS := Lib.hid (HHN.out)
          have HS2 := HA1
          have hBq := hHeld.1
          clear HIN HK hHeld HHN HA1
          go_wp2_with fail
          go_roundw
          case rel => exact ⟨m + 1, _, by omega, by go_num, rfl, Lib.hid (by rw [HS2.out, HS.out]; simp [eq_false H95.out, eq_false H102.out]), hBq⟩
          case measure => simp [intOf]; omega
         ·have H102 := hidT HBM; clear HBM
          refine kY 8 hHeld ?_
          simp only [Act.put, k0, k1, k2]
          refine kY 9 hHeld ?_
          simp only [Act.put, k0, k1, k2]
          refine kY 10 hHeld ?_
          simp only [Act.put, k0, k1, k2]
          refine kY 11 hHeld ?_
          simp only [Act.put, k0, k1, k2]
          refine kY 12 hHeld ?_
          simp only [Act.put, k0, k1, k2]
          refine kY 13 hHeld ?_
          simp only [Act.put, k0, k1, k2]
          refine kY 14 hHeld ?_
          simp only [Act.put, k0, k1, k2]
          refine kY 15 hHeld ?_
          simp only [Act.put, k0, k1, k2]
          refine kY 16 hHeld ?_
          simp only [Act.put, k0, k1, k2]
          refine kY 17 hHeld ?_
          simp only [Act.put, k0, k1, k2]
          refine kY 18 hHeld ?_
          simp only [Act.put, k0, k1, k2]
          refine kY 19 hHeld ?_
          simp only [Act.put, k0, k1, k2]
          refine kC 20 rfl (by kernel_rfl) (fun K hK => ?_)
          go_simp
          go_at_call 77
          refine (HIN.out _ hHeld.1).mono ?_
          rintro e2 wq ⟨rfl, rfl⟩
          go_wp2_with fail
          refine hK.out _ _ hHeld (fun hNew => ?_)
          clear hK K hHeld; have hHeld := hNew; clear hNew
          try simp only [Act.put, k0, k1, k2]
          by_cases q115 : x ∈ vs
          ·have d115 := decide_eq_true q115
           have H115 := Lib.hid q115; clear q115; try simp only [d115]
           refine kY 21 hHeld ?_
           simp only [Act.put, k0, k1, k2]
           refine kY 22 hHeld ?_
           simp only [Act.put, k0, k1, k2]
           refine kY 23 hHeld ?_
           simp only [Act.put, k0, k1, k2]
           refine wpAnyH_done (by kernel_rfl) ?_ _
           have HS := Lib.hid (HHN.out)
           have HS2 := HA1
           have hBq := hHeld.1
           clear HIN HK hHeld HHN HA1
           go_wp2_with fail
           go_roundw
           case rel => exact ⟨m + 1, _, by omega, by go_num, rfl, Lib.hid (by rw [HS2.out, HS.out]; simp [eq_false H95.out, eq_true H102.out, eq_true H115.out]), hBq⟩
           case measure => simp [intOf]; omega
          ·have d115 := decide_eq_false q115
           have H115 := Lib.hid q115; clear q115; try simp only [d115]
           refine kY 21 hHeld ?_
           simp only [Act.put, k0, k1, k2]
           refine kY 22 hHeld ?_
           simp only [Act.put, k0, k1, k2]
           refine kY 23 hHeld ?_
           simp only [Act.put, k0, k1, k2]
           refine wpAnyH_done (by kernel_rfl) ?_ _
           have HS := Lib.hid (HHN.out)
           have HS2 := HA1
           have hBq := hHeld.1
           clear HIN HK hHeld HHN HA1
           go_wp2_with fail
           go_roundw
           case rel => exact ⟨m + 1, _, by omega, by go_num, rfl, Lib.hid (by rw [HS2.out, HS.out]; simp [eq_false H95.out, eq_true H102.out, eq_false H115.out]), hBq⟩
           case measure => simp [intOf]; omega
        ·have H95 := hidT HBH; clear HBH
         refine kY 1 hHeld ?_
         simp only [Act.put, k0, k1, k2]
         refine kN 2 [(2, 97), (3, 98), (4, 99), (5, 100), (6, 101), (7, 102), (8, 103), (9, 104), (10, 105), (11, 106), (12, 107), (13, 108), (14, 109), (15, 110), (16, 111), (17, 112), (18, 113), (19, 114), (20, 115), (21, 116)] rfl (by kernel_rfl) (fun _ _ _ _ h => h) hHeld ?_
         simp only [k3, k4, Act.put, k0, k1, k2]
         refine kY 22 hHeld ?_
         simp only [Act.put, k0, k1, k2]
         refine kY 23 hHeld ?_
         simp only [Act.put, k0, k1, k2]
         refine wpAnyH_done (by kernel_rfl) ?_ _
         have HS := Lib.hid (HHN.out)
         have HS2 := HA1
         have hBq := hHeld.1
         clear HIN HK hHeld HHN HA1
         go_wp2_with fail
         go_roundw
         case rel => exact ⟨m + 1, _, by omega, by go_num, rfl, Lib.hid (by rw [HS2.out, HS.out]; simp [eq_true H95.out]), hBq⟩
         case measure => simp [intOf]; omega
       ·obtain rfl : m = N.length := by omega
        have i1 : decide ((N.length : Int) < N.length) = false := decide_eq_false (by omega)
        cases hs
        ·have HX := Lib.hid (HNO.out (hidF HBH).out)
         clear HNO HNXT HBH HT3
         go_wp2_with fail
         go_ret
         exact says_no HX.out (bthen hb0 hb)
        ·have HS := Lib.hid (HNXT.out (hidT HBH).out)
         clear HNO HNXT HBH
         go_wp2_with fail
         go_roundw
         case rel => exact ⟨c + 1, by omega, by go_num, HS, hb⟩
         case measure => simp [intOf]; omega
     ·obtain rfl : c = H.length := by omega
      have g1 : decide ((H.length : Int) < H.length) = false := decide_eq_false (by omega)
      have HT4 : Hid (PP ↔ TP = ordF N N.length r) := Lib.hid (by rw [HT3.out]; exact ⟨fun h => h.2, fun h => ⟨HLO.out, h⟩⟩)
      clear HT3 HLO
      have HO2 := Lib.hid (fun (y : World) (hy : Below w0.heap.size w0 y) => HOR.out y (hN0.later hy))
      generalize ordF N N.length (r : Int) = OO at HT4 HO2 hol
      have HSI := Lib.hid (fun (y : World) (A2 : Option Addr) (n2 : Nat) (hy : Below w0.heap.size w0 y) (h2 : Rd y y.heap.size A2 (is OO)) => sameInts_dec AT A2 TP OO ct n2 y htl (by omega) (hT0.later hy) h2)
      have HK : Hid (∀ y, Below w0.heap.size w0 y → Below w0.heap.size w0 y ∧ y.cell? ⟨w.heap.size, 0, none⟩ = some (.slice AV nv cv) ∧ y.cell? ⟨w.heap.size, 1, none⟩ = some (.slice AH H.length ch) ∧ y.cell? ⟨w.heap.size, 2, none⟩ = some (.slice (some ad) N.length cN) ∧ y.cell? ⟨w.heap.size, 3, none⟩ = some (.int .i64 r) ∧ y.cell? ⟨w.heap.size, 4, none⟩ = some (.slice AT TP.length ct)) := Lib.hid fun y hy => ⟨hy, Row.cell (Row.later hP0 hy) 0, Row.cell (Row.later hP0 hy) 1, Row.cell (Row.later hP0 hy) 2, Row.cell (Row.later hP0 hy) 3, Row.cell (Row.later hP0 hy) 4⟩
      have hwd := HK.out _ hb.drew
      clear HOR hb
      go_upto_region 23 with fail
      clear q1 q2
      refine wp_region_held_drew (S := (fun y : World => Below w0.heap.size w0 y ∧ y.cell? ⟨w.heap.size, 0, none⟩ = some (.slice AV nv cv) ∧ y.cell? ⟨w.heap.size, 1, none⟩ = some (.slice AH H.length ch) ∧ y.cell? ⟨w.heap.size, 2, none⟩ = some (.slice (some ad) N.length cN) ∧ y.cell? ⟨w.heap.size, 3, none⟩ = some (.int .i64 r) ∧ y.cell? ⟨w.heap.size, 4, none⟩ = some (.slice AT TP.length ct))) (by kernel_rfl) hwd (fun hHeld => ?_)
      refine kY 0 hHeld ?_
      simp only [Act.put, k0, k1, k2]
      refine kY 1 hHeld ?_
      simp only [Act.put, k0, k1, k2]
      refine kY 2 hHeld ?_
      simp only [Act.put, k0, k1, k2]
      refine kY 3 hHeld ?_
      simp only [Act.put, k0, k1, k2]
      refine kY 4 hHeld ?_
      simp only [Act.put, k0, k1, k2]
      refine kC 5 rfl (by kernel_rfl) (fun K hK => ?_)
      go_simp
      go_at_call 78
      refine (HO2.out _ hHeld.1).mono ?_
      rintro e2 wq ⟨v2, rfl, ho2, hbq⟩
      have hbq2 := bthen hHeld.1 hbq
      obtain ⟨A2, n2, rfl, _, _, hR2, _⟩ := Rd.of_own ho2
      clear ho2
      go_wp2_with fail
      refine hK.out _ _ (HK.out _ hbq2) (fun hNew => ?_)
      clear hK K hHeld; have hHeld := hNew; clear hNew
      try simp only [Act.put, k0, k1, k2]
      refine kC 6 rfl (by kernel_rfl) (fun K hK => ?_)
      go_simp
      go_at_call 13
      refine (HSI.out _ A2 n2 hHeld.1 hR2).mono ?_
      rintro e2 wq ⟨rfl, n3, rfl⟩
      have hbq3 := below_drewN hHeld.1 n3
      go_wp2_with fail
      refine hK.out _ _ (HK.out _ hbq3) (fun hNew => ?_)
      clear hK K hHeld; have hHeld := hNew; clear hNew
      try simp only [Act.put, k0, k1, k2]
      by_cases q126 : TP = OO
      ·obtain ⟨d126, e126, f126⟩ := ceT q126
       have H126 := Lib.hid q126; clear q126; try simp only [d126, e126, f126]
       refine kY 7 hHeld ?_
       simp only [Act.put, k0, k1, k2]
       refine wpAnyH_done (by kernel_rfl) ?_ _
       have HX := Lib.hid (HT4.out.2 H126.out)
       go_wp2_with fail
       go_ret
       exact says_yes HX.out (bthen hb0 hHeld.1)
      ·obtain ⟨d126, e126, f126⟩ := ceF q126
       have H126 := Lib.hid q126; clear q126; try simp only [d126, e126, f126]
       refine kY 7 hHeld ?_
       simp only [Act.put, k0, k1, k2]
       refine wpAnyH_done (by kernel_rfl) ?_ _
       have HX : Hid (¬ PP) := Lib.hid fun q => H126.out (HT4.out.1 q)
       go_wp2_with fail
       go_ret
       exact says_no HX.out (bthen hb0 hHeld.1)
end Go.Proofs.YtdemmjofggemhaaGreatDoor
