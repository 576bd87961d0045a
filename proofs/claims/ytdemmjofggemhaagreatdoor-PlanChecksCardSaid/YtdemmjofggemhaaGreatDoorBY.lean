/- Several texts in one: PlnTree PlnVars PlnTops. -/
import Derived.Test.YtdemmjofggemhaaGreatDoorBX
import Derived.Test.YtdemmjofggemhaaGreatDoorPHang
import Derived.Test.YtdemmjofggemhaaGreatDoorPOrder
/- plan.rightTree: property 4. -/
set_option linter.unusedSimpArgs false
namespace Go.Proofs.YtdemmjofggemhaaGreatDoor
open Go.RowKit
theorem tree_climb {N : List PNd} {r : Nat} : TreeOk N r ↔ (∀ i, i < N.length → ∀ k : Nat, (k : Int) ∈ chl (nd N i) → (nd N k).parent = i) ∧ (∀ i, i < N.length → climb N r N.length i = true ∧ (i ≠ r → times N i N.length = 1)) ∧ times N r N.length = 0 ∧ (nd N r).parent = -1 ∧ (nd N r).vars = [] := by
 constructor
 ·intro T
  have hrr := T.rt
  have d := T.dsc
  rw [Int.toNat_natCast] at hrr d
  have hc := (climb_iff (r := r) T.par T.one).2 d
  exact ⟨T.par, fun i hi => ⟨hc i hi, fun e => T.one i hi (by omega)⟩, hrr⟩
 ·rintro ⟨h1, h2, h3⟩
  have ho : ∀ i : Nat, i < N.length → (i : Int) ≠ r → times N i N.length = 1 := fun i hi e => (h2 i hi).2 (by omega)
  refine ⟨h1, by rw [Int.toNat_natCast]; exact h3, ho, ?_⟩
  rw [Int.toNat_natCast]
  exact (climb_iff (r := r) h1 ho).1 fun i hi => (h2 i hi).1
def cntF (N : List PNd) (k m : Nat) (x : Nat) : Int := ((times N x k + ((chl (nd N k)).take m).count (x : Int) : Nat) : Int)
theorem cntF_zero (N : List PNd) (k x : Nat) : cntF N k 0 x = (times N x k : Nat) := by simp [cntF]
theorem cntF_last (N : List PNd) (k x : Nat) : cntF N k (chl (nd N k)).length x = (times N x (k + 1) : Nat) := by
 unfold cntF
 rw [List.take_length, times_succ]
theorem cntF_le (N : List PNd) (k m x : Nat) : 0 ≤ cntF N k m x ∧ cntF N k m x ≤ 2 * k + 2 := by
 unfold cntF
 have h1 := times_le N x k
 have h2 : ((chl (nd N k)).take m).count (x : Int) ≤ ((chl (nd N k)).take m).length := List.count_le_length
 have h3 : ((chl (nd N k)).take m).length ≤ (chl (nd N k)).length := List.length_take_le' ..
 have h4 := chl_len (nd N k)
 omega
theorem cntF_next (N : List PNd) (k m c : Nat) (hm : m < (chl (nd N k)).length) (hc : pz (chl (nd N k)) m = c) (x : Nat) : (if x = c then cntF N k m c + 1 else cntF N k m x) = cntF N k (m + 1) x := by
 have e : (chl (nd N k)).take (m + 1) = (chl (nd N k)).take m ++ [(c : Int)] := by
  rw [← hc, ← pz_eq _ m hm]; simp
 unfold cntF
 rw [e, List.count_append]
 by_cases h : x = c
 ·subst h; simp; omega
 ·have h2 : ¬ (c : Int) = (x : Int) := by omega
  simp [h, h2]
theorem mem_take_next' {C : List Int} {m : Nat} (hm : m < C.length) {x : Int} (h : x ∈ C.take (m + 1)) : x ∈ C.take m ∨ x = pz C m := by
 rw [take_ints C hm] at h
 rcases List.mem_append.1 h with h | h
 ·exact .inl h
 ·exact .inr (List.mem_singleton.1 h)
set_option maxRecDepth 100000 in
set_option maxHeartbeats 8000000 in
theorem righttree_any (gp : Nat) (vv vh : Value) (AN : Option Addr) (N : List PNd) (cN : Nat) (r : Nat) (vt : Value) (w : World) (hr : r < N.length) (hl : N.length ≤ 64) (kids : Kids N)
  (hP : PRow w gp vv vh AN N.length cN r vt) (hN : NdR w w.heap.size AN N) :
  Calls Tryz.prog 50 #[.pointer (some ⟨gp, 0, none⟩)] w (Says (TreeOk N r) w) := by
 have HTC := Lib.hid (tree_climb (N := N) (r := r))
 have HKI := Lib.hid kids
 clear kids
 obtain ⟨PP, hPP⟩ : ∃ P, TreeOk N r = P := ⟨_, rfl⟩
 rw [hPP] at HTC ⊢
 clear hPP
 obtain ⟨ad, hA, _⟩ := hN.cells hr
 subst hA
 have hmk := mk_int N.length (by omega)
 have hlw := hP.lt
 go_enter Tryz.func50, Tryz.ntmps50
 have q2 : w.cell? ⟨gp, 2, none⟩ = some (.slice (some ad) N.length cN) := Row.cell hP 2
 go_upto_region 2 with fail
 have hb0 := below_alloc w (.cells (zeros (.int .i64 0) N.length).toArray 3)
 have hW0 : Row (w.alloc (.cells (zeros (.int .i64 0) N.length).toArray 3)) w.heap.size 3 (is (rowOf N.length fun _ => 0)) := by rw [← rowOf_zeros]; exact Row.new _ _ _
 generalize w.alloc _ = w0 at hb0 hW0 ⊢
 clear q2 hmk
 have q2 : w0.cell? ⟨gp, 2, none⟩ = some (.slice (some ad) N.length cN) := Row.cell (Row.later hP hb0) 2
 go_wp2_with fail
 clear q2
 go_loopw [4, 6, 22] (fun _ _ x wr => ∃ k : Nat, k ≤ N.length ∧ x = .int .i64 k ∧ Hid (∀ i, i < k → ∀ x : Nat, (x : Int) ∈ chl (nd N i) → (nd N x).parent = i) ∧ Row wr w.heap.size 3 (is (rowOf N.length fun x => (times N x k : Nat))) ∧ Below w.heap.size w wr) (fun _ _ x _ => N.length - (intOf x).toNat)
 case atStart => exact ⟨0, Nat.zero_le _, rfl, Lib.hid (fun i hi => absurd hi (Nat.not_lt_zero _)), hW0, hb0⟩
 case round =>
  obtain ⟨k, hk, rfl, HPO, hW, hb⟩ := hrel
  by_cases hlt : k < N.length
  ·have b1 : decide ((k : Int) < N.length) = true := decide_eq_true (by omega)
   have b2 : decide (k < N.length) = true := decide_eq_true hlt
   have hPr := Row.later hP hb
   have hNr := hN.later hb
   have HCH := Lib.hid (children_any gp vv vh (some ad) N cN r vt k wr hlt hPr hNr)
   have HKk := Lib.hid (HKI.out k hlt)
   have HCN := Lib.hid (cntF_next N k)
   have HCZ := Lib.hid (cntF_zero N k)
   have HCL := Lib.hid (cntF_last N k)
   have HCB := Lib.hid (cntF_le N k)
   have HNO : Hid (∀ x : Nat, (x : Int) ∈ chl (nd N k) → (nd N x).parent ≠ k → ¬ PP) := Lib.hid fun x hx h p => h ((HTC.out.1 p).1 k hlt x hx)
   have HPN : Hid ((∀ x : Nat, (x : Int) ∈ chl (nd N k) → (nd N x).parent = k) → ∀ i, i < k + 1 → ∀ x : Nat, (x : Int) ∈ chl (nd N i) → (nd N x).parent = i) := Lib.hid fun h => lt_next (P := fun i => ∀ x : Nat, (x : Int) ∈ chl (nd N i) → (nd N x).parent = i) HPO.out h
   have hc2 := chl_len (nd N k)
   clear HPO hPr hNr
   generalize chl (nd N k) = C at HCH HKk HCN HCL HNO HPN hc2
   go_wp2_with fail
   refine HCH.out.mono ?_
   rintro e w1 ⟨v, rfl, hoc, hb1⟩
   obtain ⟨AC, cC, rfl, _, _, _, _⟩ := Rd.of_own hoc
   have hW1 : Row w1 w.heap.size 3 (is (rowOf N.length (cntF N k 0))) := by
    rw [rowOf_congr (g := fun x => ((times N x k : Nat) : Int)) fun i _ => HCZ.out i]
    exact hW.later hb1
   have hB1 := bthen hb hb1
   have hszw := hb.size
   have hgw : w.heap.size < wr.heap.size := hW.lt
   clear hW hb hb1 HCH
   go_wp2_with fail
   go_loopw [6, 29] (fun _ y wi => ∃ m : Nat, m ≤ C.length ∧ y = .int .i64 m ∧ Hid (∀ x : Nat, (x : Int) ∈ C.take m → (nd N x).parent = k) ∧ Row wi w.heap.size 3 (is (rowOf N.length (cntF N k m))) ∧ wi.ownsRow wr.heap.size 3 1 (.slice AC C.length cC) C.length (is C) ∧ Below w.heap.size w wi) (fun _ y _ => C.length - (intOf y).toNat)
   case atStart => exact ⟨0, Nat.zero_le _, rfl, Lib.hid (fun x hx => by simp at hx), hW1, hoc, hB1⟩
   case round =>
    clear hW1 hoc hB1 b1 b2
    obtain ⟨m, hm, rfl, HPM, hW, hoc, hb⟩ := hrel
    by_cases hlm : m < C.length
    ·have b1 : decide ((m : Int) < C.length) = true := decide_eq_true (by omega)
     have b2 : decide (m < C.length) = true := decide_eq_true hlm
     obtain ⟨ac, hAC, _, hcm⟩ := (Rd.of_own' hoc).p_at hlm
     have hmem : pz C m ∈ C := by rw [← pz_eq C m hlm]; exact List.getElem_mem _
     obtain ⟨cn, hcn, hcl⟩ := HKk.out (pz C m) hmem
     rw [hcn] at hcm
     have hpo : Row (wr.setCell ⟨w.heap.size, cn, none⟩ (.int .i64 (cntF N k m cn + 1))) w.heap.size 3 (is (rowOf N.length (cntF N k (m + 1)))) := by
      have h := hW.set_ cn (.int .i64 (cntF N k m cn + 1))
      rw [rowOf_set] at h
      rwa [rowOf_congr fun i _ => HCN.out m cn hlm hcn i] at h
     have hblk : (Value.slice AC C.length cC).ownBlock ≠ some w.heap.size := fun c => by
      have := (hoc.lt _ c).1
      omega
     have hco := own_other hoc (k := cn) (u := .int .i64 (cntF N k m cn + 1)) hblk
     have hbo : Below w.heap.size w (wr.setCell ⟨w.heap.size, cn, none⟩ (.int .i64 (cntF N k m cn + 1))) := hb.setCell (Nat.le_refl _) _
     have t1 : wr.cell? ⟨w.heap.size, cn, none⟩ = some (.int .i64 (cntF N k m cn)) := (hW.cell cn).trans (rowOf_at N.length (cntF N k m) cn hcl)
     have t2 := hW.frozen cn
     obtain ⟨cl1, cl2⟩ := HCB.out m cn
     have v1 : IntKind.i64.wrap (cntF N k m cn + 1) = cntF N k m cn + 1 := IntWalk.i64_in _ (by omega)
     have HNX : Hid ((nd N cn).parent = k → ∀ x : Nat, (x : Int) ∈ C.take (m + 1) → (nd N x).parent = k) := Lib.hid fun h x hx => by
      rcases mem_take_next' hlm hx with c | c
      ·exact HPM.out x c
      ·rw [hcn] at c
       rw [Int.ofNat.inj c]; exact h
     have HN2 : Hid ((nd N cn).parent ≠ k → ¬ PP) := Lib.hid (HNO.out cn (hcn ▸ hmem))
     obtain ⟨ad2, hA2, _, T2, cT2, _, _, _, _, _, _, e5, _⟩ := (hN.later hbo).cells hcl
     injection hA2 with hA2
     subst hA2
     subst hAC
     have c1 : (0 : Int) ≤ m := by omega
     have c2 : (m : Int) < C.length := by omega
     have c3 : (0 : Int) ≤ cn := by omega
     have c4 : (cn : Int) < N.length := by omega
     have r2 : (wr.setCell ⟨w.heap.size, cn, none⟩ (.int .i64 (cntF N k m cn + 1))).cell? ⟨gp, 2, none⟩ = some (.slice (some ad) N.length cN) := Row.cell (Row.later hP hbo) 2
     clear hcn hmem HPM hblk hoc hb hW
     generalize (nd N cn).parent = pI at HNX HN2 e5
     generalize cntF N k m cn = tc at *
     by_cases hpk : pI = (k : Int)
     ·obtain ⟨f1, f2, f3⟩ := ceT hpk
      have HS := Lib.hid (HNX.out hpk)
      clear hpk HNX HN2
      go_wp2_with fail
      go_roundw
      case rel => exact ⟨m + 1, by omega, by go_num, HS, hpo, hco, hbo⟩
      case measure => simp [intOf]; omega
     ·obtain ⟨f1, f2, f3⟩ := ceF hpk
      have HX := Lib.hid (HN2.out hpk)
      clear hpk HNX HN2
      go_wp2_with fail
      go_ret
      exact says_no HX.out hbo
    ·obtain rfl : m = C.length := by omega
     have b1 : decide ((C.length : Int) < C.length) = false := decide_eq_false (by omega)
     have HS := Lib.hid (HPN.out fun x hx => HPM.out x (by rw [List.take_length]; exact hx))
     rw [rowOf_congr (g := fun x => ((times N x (k + 1) : Nat) : Int)) fun i _ => HCL.out i] at hW
     go_wp2_with fail
     go_roundw
     case rel => exact ⟨k + 1, by omega, by go_num, HS, hW, hb⟩
     case measure => simp [intOf]; omega
  ·obtain rfl : k = N.length := by omega
   have b1 : decide ((N.length : Int) < N.length) = false := decide_eq_false (by omega)
   have HT2 : Hid (PP ↔ (∀ i, i < N.length → climb N r N.length i = true ∧ (i ≠ r → times N i N.length = 1)) ∧ times N r N.length = 0 ∧ (nd N r).parent = -1 ∧ (nd N r).vars = []) := Lib.hid (by
    rw [HTC.out]
    exact ⟨fun h => h.2, fun h => ⟨HPO.out, h⟩⟩)
   clear HTC HPO HKI
   have q2 : wr.cell? ⟨gp, 2, none⟩ = some (.slice (some ad) N.length cN) := Row.cell (Row.later hP hb) 2
   go_wp2_with fail
   clear q2
   go_loopw [7, 8, 9, 56] (fun _ _ _ x wi => ∃ k : Nat, k ≤ N.length ∧ x = .int .i64 k ∧ Hid (∀ i, i < k → climb N r N.length i = true ∧ (i ≠ r → times N i N.length = 1)) ∧ Row wi w.heap.size 3 (is (rowOf N.length fun x => (times N x N.length : Nat))) ∧ Below w.heap.size w wi) (fun _ _ _ x _ => N.length - (intOf x).toNat)
   case atStart => exact ⟨0, Nat.zero_le _, rfl, Lib.hid (fun i hi => absurd hi (Nat.not_lt_zero _)), hW, hb⟩
   case round =>
    clear hW hb b1
    obtain ⟨k, hk, rfl, HLO, hW, hb⟩ := hrel
    by_cases hlt : k < N.length
    ·have b1 : decide ((k : Int) < N.length) = true := decide_eq_true (by omega)
     have b2 : decide (k < N.length) = true := decide_eq_true hlt
     have HNX := Lib.hid (fun h => lt_next (P := fun i => climb N r N.length i = true ∧ (i ≠ r → times N i N.length = 1)) HLO.out (k := k) h)
     have HNO : Hid (¬ (climb N r N.length k = true ∧ (k ≠ r → times N k N.length = 1)) → ¬ PP) := Lib.hid fun h p => h ((HT2.out.1 p).1 k hlt)
     obtain ⟨CK, hCK⟩ : ∃ c, climb N r N.length k = c := ⟨_, rfl⟩
     rw [hCK] at HNX HNO
     have HCK := Lib.hid hCK.symm
     clear hCK HLO
     go_wp2_with fail
     go_loopw [8, 9] (fun a x wi => ∃ (m a' : Nat), m ≤ N.length ∧ x = .int .i64 m ∧ a = .int .i64 a' ∧ a' < N.length ∧ Hid (CK = climb N r (N.length - m) a') ∧ Row wi w.heap.size 3 (is (rowOf N.length fun x => (times N x N.length : Nat))) ∧ Below w.heap.size w wi) (fun _ x _ => N.length - (intOf x).toNat)
     case atStart => exact ⟨0, k, Nat.zero_le _, rfl, rfl, hlt, HCK, hW, hb⟩
     case round =>
      clear hW hb HCK
      obtain ⟨m, a, hm, rfl, rfl, ha, HCK, hW, hb⟩ := hrel
      have p2 : wr.cell? ⟨gp, 2, none⟩ = some (.slice (some ad) N.length cN) := Row.cell (Row.later hP hb) 2
      have p3 : wr.cell? ⟨gp, 3, none⟩ = some (.int .i64 r) := Row.cell (Row.later hP hb) 3
      by_cases har : a = r
      ·have hCK : CK = true := by rw [HCK.out, har]; exact climb_at _
       obtain ⟨f1, f2, f3⟩ := ceT (show (a : Int) = r by omega)
       have g1 : (a != r) = false := by simp [har]
       have t1 : wr.cell? ⟨w.heap.size, k, none⟩ = some (.int .i64 (times N k N.length : Nat)) := (hW.cell k).trans (rowOf_at N.length _ k hlt)
       have b3 : (0 : Int) ≤ k := by omega
       have b4 : (k : Int) < N.length := by omega
       subst hCK
       generalize times N (k : Int) N.length = t at HNX HNO t1
       by_cases hkr : k = r
       ·obtain ⟨f4, f5, f6⟩ := ceT (show (k : Int) = r by omega)
        have HS := Lib.hid (HNX.out ⟨rfl, fun c => absurd hkr c⟩)
        clear HNX HNO HCK har hkr
        go_wp2_with fail
        go_roundw
        case rel => exact ⟨k + 1, by omega, by go_num, HS, hW, hb⟩
        case measure => simp [intOf]; omega
       ·obtain ⟨f4, f5, f6⟩ := ceF (show ¬ (k : Int) = r by omega)
        by_cases h1 : t = 1
        ·have e1 : ((t : Int) != 1) = false := by simp [h1]
         have e2 : (t != 1) = false := by simp [h1]
         have HS := Lib.hid (HNX.out ⟨rfl, fun _ => h1⟩)
         clear HNX HNO HCK har hkr h1
         go_wp2_with fail
         go_roundw
         case rel => exact ⟨k + 1, by omega, by go_num, HS, hW, hb⟩
         case measure => simp [intOf]; omega
        ·have e1 : ((t : Int) != 1) = true := by simp; omega
         have e2 : (t != 1) = true := by simp [h1]
         have HX : Hid (¬ PP) := Lib.hid (HNO.out fun c => h1 (c.2 hkr))
         clear HNX HNO HCK har hkr h1
         go_wp2_with fail
         go_ret
         exact says_no HX.out hb
      ·obtain ⟨f1, f2, f3⟩ := ceF (show ¬ (a : Int) = r by omega)
       have g1 : (a != r) = true := by simp [har]
       by_cases hmn : m < N.length
       ·have m1 : decide ((m : Int) < N.length) = true := decide_eq_true (by omega)
        have m2 : decide (m < N.length) = true := decide_eq_true hmn
        have a1 : (0 : Int) ≤ a := by omega
        have a2 : (a : Int) < N.length := by omega
        obtain ⟨ad2, hA2, _, T2, cT2, _, _, _, _, _, _, e5, _⟩ := (hN.later hb).cells ha
        injection hA2 with hA2
        subst hA2
        have HUP : Hid (CK = (inN N (nd N a).parent && climb N r (N.length - (m + 1)) (nd N a).parent)) := Lib.hid (by
         rw [HCK.out, show N.length - m = (N.length - (m + 1)) + 1 by omega, climb_up (by omega), Int.toNat_natCast])
        generalize (nd N a).parent = pI at e5 HUP
        have HIN := Lib.hid (isNode_any gp (some ad) N.length cN pI wr p2)
        cases hin : inN N pI
        ·have HX : Hid (¬ PP) := Lib.hid (HNO.out fun c => by
          have h1 := HUP.out
          rw [hin, Bool.false_and, c.1] at h1
          cases h1)
         rw [show (decide (0 ≤ pI) && decide (pI < (N.length : Int))) = false from hin] at HIN
         clear HUP HNX HNO HCK hin har
         go_wp2_with fail
         refine HIN.out.mono ?_
         rintro e2 w2 ⟨rfl, rfl⟩
         go_wp2_with fail
         go_ret
         exact says_no HX.out hb
        ·obtain ⟨j, hj, hjN⟩ := inN_iff.1 hin
         subst hj
         have HS : Hid (CK = climb N r (N.length - (m + 1)) j) := Lib.hid (by rw [HUP.out, hin, Bool.true_and])
         rw [show (decide (0 ≤ (j : Int)) && decide ((j : Int) < (N.length : Int))) = true from hin] at HIN
         clear HUP HCK hin har
         go_wp2_with fail
         refine HIN.out.mono ?_
         rintro e2 w2 ⟨rfl, rfl⟩
         go_wp2_with fail
         go_roundw
         case rel => exact ⟨m + 1, j, by omega, by go_num, rfl, hjN, HS, hW, hb⟩
         case measure => simp [intOf]; omega
       ·obtain rfl : m = N.length := by omega
        have m1 : decide ((N.length : Int) < N.length) = false := decide_eq_false (by omega)
        have HX : Hid (¬ PP) := Lib.hid (HNO.out fun c => by
         have h1 := HCK.out
         rw [Nat.sub_self, c.1] at h1
         have h2 : decide ((a : Int) = r) = true := h1.symm
         exact absurd (of_decide_eq_true h2) (by omega))
        clear HNX HNO HCK har
        go_wp2_with fail
        go_ret
        exact says_no HX.out hb
    ·obtain rfl : k = N.length := by omega
     have HT3 : Hid (PP ↔ times N r N.length = 0 ∧ (nd N r).parent = -1 ∧ (nd N r).vars = []) := Lib.hid (by
      rw [HT2.out]
      exact ⟨fun h => h.2, fun h => ⟨HLO.out, h⟩⟩)
     clear HT2 HLO
     have b1 : decide ((N.length : Int) < N.length) = false := decide_eq_false (by omega)
     have hPr := Row.later hP hb
     obtain ⟨ad2, hA2, hal, T, cT, _, c0, c1, c2, c3, c4, c5, c6⟩ := (hN.later hb).cells hr
     injection hA2 with hA2
     subst hA2
     have t1 : wr.cell? ⟨w.heap.size, r, none⟩ = some (.int .i64 (times N r N.length : Nat)) := (hW.cell r).trans (rowOf_at N.length _ r hr)
     have r1 : (0 : Int) ≤ r := by omega
     have r2 : (r : Int) < N.length := by omega
     generalize times N (r : Int) N.length = t at HT3 t1
     generalize nd N r = x at c0 c1 c2 c3 c4 c5 c6 HT3
     obtain ⟨K, at_, vs, sr, sd, pr, tp⟩ := x
     dsimp only at c0 c1 c2 c3 c4 c5 c6 HT3
     have p2 : wr.cell? ⟨gp, 2, none⟩ = some (.slice (some ad) N.length cN) := Row.cell hPr 2
     have p3 : wr.cell? ⟨gp, 3, none⟩ = some (.int .i64 r) := Row.cell hPr 3
     have HK : Hid (∀ y, Below wr.heap.size wr y → y.cell? ⟨gp, 2, none⟩ = some (.slice (some ad) N.length cN) ∧ y.cell? ⟨gp, 3, none⟩ = some (.int .i64 r) ∧ y.cell? (ad.add (r * 7)) = some (.int .i64 K) ∧ y.cell? ⟨(ad.add (r * 7)).block, (ad.add (r * 7)).off + 1, none⟩ = some (.int .i64 at_) ∧ y.cell? ⟨(ad.add (r * 7)).block, (ad.add (r * 7)).off + 2, none⟩ = some (.slice T vs.length cT) ∧ y.cell? ⟨(ad.add (r * 7)).block, (ad.add (r * 7)).off + 3, none⟩ = some (.int .i64 sr) ∧ y.cell? ⟨(ad.add (r * 7)).block, (ad.add (r * 7)).off + 4, none⟩ = some (.int .i64 sd) ∧ y.cell? ⟨(ad.add (r * 7)).block, (ad.add (r * 7)).off + 5, none⟩ = some (.int .i64 pr) ∧ y.cell? ⟨(ad.add (r * 7)).block, (ad.add (r * 7)).off + 6, none⟩ = some (.bool tp)) := Lib.hid fun y hy =>
      have hk := fun (p : Addr) (hp : p.block < wr.heap.size) => hy.cell (p := p) hp
      ⟨Row.cell (Row.later hPr hy) 2, Row.cell (Row.later hPr hy) 3, (hk _ (by rw [block_add]; exact hal)).trans c0, (hk _ (by rw [block_add]; exact hal)).trans c1, (hk _ (by rw [block_add]; exact hal)).trans c2, (hk _ (by rw [block_add]; exact hal)).trans c3, (hk _ (by rw [block_add]; exact hal)).trans c4, (hk _ (by rw [block_add]; exact hal)).trans c5, (hk _ (by rw [block_add]; exact hal)).trans c6⟩
     go_upto_region 26 with fail
     go_region_held3 (fun y : World => y.cell? ⟨gp, 2, none⟩ = some (.slice (some ad) N.length cN) ∧ y.cell? ⟨gp, 3, none⟩ = some (.int .i64 r) ∧ y.cell? (ad.add (r * 7)) = some (.int .i64 K) ∧ y.cell? ⟨(ad.add (r * 7)).block, (ad.add (r * 7)).off + 1, none⟩ = some (.int .i64 at_) ∧ y.cell? ⟨(ad.add (r * 7)).block, (ad.add (r * 7)).off + 2, none⟩ = some (.slice T vs.length cT) ∧ y.cell? ⟨(ad.add (r * 7)).block, (ad.add (r * 7)).off + 3, none⟩ = some (.int .i64 sr) ∧ y.cell? ⟨(ad.add (r * 7)).block, (ad.add (r * 7)).off + 4, none⟩ = some (.int .i64 sd) ∧ y.cell? ⟨(ad.add (r * 7)).block, (ad.add (r * 7)).off + 5, none⟩ = some (.int .i64 pr) ∧ y.cell? ⟨(ad.add (r * 7)).block, (ad.add (r * 7)).off + 6, none⟩ = some (.bool tp))
      (first | exact HK.out _ (Below.refl _ _).drew | exact HK.out _ (Below.alloc (Below.refl _ _).drew (Nat.le_refl _) _) | exact HK.out _ ((Below.alloc (Below.refl _ _).drew (Nat.le_refl _) _).setCell (Nat.le_refl _) _))
      (fail)
     have hb1 : Below wr.heap.size wr (wr.alloc (.cells #[.int .i64 K, .int .i64 at_, .slice T vs.length cT, .int .i64 sr, .int .i64 sd, .int .i64 pr, .bool tp] 50)).drew := (below_alloc wr _).drew
     have hX1 : Row (wr.alloc (.cells #[.int .i64 K, .int .i64 at_, .slice T vs.length cT, .int .i64 sr, .int .i64 sd, .int .i64 pr, .bool tp] 50)).drew wr.heap.size 50 [.int .i64 K, .int .i64 at_, .slice T vs.length cT, .int .i64 sr, .int .i64 sd, .int .i64 pr, .bool tp] := (Row.new wr _ _).drew
     have hB1 := bthen hb hb1
     have hP1 := Row.later hPr hb1
     have t2 : (wr.alloc (.cells #[.int .i64 K, .int .i64 at_, .slice T vs.length cT, .int .i64 sr, .int .i64 sd, .int .i64 pr, .bool tp] 50)).drew.cell? ⟨w.heap.size, r, none⟩ = some (.int .i64 t) := (hb1.cell (show w.heap.size < wr.heap.size from hW.lt)).trans t1
     generalize wr.heap.size = gx at hX1 ⊢
     generalize (wr.alloc _).drew = w1 at hX1 hB1 hP1 t2 ⊢
     clear c0 c1 c2 c3 c4 c5 c6 p2 p3 t1 HK hb hPr hW hb1 b1
     have p3 : w1.cell? ⟨gp, 3, none⟩ = some (.int .i64 r) := Row.cell hP1 3
     have x2 : w1.cell? ⟨gx, 2, none⟩ = some (.slice T vs.length cT) := hX1.cell 2
     have x5 : w1.cell? ⟨gx, 5, none⟩ = some (.int .i64 pr) := hX1.cell 5
     by_cases h0 : t = 0
     ·have g1 : ((t : Int) == 0) = true := by simp [h0]
      have g2 : (t == 0) = true := by simp [h0]
      have g3 : decide (t = 0) = true := by simp [h0]
      by_cases hp : pr = -1
      ·obtain ⟨i1, i2, i3⟩ := ceT hp
       by_cases hv : vs = []
       ·have j1 : ((vs.length : Int) == 0) = true := by simp [hv]
        have j2 : (vs.length == 0) = true := by simp [hv]
        have j3 : decide (vs.length = 0) = true := by simp [hv]
        have j4 : vs.isEmpty = true := by simp [hv]
        have j5 : decide (vs = []) = true := by simp [hv]
        have HX := Lib.hid (HT3.out.2 ⟨h0, hp, hv⟩)
        clear HT3 h0 hp hv
        go_wp2_with fail
        go_ret
        exact ⟨_, rfl, Lib.hid ⟨fun _ => HX.out, fun _ => by first | rfl | simp [j4] | simp [j2] | simp [j1]⟩, hB1⟩
       ·have j1 : ((vs.length : Int) == 0) = false := by simp [hv]
        have j2 : (vs.length == 0) = false := by simp [hv]
        have j3 : decide (vs.length = 0) = false := by simp [hv]
        have j4 : vs.isEmpty = false := by simp [hv]
        have j5 : decide (vs = []) = false := by simp [hv]
        have HX : Hid (¬ PP) := Lib.hid fun q => hv (HT3.out.1 q).2.2
        clear HT3 h0 hp hv
        go_wp2_with fail
        go_ret
        exact ⟨_, rfl, Lib.hid ⟨fun c => by first | exact Bool.noConfusion c | simp [j4] at c | simp [j2] at c | simp [j1] at c, fun c => absurd c HX.out⟩, hB1⟩
      ·obtain ⟨i1, i2, i3⟩ := ceF hp
       have HX : Hid (¬ PP) := Lib.hid fun q => hp (HT3.out.1 q).2.1
       clear HT3 h0 hp
       go_wp2_with fail
       go_ret
       exact says_no HX.out hB1
     ·have g1 : ((t : Int) == 0) = false := by simp [h0]
      have g2 : (t == 0) = false := by simp [h0]
      have g3 : decide (t = 0) = false := by simp [h0]
      have HX : Hid (¬ PP) := Lib.hid fun q => h0 (HT3.out.1 q).1
      clear HT3 h0
      go_wp2_with fail
      go_ret
      exact says_no HX.out hB1
end Go.Proofs.YtdemmjofggemhaaGreatDoor
/- plan.rightVars: property 5. -/
set_option linter.unusedSimpArgs false
namespace Go.Proofs.YtdemmjofggemhaaGreatDoor
open Go.RowKit
set_option maxRecDepth 100000 in
set_option maxHeartbeats 8000000 in
theorem rightvars_any (gp : Nat) (vv vh : Value) (AN : Option Addr) (N : List PNd) (cN : Nat) (r : Nat) (vt : Value) (nv : Nat) (w0 : World) (hr : r < N.length) (hl : N.length ≤ 64) (hv : nv ≤ 35184372087808) (hz : ∀ m ∈ N, m.vars.length ≤ 35184372087808) (HPI : ParIn N r)
  (hP0 : PRow w0 gp vv vh AN N.length cN r vt) (hN0 : NdR w0 w0.heap.size AN N) :
  Calls Tryz.prog 51 #[.pointer (some ⟨gp, 0, none⟩), .int .i64 nv] w0 (Says (VarsOk N r nv) w0) := by
 have HZ : Hid (∀ k, k < N.length → (nd N k).vars.length ≤ 35184372087808) := Lib.hid fun k hk => hz _ (by rw [← nd_eq N k hk]; exact List.getElem_mem _)
 have HBS := Lib.hid (beside HPI hr)
 have HVD : Hid (VarsOk N r nv ↔ ∀ v : Nat, v < nv → cntB (entB N r v) N.length ≤ 1) := Lib.hid Iff.rfl
 generalize VarsOk N r nv = PP at HVD ⊢
 clear hz HPI
 obtain ⟨ad, hA, _⟩ := hN0.cells hr
 subst hA
 go_enter Tryz.func51, Tryz.ntmps51
 go_wp2_with fail
 go_loopw [5, 6, 7, 8, 10] (fun _ _ _ _ x wr => ∃ k : Nat, k ≤ nv ∧ x = .int .i64 k ∧ Hid (∀ v : Nat, v < k → cntB (entB N r v) N.length ≤ 1) ∧ Below w0.heap.size w0 wr) (fun _ _ _ _ x _ => nv - (intOf x).toNat)
 case atStart => exact ⟨0, Nat.zero_le _, rfl, Lib.hid (fun i hi => absurd hi (Nat.not_lt_zero _)), Below.refl _ _⟩
 case round =>
  obtain ⟨k, hk, rfl, HLO, hb⟩ := hrel
  have p0 : wr.cell? ⟨gp, 2, none⟩ = some (.slice (some ad) N.length cN) := Row.cell (Row.later hP0 hb) 2
  by_cases hlt : k < nv
  ·have b1 : decide ((k : Int) < nv) = true := decide_eq_true (by omega)
   have b2 : decide (k < nv) = true := decide_eq_true hlt
   go_wp2_with fail
   go_loopw [6, 7, 8, 18] (fun t _ _ j wi => ∃ m : Nat, m ≤ N.length ∧ t = .int .i64 (cntB (entB N r k) m : Nat) ∧ j = .int .i64 m ∧ Below w0.heap.size w0 wi) (fun _ _ _ j _ => N.length - (intOf j).toNat)
   case atStart => exact ⟨0, Nat.zero_le _, rfl, rfl, hb⟩
   case round =>
    clear hb p0
    obtain ⟨m, hm, rfl, rfl, hb⟩ := hrel
    have hPr := Row.later hP0 hb
    have hNr := hN0.later hb
    have p2 : wr.cell? ⟨gp, 2, none⟩ = some (.slice (some ad) N.length cN) := Row.cell hPr 2
    have hcl := cntB_le (entB N r k) m
    by_cases hlm : m < N.length
    ·obtain ⟨ad2, hA2, hal, T, cT, hvT, c0, c1, c2, c3, c4, c5, c6⟩ := hNr.cells hlm
     injection hA2 with hA2
     subst hA2
     obtain ⟨j, hj, hjp⟩ := HBS.out m hlm k
     obtain ⟨ad3, hA3, hal3, T3, cT3, hv3, _, _, d2, _⟩ := hNr.cells hj
     injection hA3 with hA3
     subst hA3
     have m1 : (0 : Int) ≤ m := by omega
     have m2 : (m : Int) < N.length := by omega
     have j1 : (0 : Int) ≤ j := by omega
     have j2 : (j : Int) < N.length := by omega
     have HCY := Lib.hid (cntB_yes (p := entB N r k) (n := m))
     have HCN := Lib.hid (cntB_no (p := entB N r k) (n := m))
     have HE1 : Hid (m = r → entB N r k m = decide ((k : Int) ∈ (nd N m).vars)) := Lib.hid fun e => by subst e; exact ent_root
     have HE2 := Lib.hid hjp
     clear hjp
     have hz1 := HZ.out m hlm
     have hz2 := HZ.out j hj
     generalize entB N r k m = B at HCY HCN HE1 HE2
     generalize cntB (entB N r k) m = t at HCY HCN hcl ⊢
     generalize (nd N j).vars = us at d2 HE2 hz2 hv3
     generalize nd N m = x at c0 c1 c2 c3 c4 c5 c6 HE1 HE2 hz1 hvT
     obtain ⟨K, at_, vs, sr, sd, pI, tp⟩ := x
     dsimp only at c0 c1 c2 c3 c4 c5 c6 HE1 HE2 hz1 hvT
     have v1 : IntKind.i64.wrap ((t : Int) + 1) = ((t + 1 : Nat) : Int) := by rw [show (t : Int) + 1 = ((t + 1 : Nat) : Int) by omega]; exact IntWalk.i64_in _ (by omega)
     go_upto_region 8 with fail
     have hb1 := below_alloc wr (.cells #[.int .i64 K, .int .i64 at_, .slice T vs.length cT, .int .i64 sr, .int .i64 sd, .int .i64 pI, .bool tp] 50)
     have hX1 : Row (wr.alloc (.cells #[.int .i64 K, .int .i64 at_, .slice T vs.length cT, .int .i64 sr, .int .i64 sd, .int .i64 pI, .bool tp] 50)) wr.heap.size 50 [.int .i64 K, .int .i64 at_, .slice T vs.length cT, .int .i64 sr, .int .i64 sd, .int .i64 pI, .bool tp] := Row.new _ _ _
     have hB1 := bthen hb hb1
     have hPq := Row.later hPr hb1
     have d2' := (hb1.cell (by rw [block_add]; exact hal3)).trans d2
     have hal4 : ad.block < (wr.alloc (.cells #[.int .i64 K, .int .i64 at_, .slice T vs.length cT, .int .i64 sr, .int .i64 sd, .int .i64 pI, .bool tp] 50)).heap.size := Nat.lt_of_lt_of_le hal3 hb1.size
     have HIV := Lib.hid (fun (y : World) (hy : Below (wr.alloc (.cells #[.int .i64 K, .int .i64 at_, .slice T vs.length cT, .int .i64 sr, .int .i64 sd, .int .i64 pI, .bool tp] 50)).heap.size (wr.alloc (.cells #[.int .i64 K, .int .i64 at_, .slice T vs.length cT, .int .i64 sr, .int .i64 sd, .int .i64 pI, .bool tp] 50)) y) => hasInts_any T vs cT k y hz1 ((hvT.later hb1).later hy))
     have HIU := Lib.hid (fun (y : World) (hy : Below (wr.alloc (.cells #[.int .i64 K, .int .i64 at_, .slice T vs.length cT, .int .i64 sr, .int .i64 sd, .int .i64 pI, .bool tp] 50)).heap.size (wr.alloc (.cells #[.int .i64 K, .int .i64 at_, .slice T vs.length cT, .int .i64 sr, .int .i64 sd, .int .i64 pI, .bool tp] 50)) y) => hasInts_any T3 us cT3 k y hz2 ((hv3.later hb1).later hy))
     generalize wr.heap.size = gx at hX1 ⊢
     generalize wr.alloc _ = w1 at hX1 hB1 hPq d2' hal4 HIV HIU ⊢
     clear c0 c1 c2 c3 c4 c5 c6 d2 hvT hv3 hPr hNr HBS HLO hb hb1 hal
     have HK : Hid (∀ y, Below w1.heap.size w1 y → Below w1.heap.size w1 y ∧ y.cell? ⟨gp, 2, none⟩ = some (.slice (some ad) N.length cN) ∧ y.cell? ⟨gp, 3, none⟩ = some (.int .i64 r) ∧ y.cell? ⟨gx, 2, none⟩ = some (.slice T vs.length cT) ∧ y.cell? ⟨gx, 5, none⟩ = some (.int .i64 pI) ∧ y.cell? ⟨(ad.add (j * 7)).block, (ad.add (j * 7)).off + 2, none⟩ = some (.slice T3 us.length cT3)) := Lib.hid fun y hy => ⟨hy, Row.cell (Row.later hPq hy) 2, Row.cell (Row.later hPq hy) 3, (hX1.later hy).cell 2, (hX1.later hy).cell 5, (hy.cell (by rw [block_add]; exact hal4)).trans d2'⟩
     clear p2
     refine wp_region_held_drew (S := (fun y : World => Below w1.heap.size w1 y ∧ y.cell? ⟨gp, 2, none⟩ = some (.slice (some ad) N.length cN) ∧ y.cell? ⟨gp, 3, none⟩ = some (.int .i64 r) ∧ y.cell? ⟨gx, 2, none⟩ = some (.slice T vs.length cT) ∧ y.cell? ⟨gx, 5, none⟩ = some (.int .i64 pI) ∧ y.cell? ⟨(ad.add (j * 7)).block, (ad.add (j * 7)).off + 2, none⟩ = some (.slice T3 us.length cT3))) (by kernel_rfl) (HK.out _ (Below.refl _ _).drew) (fun hHeld => ?_)
     refine kY 0 hHeld ?_
     simp only [Act.put, k0, k1, k2]
     refine kY 1 hHeld ?_
     simp only [Act.put, k0, k1, k2]
     refine kY 2 hHeld ?_
     simp only [Act.put, k0, k1, k2]
     refine kC 3 rfl (by kernel_rfl) (fun K hK => ?_)
     go_simp
     go_at_call 81
     refine (HIV.out _ hHeld.1).mono ?_
     rintro e2 wq ⟨rfl, rfl⟩
     go_wp2_with fail
     refine hK.out _ _ hHeld (fun hNew => ?_)
     clear hK K hHeld; have hHeld := hNew; clear hNew
     try simp only [Act.put, k0, k1, k2]
     by_cases q26 : (k : Int) ∈ vs
     ·have d26 := decide_eq_true q26
      have H26 := Lib.hid q26; clear q26; try simp only [d26]
      refine kY 4 hHeld ?_
      simp only [Act.put, k0, k1, k2]
      refine kY 5 hHeld ?_
      simp only [Act.put, k0, k1, k2]
      refine kY 6 hHeld ?_
      simp only [Act.put, k0, k1, k2]
      refine kY 7 hHeld ?_
      simp only [Act.put, k0, k1, k2]
      refine kY 8 hHeld ?_
      simp only [Act.put, k0, k1, k2]
      refine kY 9 hHeld ?_
      simp only [Act.put, k0, k1, k2]
      refine kY 10 hHeld ?_
      simp only [Act.put, k0, k1, k2]
      by_cases q33 : (m : Int) = r
      ·obtain ⟨d33, e33, f33⟩ := ceT q33
       have H33 := Lib.hid q33; clear q33; try simp only [d33, e33, f33]
       refine kY 11 hHeld ?_
       simp only [Act.put, k0, k1, k2]
       refine kN 2 [(12, 35), (13, 36), (14, 37), (15, 38), (16, 39), (17, 40), (18, 41), (19, 42), (20, 43), (21, 44), (22, 45), (23, 46)] rfl (by kernel_rfl) (fun _ _ _ _ h => h) hHeld ?_
       simp only [k3, k4, Act.put, k0, k1, k2]
       refine kY 24 hHeld ?_
       simp only [Act.put, k0, k1, k2]
       refine kY 25 hHeld ?_
       simp only [Act.put, k0, k1, k2]
       refine wpAnyH_done (by kernel_rfl) ?_ _
       have HB : B = true := by rw [HE1.out (by have := H33.out; omega), decide_eq_true H26.out]
       have HS := Lib.hid (HCY.out HB)
       have hBq := bthen hB1 hHeld.1
       clear HB HK HCN HCY HE1 HE2 HIV HIU hHeld
       go_wp2_with fail
       go_roundw
       case rel => exact ⟨m + 1, by omega, by rw [HS.out] <;> first | rfl | go_num | simp, by go_num, hBq⟩
       case measure => simp [intOf]; omega
      ·obtain ⟨d33, e33, f33⟩ := ceF q33
       have H33 := Lib.hid q33; clear q33; try simp only [d33, e33, f33]
       obtain ⟨hpj, HE3⟩ := HE2.out (fun c => H33.out (by omega))
       subst hpj
       replace HE3 := Lib.hid HE3
       refine kY 11 hHeld ?_
       simp only [Act.put, k0, k1, k2]
       refine kY 12 hHeld ?_
       simp only [Act.put, k0, k1, k2]
       refine kY 13 hHeld ?_
       simp only [Act.put, k0, k1, k2]
       refine kY 14 hHeld ?_
       simp only [Act.put, k0, k1, k2]
       refine kY 15 hHeld ?_
       simp only [Act.put, k0, k1, k2]
       refine kY 16 hHeld ?_
       simp only [Act.put, k0, k1, k2]
       refine kY 17 hHeld ?_
       simp only [Act.put, k0, k1, k2]
       refine kY 18 hHeld ?_
       simp only [Act.put, k0, k1, k2]
       refine kY 19 hHeld ?_
       simp only [Act.put, k0, k1, k2]
       refine kY 20 hHeld ?_
       simp only [Act.put, k0, k1, k2]
       refine kY 21 hHeld ?_
       simp only [Act.put, k0, k1, k2]
       refine kC 22 rfl (by kernel_rfl) (fun K hK => ?_)
       go_simp
       go_at_call 81
       refine (HIU.out _ hHeld.1).mono ?_
       rintro e2 wq ⟨rfl, rfl⟩
       go_wp2_with fail
       refine hK.out _ _ hHeld (fun hNew => ?_)
       clear hK K hHeld; have hHeld := hNew; clear hNew
       try simp only [Act.put, k0, k1, k2]
       by_cases q45 : (k : Int) ∈ us
       ·have d45 := decide_eq_true q45
        have H45 := Lib.hid q45; clear q45; try simp only [d45]
        refine kY 23 hHeld ?_
        simp only [Act.put, k0, k1, k2]
        refine kY 24 hHeld ?_
        simp only [Act.put, k0, k1, k2]
        refine kY 25 hHeld ?_
        simp only [Act.put, k0, k1, k2]
        refine wpAnyH_done (by kernel_rfl) ?_ _
        have HB : B = false := by rw [HE3.out, decide_eq_true H45.out, Bool.not_true, Bool.and_false]
        clear HE3
        have HS := Lib.hid (HCN.out HB)
        have hBq := bthen hB1 hHeld.1
        clear HB HK HCN HCY HE1 HE2 HIV HIU hHeld
        go_wp2_with fail
        go_roundw
        case rel => exact ⟨m + 1, by omega, by rw [HS.out], by go_num, hBq⟩
        case measure => simp [intOf]; omega
       ·have d45 := decide_eq_false q45
        have H45 := Lib.hid q45; clear q45; try simp only [d45]
        refine kY 23 hHeld ?_
        simp only [Act.put, k0, k1, k2]
        refine kY 24 hHeld ?_
        simp only [Act.put, k0, k1, k2]
        refine kY 25 hHeld ?_
        simp only [Act.put, k0, k1, k2]
        refine wpAnyH_done (by kernel_rfl) ?_ _
        have HB : B = true := by rw [HE3.out, decide_eq_false H45.out, decide_eq_true H26.out]; rfl
        clear HE3
        have HS := Lib.hid (HCY.out HB)
        have hBq := bthen hB1 hHeld.1
        clear HB HK HCN HCY HE1 HE2 HIV HIU hHeld
        go_wp2_with fail
        go_roundw
        case rel => exact ⟨m + 1, by omega, by rw [HS.out] <;> first | rfl | go_num | simp, by go_num, hBq⟩
        case measure => simp [intOf]; omega
     ·have d26 := decide_eq_false q26
      have H26 := Lib.hid q26; clear q26; try simp only [d26]
      refine kY 4 hHeld ?_
      simp only [Act.put, k0, k1, k2]
      refine kN 1 [(5, 28), (6, 29), (7, 30), (8, 31), (9, 32), (10, 33), (11, 34), (12, 35), (13, 36), (14, 37), (15, 38), (16, 39), (17, 40), (18, 41), (19, 42), (20, 43), (21, 44), (22, 45), (23, 46), (24, 47)] rfl (by kernel_rfl) (fun _ _ _ _ h => h) hHeld ?_
      simp only [k3, k4, Act.put, k0, k1, k2]
      refine kY 25 hHeld ?_
      simp only [Act.put, k0, k1, k2]
      refine wpAnyH_done (by kernel_rfl) ?_ _
      have HB : B = false := by
       by_cases e : m = r
       ·rw [HE1.out e, decide_eq_false H26.out]
       ·rw [(HE2.out e).2, decide_eq_false H26.out, Bool.false_and]
      have HS := Lib.hid (HCN.out HB)
      have hBq := bthen hB1 hHeld.1
      clear HB HK HCN HCY HE1 HE2 HIV HIU hHeld
      go_wp2_with fail
      go_roundw
      case rel => exact ⟨m + 1, by omega, by rw [HS.out], by go_num, hBq⟩
      case measure => simp [intOf]; omega
    ·obtain rfl : m = N.length := by omega
     have HNX : Hid (cntB (entB N r k) N.length ≤ 1 → ∀ v : Nat, v < k + 1 → cntB (entB N r v) N.length ≤ 1) := Lib.hid fun h v hv => by
      rcases Nat.lt_or_ge v k with d | d
      ·exact HLO.out v d
      ·obtain rfl : v = k := by omega
       exact h
     have HNO : Hid (¬ cntB (entB N r k) N.length ≤ 1 → ¬ PP) := Lib.hid fun h c => h (HVD.out.1 c k hlt)
     generalize cntB (entB N r k) N.length = t at HNX HNO hcl ⊢
     clear HLO HBS
     by_cases h1 : t ≤ 1
     ·have g1 : decide ((1 : Int) < t) = false := decide_eq_false (by omega)
      have g2 : decide (1 < t) = false := decide_eq_false (by omega)
      have HS := Lib.hid (HNX.out h1)
      clear HNX HNO h1
      go_wp2_with fail
      go_roundw
      case rel => exact ⟨k + 1, by omega, by go_num, HS, hb⟩
      case measure => simp [intOf]; omega
     ·have g1 : decide ((1 : Int) < t) = true := decide_eq_true (by omega)
      have g2 : decide (1 < t) = true := decide_eq_true (by omega)
      have HX := Lib.hid (HNO.out h1)
      clear HNX HNO h1
      go_wp2_with fail
      go_ret
      exact says_no HX.out hb
  ·obtain rfl : k = nv := by omega
   have b1 : decide ((k : Int) < k) = false := decide_eq_false (by omega)
   have HX := Lib.hid (HVD.out.2 HLO.out)
   clear HLO HBS
   go_wp2_with fail
   go_ret
   exact says_yes HX.out hb
end Go.Proofs.YtdemmjofggemhaaGreatDoor
/- plan.rightTops: properties 6 and 7. -/
set_option linter.unusedSimpArgs false
namespace Go.Proofs.YtdemmjofggemhaaGreatDoor
open Go.RowKit
section
variable {wr : World} {ops : Array Oper} {rest : List Oper} {o : Oper} {a : Act} {Q : Exit → Act → World → Prop}
theorem run_append_none_c {P : Program} {w : World} (base : Nat) (t ty e : TypeId) (i : TypeInfo) (size : Nat) (ht : P.underlying t = some (.slice e)) (hi : P.info? e = some i)
  (v : Value) (n c : Nat) (xs : List Value) (hown : w.ownsRow base e size v n xs) : (Builtin.append_ #[t, t] ty #[v, .slice none 0 c]).run P w = .ok v w := by
 rcases hown.2 with ⟨rfl, rfl⟩ | ⟨g, cap, cur, rfl, _, _, hnc, _⟩
 ·simp [Builtin.append_, run_underlying ht, sizeOf, typeInfo, hi, Builtin.lenOf, Builtin.firstCells]
 ·simp [Builtin.append_, run_underlying ht, sizeOf, typeInfo, hi, Builtin.lenOf, Builtin.firstCells, hnc, storeCells]
set_option maxRecDepth 100000 in
theorem app_rd (hgd : o.guard = none) (s x : Operand) (ho : o.op = .call { callee := .builtin .append, args := #[s, x], argTypes := #[26, 26] })
  (base B : Nat) (v : Value) (X : List Int) (A : Option Addr) (c : Nat) (Y : List Int) (hs : a.eval s = v) (hx : a.eval x = .slice A Y.length c) (hown : wr.ownsRow base 3 1 v X.length (is X)) (hR : Rd wr B A (is Y))
  (hn : X.length + Y.length ≤ 100000) (hbase : base ≤ wr.heap.size)
  (h : ∀ v' w', w'.ownsRow base 3 1 v' (X ++ Y).length (is (X ++ Y)) → Below base wr w' → wpList Tryz.prog ops Q rest (a.put o.dst v') w') : wpList Tryz.prog ops Q (o :: rest) a wr := by
 obtain ⟨i, hi, hz, hs1, hb1⟩ := info_parts Tryz.info_int
 have hE : is X ++ is Y = is (X ++ Y) := by simp [is]
 cases A with
 | none =>
  have hY : Y = [] := by
   cases Y with
   | nil => rfl
   | cons y Y => obtain ⟨_, e, _⟩ := hR 0 (by simp [is]); cases e
  subst hY
  refine wpList_plain hgd fun K hK => ?_
  have hrun := run_append_none_c (P := Tryz.prog) (w := wr) base 26 o.type 3 i 1 Tryz.underlying26 hi v X.length c (is X) hown
  unfold Oper.wp
  simp only [List.length_nil] at hx
  simp [execOp, ho, resolve, invoke, builtin, hs, hx, hrun, Result.andThen]
  refine hK _ _ (h v wr ?_ (Below.refl _ _))
  rw [List.append_nil]; exact hown
 | some ad =>
  refine wpList_append_own_at _ hgd s x 26 ho base 3 i (.int .i64 0) 1 8 Tryz.underlying26 hi hz hs1 hb1 rfl (by decide) v X.length (is X) hs hown ad Y.length c (is Y) hx (by simp) hR.news (is_one Y) (by unfold maxLen; omega) (by omega) hbase ?_
  intro v' w' hown' hg _ hat
  refine h v' w' ?_ ((Below.refl _ _).grown hg hbase fun k hk => (hown.lt k hk).1)
  rw [List.length_append, ← hE]; exact hown'
end
def seenL (N : List PNd) : Nat → List Int
 | 0 => []
 | k + 1 => if (nd N k).top = true then seenL N k ++ (nd N k).vars else seenL N k
theorem mem_seenL {N : List PNd} {h : Int} : ∀ {k : Nat}, h ∈ seenL N k ↔ HasTo N h k
 | 0 => by simp [seenL, HasTo]
 | k + 1 => by
  have ih := mem_seenL (N := N) (h := h) (k := k)
  rw [has_next, ← ih]
  show h ∈ (if (nd N k).top = true then seenL N k ++ (nd N k).vars else seenL N k) ↔ _
  by_cases c : (nd N k).top = true
  ·rw [if_pos c, List.mem_append]; simp [c]
  ·rw [if_neg c]; simp [c]
theorem seenL_len {N : List PNd} (hv : ∀ i, i < N.length → (nd N i).vars.length ≤ 32) : ∀ k, k ≤ N.length → (seenL N k).length ≤ 32 * k
 | 0, _ => by simp [seenL]
 | k + 1, hk => by
  have h1 := seenL_len hv k (by omega)
  have h2 := hv k (by omega)
  unfold seenL
  split
  ·rw [List.length_append]; omega
  ·omega
theorem seenL_yes {N : List PNd} {k : Nat} (h : (nd N k).top = true) : seenL N (k + 1) = seenL N k ++ (nd N k).vars := by
 show (if _ then _ else _) = _
 rw [if_pos h]
theorem seenL_no {N : List PNd} {k : Nat} (h : (nd N k).top = false) : seenL N (k + 1) = seenL N k := by
 show (if _ then _ else _) = _
 rw [if_neg (by rw [h]; decide)]
theorem vars_short {E : List (BitVec 32)} {N : List PNd} {rk : Nat → Nat} (F : ForR N rk) (ho : ∀ i, i < N.length → OneOk E N i) : ∀ i, i < N.length → (nd N i).vars.length ≤ 32 := by
 have key : ∀ m i, rk i ≤ m → i < N.length → (nd N i).vars.length ≤ 32 := by
  intro m
  induction m with
  | zero =>
   intro i hm hi
   rcases Nat.lt_or_ge i E.length with c | c
   ·rw [((ho i hi).1 c).2.2.1]; exact lst_len _
   ·have hs : ∃ x, x ∈ chl (nd N i) := by
     rcases (ho i hi).2 c with q | q
     ·exact ⟨(nd N i).source, by simp [chl, q.1]⟩
     ·exact ⟨(nd N i).source, by simp [chl, q.1]⟩
    obtain ⟨x, hx⟩ := hs
    obtain ⟨k, _, _, hlt⟩ := F.below i hi x hx
    omega
  | succ m ih =>
   intro i hm hi
   rcases Nat.lt_or_ge i E.length with c | c
   ·rw [((ho i hi).1 c).2.2.1]; exact lst_len _
   ·rcases (ho i hi).2 c with q | q
    ·obtain ⟨k, hk, hkN, hlt⟩ := F.below i hi (nd N i).source (by simp [chl, q.1])
     have h1 := ih k (by omega) hkN
     have h2 := q.2.2.2.2.2
     unfold vrs at h2
     rw [hk, Int.toNat_natCast] at h2
     omega
    ·obtain ⟨k, hk, hkN, hlt⟩ := F.below i hi (nd N i).source (by simp [chl, q.1])
     have h1 := ih k (by omega) hkN
     have h2 := q.2.2.2.2.1
     unfold vrs at h2
     rw [hk, Int.toNat_natCast] at h2
     rw [h2]; exact h1
 exact fun i hi => key _ i (Nat.le_refl _) hi
theorem tops1_any (gp gc : Nat) (vv : Value) (AH : Option Addr) (H : List Int) (ch : Nat) (AN : Option Addr) (n cN : Nat) (rt : Int) (vt : Value) (x : Int) (w : World) (hl : H.length ≤ 35184372087808) (hc : w.cell? ⟨gc, 0, none⟩ = some (.pointer (some ⟨gp, 0, none⟩))) (hP : PRow w gp vv (.slice AH H.length ch) AN n cN rt vt) (hH : Rd w w.heap.size AH (is H)) :
  Calls Tryz.prog 83 #[.int .i64 x, .pointer (some ⟨gc, 0, none⟩)] w fun e w' => e = .returned (.bool (!decide (x ∈ H))) ∧ Below w.heap.size w w' := by
 have q1 : w.cell? ⟨gp, 1, none⟩ = some (.slice AH H.length ch) := Row.cell hP 1
 have HI := Lib.hid (hasInts_any AH H ch x w hl hH)
 generalize decide (x ∈ H) = b at HI ⊢
 go_enter Tryz.func83, Tryz.ntmps83
 go_wp2_with fail
 refine HI.out.mono ?_
 rintro e w' ⟨rfl, rfl⟩
 go_wp2_with fail
 go_ret
 exact ⟨rfl, Below.refl _ _⟩
theorem enter_tops1 (args : Array Value) (w : World) : (callFunc 83 args).run Tryz.prog w = .ok (.enter 83 args) w := by go_simp
set_option maxRecDepth 100000 in
set_option maxHeartbeats 8000000 in
theorem righttops_any (gp : Nat) (vv : Value) (AH : Option Addr) (ch : Nat) (AN AT : Option Addr) (cN ct : Nat) (H TP : List Int) (N : List PNd) (r : Nat) (w : World) (hr : r < N.length) (hl : N.length ≤ 64) (hhl : H.length ≤ 35184372087808) (htl : TP.length ≤ 35184372087808) (hv32 : ∀ i, i < N.length → (nd N i).vars.length ≤ 32)
  (kids : Kids N) (T : TreeOk N r) (hP : PRow w gp vv (.slice AH H.length ch) AN N.length cN r (.slice AT TP.length ct)) (hH : Rd w w.heap.size AH (is H)) (hT : Rd w w.heap.size AT (is TP)) (hN : NdR w w.heap.size AN N) :
  Calls Tryz.prog 52 #[.pointer (some ⟨gp, 0, none⟩)] w (Says (TopsOk N H r TP) w) := by
 have HTI := Lib.hid (tops_iff (N := N) (H := H) (T := TP) (r := r))
 have HPI := Lib.hid T.parIn
 obtain ⟨rk, F, hrk⟩ := T.forR kids hr
 have hol := ordF_rlen F N.length r hr
 have HOR := Lib.hid (fun (y : World) (hp : PRow y gp vv (.slice AH H.length ch) AN N.length cN r (.slice AT TP.length ct)) (hy : NdR y y.heap.size AN N) => plan_order_any gp vv (.slice AH H.length ch) AN N cN r (.slice AT TP.length ct) rk (fun i hi _ x hx => F.below i hi x hx) (fun f i => Nat.le_trans (ordF_rany F f i) (by omega)) N.length r y hr hrk hp hy)
 have HSL := Lib.hid (seenL_len hv32)
 have HV32 := Lib.hid hv32
 clear kids T F hrk hv32
 generalize TopsOk N H r TP = PP at HTI ⊢
 have hgp := hP.lt
 go_enter Tryz.func52, Tryz.ntmps52
 go_upto_region 1 with fail
 have hb0 := below_alloc w (.cells #[.pointer (some ⟨gp, 0, none⟩)] 126)
 have hC0 : Row (w.alloc (.cells #[.pointer (some ⟨gp, 0, none⟩)] 126)) w.heap.size 126 [.pointer (some ⟨gp, 0, none⟩)] := Row.new_ (xs := [.pointer (some ⟨gp, 0, none⟩)]) (by simp)
 have hP0 := Row.later hP hb0
 have hN0 := hN.later hb0
 have hH0 := hH.later hb0
 have hT0 := hT.later hb0
 generalize w.alloc _ = w0 at hb0 hC0 hP0 hN0 hH0 hT0 ⊢
 obtain ⟨ad, hA, _⟩ := hN0.cells hr
 subst hA
 clear hN hH hT hP
 have HKC : Hid (∀ y, Below w0.heap.size w0 y → y.cell? ⟨w.heap.size, 0, none⟩ = some (.pointer (some ⟨gp, 0, none⟩)) ∧ y.cell? ⟨gp, 1, none⟩ = some (.slice AH H.length ch) ∧ y.cell? ⟨gp, 2, none⟩ = some (.slice (some ad) N.length cN) ∧ y.cell? ⟨gp, 3, none⟩ = some (.int .i64 r) ∧ y.cell? ⟨gp, 4, none⟩ = some (.slice AT TP.length ct)) := Lib.hid fun y hy => ⟨(hC0.later hy).cell 0, Row.cell (Row.later hP0 hy) 1, Row.cell (Row.later hP0 hy) 2, Row.cell (Row.later hP0 hy) 3, Row.cell (Row.later hP0 hy) 4⟩
 obtain ⟨p0, _, p2, _⟩ := HKC.out _ (Below.refl _ _)
 go_wp2_with fail
 clear p0 p2
 go_loopw [3, 4, 5, 13] (fun v _ _ x wr => ∃ k : Nat, k ≤ N.length ∧ x = .int .i64 k ∧ Hid (∀ i, i < k → TopN N H r i) ∧ wr.ownsRow w0.heap.size 3 1 v (seenL N k).length (is (seenL N k)) ∧ Below w0.heap.size w0 wr) (fun _ _ _ x _ => N.length - (intOf x).toNat)
 case atStart => exact ⟨0, Nat.zero_le _, rfl, Lib.hid (fun i hi => absurd hi (Nat.not_lt_zero _)), World.ownsRow_nil _ _ _ _, Below.refl _ _⟩
 case round =>
  obtain ⟨k, hk, rfl, HLO, ho, hb⟩ := hrel
  by_cases hlt : k < N.length
  ·have b1 : decide ((k : Int) < N.length) = true := decide_eq_true (by omega)
   have b2 : decide (k < N.length) = true := decide_eq_true hlt
   have b3 : (0 : Int) ≤ k := by omega
   have b4 : (k : Int) < N.length := by omega
   have hNr := hN0.later hb
   obtain ⟨ad2, hA2, hal, TV, cV, hvT, c0, c1, c2, c3, c4, c5, c6⟩ := hNr.cells hlt
   injection hA2 with hA2
   subst hA2
   obtain ⟨j, hj, hjp⟩ : ∃ j : Nat, j < N.length ∧ (k ≠ r → (nd N k).parent = j) := by
    by_cases e : k = r
    ·exact ⟨r, hr, fun c => absurd e c⟩
    ·obtain ⟨j, hp, hj⟩ := HPI.out k hlt e
     exact ⟨j, hj, fun _ => hp⟩
   obtain ⟨ad3, hA3, hal3, _, _, _, _, _, _, _, _, _, d6⟩ := hNr.cells hj
   injection hA3 with hA3
   subst hA3
   have j1 : (0 : Int) ≤ j := by omega
   have j2 : (j : Int) < N.length := by omega
   have HTN : Hid (TopN N H r k ↔ ((nd N k).top = true → ((k ≠ r → (nd N j).top = true) ∧ ∀ v ∈ (nd N k).vars, v ∈ H))) := Lib.hid (by
    unfold TopN
    by_cases e : k = r
    ·simp [e]
    ·rw [hjp e, Int.toNat_natCast])
   have HPJ := Lib.hid hjp
   clear hjp
   have h32 := HV32.out k hlt
   have hsl := HSL.out k hk
   have HNXT := Lib.hid (fun h => lt_next (P := TopN N H r) HLO.out (k := k) h)
   have HNO : Hid (¬ TopN N H r k → ¬ PP) := Lib.hid fun h c => h ((HTI.out.1 c).2.1 k hlt)
   have HS1 := Lib.hid (seenL_yes (N := N) (k := k))
   have HS0 := Lib.hid (seenL_no (N := N) (k := k))
   obtain ⟨TT, hTT⟩ : ∃ TT, TopN N H r k = TT := ⟨_, rfl⟩
   rw [hTT] at HTN HNXT HNO
   obtain ⟨S1, hS1⟩ : ∃ S, seenL N (k + 1) = S := ⟨_, rfl⟩
   rw [hS1] at HS1 HS0
   have HSE := Lib.hid hS1
   obtain ⟨tj, htj⟩ : ∃ t, (nd N j).top = t := ⟨_, rfl⟩
   rw [htj] at d6 HTN
   clear htj HLO hTT hS1 HTI
   generalize seenL N k = S0 at ho HS1 HS0 hsl
   generalize nd N k = x at c0 c1 c2 c3 c4 c5 c6 HTN HPJ h32 HS1 HS0 hvT
   obtain ⟨K, at_, vs, sr, sd, pI, tp⟩ := x
   dsimp only at c0 c1 c2 c3 c4 c5 c6 HTN HPJ h32 HS1 HS0 hvT
   go_upto_region 5 with fail
   have hb1 := below_alloc wr (.cells #[.int .i64 K, .int .i64 at_, .slice TV vs.length cV, .int .i64 sr, .int .i64 sd, .int .i64 pI, .bool tp] 50)
   have hX1 : Row (wr.alloc (.cells #[.int .i64 K, .int .i64 at_, .slice TV vs.length cV, .int .i64 sr, .int .i64 sd, .int .i64 pI, .bool tp] 50)) wr.heap.size 50 [.int .i64 K, .int .i64 at_, .slice TV vs.length cV, .int .i64 sr, .int .i64 sd, .int .i64 pI, .bool tp] := Row.new _ _ _
   have hB1 := bthen hb hb1
   have ho1 := own_below ho hb1
   have hvT1 := hvT.later hb1
   have d6' := (hb1.cell (by rw [block_add]; exact hal3)).trans d6
   have hal4 : ad.block < (wr.alloc (.cells #[.int .i64 K, .int .i64 at_, .slice TV vs.length cV, .int .i64 sr, .int .i64 sd, .int .i64 pI, .bool tp] 50)).heap.size := Nat.lt_of_lt_of_le hal3 hb1.size
   generalize wr.heap.size = gx at hX1 ⊢
   generalize wr.alloc _ = w1 at hX1 hB1 ho1 hvT1 d6' hal4 ⊢
   clear c0 c1 c2 c3 c4 c5 c6 d6 hvT hb hb1 hNr hal ho
   have x6 : w1.cell? ⟨gx, 6, none⟩ = some (.bool tp) := hX1.cell 6
   cases tp
   ·have HT1 := Lib.hid (HNXT.out (HTN.out.2 fun c => Bool.noConfusion c))
    have HS2 := Lib.hid (HSE.out.trans (HS0.out rfl))
    clear HNXT HNO HTN HS1 HS0 HSE HPJ
    go_wp2_with fail
    go_roundw
    case rel => exact ⟨k + 1, by omega, by go_num, HT1, by rw [HS2.out]; exact ho1, hB1⟩
    case measure => simp [intOf]; omega
   ·have HTN2 : Hid (TT ↔ ((k ≠ r → tj = true) ∧ ∀ v ∈ vs, v ∈ H)) := Lib.hid (by rw [HTN.out]; simp)
    have HS2 := Lib.hid (HSE.out.trans (HS1.out rfl))
    have HBJ : Hid (tj = true ↔ tj = true) := Lib.hid Iff.rfl
    obtain ⟨bf, hbf⟩ : ∃ b, anyTo (fun c => !decide (pz vs c ∈ H)) vs.length = b := ⟨_, rfl⟩
    have HBF : Hid (bf = true ↔ ¬ ∀ v ∈ vs, v ∈ H) := Lib.hid (by
     rw [← hbf, anyTo_iff, all_pz]
     constructor
     ·rintro ⟨c, hc, h⟩ q
      rw [decide_eq_true (q c hc)] at h
      cases h
     ·intro h
      apply Classical.byContradiction
      intro q
      exact h fun c hc => Classical.byContradiction fun d => q ⟨c, hc, by rw [decide_eq_false d]; rfl⟩)
    have HCF := Lib.hid (fun (y : World) (hy : Below w1.heap.size w1 y) => containsFn_int 83 #[.pointer (some ⟨w.heap.size, 0, none⟩)] (fun c => !decide (pz vs c ∈ H)) TV vs cV y (by omega) (hvT1.later hy) enter_tops1 fun c _ wz hz => tops1_any gp w.heap.size vv AH H ch (some ad) N.length cN r (.slice AT TP.length ct) (pz vs c) wz hhl (HKC.out wz (hB1.trans ((hy.trans (hz.mono hy.size)).mono hB1.size))).1 (Row.later hP0 (hB1.trans ((hy.trans (hz.mono hy.size)).mono hB1.size))) (hH0.later (hB1.trans ((hy.trans (hz.mono hy.size)).mono hB1.size))))
    rw [hbf] at HCF
    have HK : Hid (∀ y, Below w1.heap.size w1 y → Below w1.heap.size w1 y ∧ (y.cell? ⟨w.heap.size, 0, none⟩ = some (.pointer (some ⟨gp, 0, none⟩)) ∧ y.cell? ⟨gp, 1, none⟩ = some (.slice AH H.length ch) ∧ y.cell? ⟨gp, 2, none⟩ = some (.slice (some ad) N.length cN) ∧ y.cell? ⟨gp, 3, none⟩ = some (.int .i64 r) ∧ y.cell? ⟨gp, 4, none⟩ = some (.slice AT TP.length ct)) ∧ y.cell? ⟨gx, 2, none⟩ = some (.slice TV vs.length cV) ∧ y.cell? ⟨gx, 5, none⟩ = some (.int .i64 pI) ∧ y.cell? ⟨(ad.add (j * 7)).block, (ad.add (j * 7)).off + 6, none⟩ = some (.bool tj)) := Lib.hid fun y hy => ⟨hy, HKC.out y (bthen hB1 hy), (hX1.later hy).cell 2, (hX1.later hy).cell 5, (hy.cell (by rw [block_add]; exact hal4)).trans d6'⟩
    have hwd := HK.out _ (Below.refl _ _).drew
    clear HTN HS1 HS0 HSE hbf
    go_upto_region 6 with fail
    go_cut [4, 5, 44] (fun i n b wx => ∃ bad : Bool, i = .int .i64 k ∧ n = .pointer (some ⟨gx, 0, none⟩) ∧ b = .bool bad ∧ Hid (bad = true ↔ ¬ ((k ≠ r → tj = true) ∧ ∀ v ∈ vs, v ∈ H)) ∧ Below w1.heap.size w1 wx)
    case first =>
     clear HNXT HNO HTN2 HS2 d6' x6 hX1 ho1 hvT1
     refine wp_region_held_drew (S := (fun y : World => Below w1.heap.size w1 y ∧ (y.cell? ⟨w.heap.size, 0, none⟩ = some (.pointer (some ⟨gp, 0, none⟩)) ∧ y.cell? ⟨gp, 1, none⟩ = some (.slice AH H.length ch) ∧ y.cell? ⟨gp, 2, none⟩ = some (.slice (some ad) N.length cN) ∧ y.cell? ⟨gp, 3, none⟩ = some (.int .i64 r) ∧ y.cell? ⟨gp, 4, none⟩ = some (.slice AT TP.length ct)) ∧ y.cell? ⟨gx, 2, none⟩ = some (.slice TV vs.length cV) ∧ y.cell? ⟨gx, 5, none⟩ = some (.int .i64 pI) ∧ y.cell? ⟨(ad.add (j * 7)).block, (ad.add (j * 7)).off + 6, none⟩ = some (.bool tj))) (by kernel_rfl) hwd (fun hHeld => ?_)
     refine kY 0 hHeld ?_
     simp only [Act.put, k0, k1, k2]
     refine kY 1 hHeld ?_
     simp only [Act.put, k0, k1, k2]
     refine kY 2 hHeld ?_
     simp only [Act.put, k0, k1, k2]
     refine kY 3 hHeld ?_
     simp only [Act.put, k0, k1, k2]
     refine kY 4 hHeld ?_
     simp only [Act.put, k0, k1, k2]
     refine kY 5 hHeld ?_
     simp only [Act.put, k0, k1, k2]
     by_cases q26 : (k : Int) = r
     ·obtain ⟨d26, e26, f26⟩ := ceT q26
      have H26 := Lib.hid q26; clear q26; try simp only [d26, e26, f26]
      refine kY 6 hHeld ?_
      simp only [Act.put, k0, k1, k2]
      refine kN 7 [(7, 28), (8, 29), (9, 30), (10, 31), (11, 32), (12, 33), (13, 34), (14, 35), (15, 36), (16, 37)] rfl (by kernel_rfl) (fun _ _ _ _ h => h) hHeld ?_
      simp only [k3, k4, Act.put, k0, k1, k2]
      refine kY 17 hHeld ?_
      simp only [Act.put, k0, k1, k2]
      refine kY 18 hHeld ?_
      simp only [Act.put, k0, k1, k2]
      refine kY 19 hHeld ?_
      simp only [Act.put, k0, k1, k2]
      refine kY 20 hHeld ?_
      simp only [Act.put, k0, k1, k2]
      refine kY 21 hHeld ?_
      simp only [Act.put, k0, k1, k2]
      refine kC 22 rfl (by kernel_rfl) (fun K hK => ?_)
      go_simp
      go_at_call 82
      refine (HCF.out _ hHeld.1).mono ?_
      rintro e2 wq ⟨rfl, hbq⟩
      have hbq2 := bthen hHeld.1 hbq
      go_wp2_with fail
      refine hK.out _ _ (HK.out _ hbq2) (fun hNew => ?_)
      clear hK K hHeld; have hHeld := hNew; clear hNew
      try simp only [Act.put, k0, k1, k2]
      cases bf
      ·have H43 := hidF HBF; clear HBF
       refine kY 23 hHeld ?_
       simp only [Act.put, k0, k1, k2]
       refine wpAnyH_done (by kernel_rfl) ?_ _
       have HKR : Hid (k = r) := Lib.hid (by have := H26.out; omega)
       go_wp2_with fail
       go_meet
       exact ⟨_, rfl, rfl, rfl, Lib.hid ⟨fun c => Bool.noConfusion c, fun c => absurd ⟨fun h => absurd HKR.out h, Classical.not_not.1 H43.out⟩ c⟩, hHeld.1⟩
      ·have H43 := hidT HBF; clear HBF
       refine kY 23 hHeld ?_
       simp only [Act.put, k0, k1, k2]
       refine wpAnyH_done (by kernel_rfl) ?_ _
       go_wp2_with fail
       go_meet
       exact ⟨_, rfl, rfl, rfl, Lib.hid ⟨fun _ c => H43.out c.2, fun _ => rfl⟩, hHeld.1⟩
     ·obtain ⟨d26, e26, f26⟩ := ceF q26
      have H26 := Lib.hid q26; clear q26; try simp only [d26, e26, f26]
      have hpj := HPJ.out (fun c => H26.out (by omega))
      subst hpj
      refine kY 6 hHeld ?_
      simp only [Act.put, k0, k1, k2]
      refine kY 7 hHeld ?_
      simp only [Act.put, k0, k1, k2]
      refine kY 8 hHeld ?_
      simp only [Act.put, k0, k1, k2]
      refine kY 9 hHeld ?_
      simp only [Act.put, k0, k1, k2]
      refine kY 10 hHeld ?_
      simp only [Act.put, k0, k1, k2]
      refine kY 11 hHeld ?_
      simp only [Act.put, k0, k1, k2]
      refine kY 12 hHeld ?_
      simp only [Act.put, k0, k1, k2]
      refine kY 13 hHeld ?_
      simp only [Act.put, k0, k1, k2]
      refine kY 14 hHeld ?_
      simp only [Act.put, k0, k1, k2]
      refine kY 15 hHeld ?_
      simp only [Act.put, k0, k1, k2]
      cases tj
      ·have H36 := hidF HBJ; clear HBJ
       refine kY 16 hHeld ?_
       simp only [Act.put, k0, k1, k2]
       refine kY 17 hHeld ?_
       simp only [Act.put, k0, k1, k2]
       refine kY 18 hHeld ?_
       simp only [Act.put, k0, k1, k2]
       refine kN 1 [(19, 40), (20, 41), (21, 42), (22, 43)] rfl (by kernel_rfl) (fun _ _ _ _ h => h) hHeld ?_
       simp only [k3, k4, Act.put, k0, k1, k2]
       refine kY 23 hHeld ?_
       simp only [Act.put, k0, k1, k2]
       refine wpAnyH_done (by kernel_rfl) ?_ _
       have HKR : Hid (¬ k = r) := Lib.hid fun c => H26.out (by omega)
       go_wp2_with fail
       go_meet
       exact ⟨_, rfl, rfl, rfl, Lib.hid ⟨fun _ c => by have := c.1 HKR.out; first | exact Bool.noConfusion this | simp at this, fun _ => rfl⟩, hHeld.1⟩
      ·have H36 := hidT HBJ; clear HBJ
       refine kY 16 hHeld ?_
       simp only [Act.put, k0, k1, k2]
       refine kY 17 hHeld ?_
       simp only [Act.put, k0, k1, k2]
       refine kY 18 hHeld ?_
       simp only [Act.put, k0, k1, k2]
       refine kY 19 hHeld ?_
       simp only [Act.put, k0, k1, k2]
       refine kY 20 hHeld ?_
       simp only [Act.put, k0, k1, k2]
       refine kY 21 hHeld ?_
       simp only [Act.put, k0, k1, k2]
       refine kC 22 rfl (by kernel_rfl) (fun K hK => ?_)
       go_simp
       go_at_call 82
       refine (HCF.out _ hHeld.1).mono ?_
       rintro e2 wq ⟨rfl, hbq⟩
       have hbq2 := bthen hHeld.1 hbq
       go_wp2_with fail
       refine hK.out _ _ (HK.out _ hbq2) (fun hNew => ?_)
       clear hK K hHeld; have hHeld := hNew; clear hNew
       try simp only [Act.put, k0, k1, k2]
       cases bf
       ·have H43 := hidF HBF; clear HBF
        refine kY 23 hHeld ?_
        simp only [Act.put, k0, k1, k2]
        refine wpAnyH_done (by kernel_rfl) ?_ _
        go_wp2_with fail
        go_meet
        exact ⟨_, rfl, rfl, rfl, Lib.hid ⟨fun c => Bool.noConfusion c, fun c => absurd ⟨fun _ => by first | rfl | trivial, Classical.not_not.1 H43.out⟩ c⟩, hHeld.1⟩
       ·have H43 := hidT HBF; clear HBF
        refine kY 23 hHeld ?_
        simp only [Act.put, k0, k1, k2]
        refine wpAnyH_done (by kernel_rfl) ?_ _
        go_wp2_with fail
        go_meet
        exact ⟨_, rfl, rfl, rfl, Lib.hid ⟨fun _ c => H43.out c.2, fun _ => rfl⟩, hHeld.1⟩
    case rest =>
     obtain ⟨bad, rfl, rfl, rfl, HBAD, hbc⟩ := hcut
     obtain ⟨w5, hw5⟩ : ∃ wo, wo = wc := ⟨_, rfl⟩
     subst hw5
     have hB5 := bthen hB1 hbc
     clear HK HPJ HBJ HBF HCF hwd d6' x6
     cases bad
     ·have HT1 := Lib.hid (HNXT.out (HTN2.out.2 (Classical.not_not.1 (hidF HBAD).out)))
      have x2 : w5.cell? ⟨gx, 2, none⟩ = some (.slice TV vs.length cV) := (hX1.later hbc).cell 2
      have hoq := own_below ho1 hbc
      have hvq := hvT1.later hbc
      have hszq := hB5.size
      clear HNXT HNO HTN2 HBAD hX1 ho1 hvT1 hbc
      go_wp2_with ((with_reducible show wpList _ _ _ _ _ _); refine app_rd rfl (.tmp 45) (.tmp 47) rfl w0.heap.size w5.heap.size _ S0 TV cV vs rfl rfl hoq hvq (by omega) hszq ?_)
      intro v7 w7 ho7 hb7
      go_wp2_with fail
      go_roundw
      case rel => exact ⟨k + 1, by omega, by go_num, HT1, by rw [HS2.out, List.length_append]; exact ho7, hB5.trans hb7⟩
      case measure => simp [intOf]; omega
     ·have HX := Lib.hid (HNO.out (by rw [HTN2.out]; exact (hidT HBAD).out))
      clear HNO HNXT HTN2 HBAD
      go_wp2_with fail
      go_ret
      exact says_no HX.out (bthen hb0 hB5)
  ·obtain rfl : k = N.length := by omega
   have b1 : decide ((N.length : Int) < N.length) = false := decide_eq_false (by omega)
   have hsl := HSL.out N.length (Nat.le_refl _)
   have HT2 : Hid (PP ↔ (nd N r).top = true ∧ (∀ k, k < H.length → HasTo N (pz H k) N.length) ∧ TP = ordF N N.length r) := Lib.hid (by
    rw [HTI.out]
    exact ⟨fun h => ⟨h.1, h.2.2⟩, fun h => ⟨h.1, HLO.out, h.2⟩⟩)
   have HMS : Hid (∀ h, h ∈ seenL N N.length ↔ HasTo N h N.length) := Lib.hid fun h => mem_seenL
   clear HTI HLO HPI HSL HV32
   generalize seenL N N.length = SS at ho hsl HMS
   obtain ⟨As, cs, rfl, _, _, hSr, _⟩ := Rd.of_own ho
   obtain ⟨p0, p1, p2, _⟩ := HKC.out _ hb
   have hbr := hb
   go_wp2_with fail
   clear p0 p1 p2
   go_loopw [7, 55] (fun _ x wi => ∃ c : Nat, c ≤ H.length ∧ x = .int .i64 c ∧ Hid (∀ d, d < c → HasTo N (pz H d) N.length) ∧ Below wr.heap.size wr wi) (fun _ x _ => H.length - (intOf x).toNat)
   case atStart => exact ⟨0, Nat.zero_le _, rfl, Lib.hid (fun i hi => absurd hi (Nat.not_lt_zero _)), Below.refl _ _⟩
   case round =>
    clear b1
    obtain ⟨c, hc, rfl, HLO, hbz⟩ := hrel
    have hBz := bthen hb hbz
    by_cases hlc : c < H.length
    ·have b1 : decide ((c : Int) < H.length) = true := decide_eq_true (by omega)
     have b2 : decide (c < H.length) = true := decide_eq_true hlc
     have c1 : (0 : Int) ≤ c := by omega
     have c2 : (c : Int) < H.length := by omega
     obtain ⟨ah, hAh, _, hhc⟩ := (hH0.later hBz).p_at hlc
     have HIN := Lib.hid (hasInts_any As SS cs (pz H c) _ (by omega) (hSr.later hbz))
     have HNXT := Lib.hid (fun h => lt_next (P := fun d => HasTo N (pz H d) N.length) HLO.out (k := c) h)
     have HNO : Hid (¬ HasTo N (pz H c) N.length → ¬ PP) := Lib.hid fun h q => h ((HT2.out.1 q).2.1 c hlc)
     have HMC := Lib.hid (HMS.out (pz H c))
     generalize HasTo N (pz H c) N.length = HH at HNXT HNO HMC
     generalize pz H c = x at hhc HIN HMC
     subst hAh
     clear HLO
     by_cases hm : x ∈ SS
     ·have HS := Lib.hid (HNXT.out (HMC.out.1 hm))
      rw [decide_eq_true hm] at HIN
      clear HNXT HNO HMC hm
      go_wp2_with fail
      refine HIN.out.mono ?_
      rintro e2 wq ⟨rfl, rfl⟩
      go_wp2_with fail
      go_roundw
      case rel => exact ⟨c + 1, by omega, by go_num, HS, hbz⟩
      case measure => simp [intOf]; omega
     ·have HX := Lib.hid (HNO.out fun q => hm (HMC.out.2 q))
      rw [decide_eq_false hm] at HIN
      clear HNXT HNO HMC hm
      go_wp2_with fail
      refine HIN.out.mono ?_
      rintro e2 wq ⟨rfl, rfl⟩
      go_wp2_with fail
      go_ret
      exact says_no HX.out (bthen hb0 hBz)
    ·obtain rfl : c = H.length := by omega
     have b1 : decide ((H.length : Int) < H.length) = false := decide_eq_false (by omega)
     have HT3 : Hid (PP ↔ (nd N r).top = true ∧ TP = ordF N N.length r) := Lib.hid (by
      rw [HT2.out]
      exact ⟨fun h => ⟨h.1, h.2.2⟩, fun h => ⟨h.1, HLO.out, h.2⟩⟩)
     clear HT2 HLO HMS hSr ho
     obtain ⟨ad2, hA2, hal, _, _, _, _, _, _, _, _, _, c6⟩ := hN0.cells hr
     injection hA2 with hA2
     subst hA2
     obtain ⟨tr, htr⟩ : ∃ t, (nd N r).top = t := ⟨_, rfl⟩
     rw [htr] at c6 HT3
     clear htr
     have HBT : Hid (tr = true ↔ tr = true) := Lib.hid Iff.rfl
     have HO2 := Lib.hid (fun (y : World) (hy : Below w0.heap.size w0 y) => HOR.out y (Row.later hP0 hy) (hN0.later hy))
     generalize ordF N N.length (r : Int) = OO at HT3 HO2 hol
     have HSI := Lib.hid (fun (y : World) (A2 : Option Addr) (n2 : Nat) (hy : Below w0.heap.size w0 y) (h2 : Rd y y.heap.size A2 (is OO)) => eqInts_any AT A2 TP OO ct n2 y htl (by omega) (hT0.later hy) h2)
     have HK : Hid (∀ y, Below w0.heap.size w0 y → Below w0.heap.size w0 y ∧ (y.cell? ⟨w.heap.size, 0, none⟩ = some (.pointer (some ⟨gp, 0, none⟩)) ∧ y.cell? ⟨gp, 1, none⟩ = some (.slice AH H.length ch) ∧ y.cell? ⟨gp, 2, none⟩ = some (.slice (some ad) N.length cN) ∧ y.cell? ⟨gp, 3, none⟩ = some (.int .i64 r) ∧ y.cell? ⟨gp, 4, none⟩ = some (.slice AT TP.length ct)) ∧ y.cell? ⟨(ad.add (r * 7)).block, (ad.add (r * 7)).off + 6, none⟩ = some (.bool tr)) := Lib.hid fun y hy => ⟨hy, HKC.out y hy, (hy.cell (by rw [block_add]; exact hal)).trans c6⟩
     have hwd := HK.out _ hBz.drew
     have r1 : (0 : Int) ≤ r := by omega
     have r2 : (r : Int) < N.length := by omega
     clear HOR hb hbz c6 hBz hbr
     go_upto_region 16 with fail
     refine wp_region_held_drew (S := (fun y : World => Below w0.heap.size w0 y ∧ (y.cell? ⟨w.heap.size, 0, none⟩ = some (.pointer (some ⟨gp, 0, none⟩)) ∧ y.cell? ⟨gp, 1, none⟩ = some (.slice AH H.length ch) ∧ y.cell? ⟨gp, 2, none⟩ = some (.slice (some ad) N.length cN) ∧ y.cell? ⟨gp, 3, none⟩ = some (.int .i64 r) ∧ y.cell? ⟨gp, 4, none⟩ = some (.slice AT TP.length ct)) ∧ y.cell? ⟨(ad.add (r * 7)).block, (ad.add (r * 7)).off + 6, none⟩ = some (.bool tr))) (by kernel_rfl) hwd (fun hHeld => ?_)
     refine kY 0 hHeld ?_
     simp only [Act.put, k0, k1, k2]
     refine kY 1 hHeld ?_
     simp only [Act.put, k0, k1, k2]
     refine kY 2 hHeld ?_
     simp only [Act.put, k0, k1, k2]
     refine kY 3 hHeld ?_
     simp only [Act.put, k0, k1, k2]
     refine kY 4 hHeld ?_
     simp only [Act.put, k0, k1, k2]
     refine kY 5 hHeld ?_
     simp only [Act.put, k0, k1, k2]
     refine kY 6 hHeld ?_
     simp only [Act.put, k0, k1, k2]
     refine kY 7 hHeld ?_
     simp only [Act.put, k0, k1, k2]
     refine kY 8 hHeld ?_
     simp only [Act.put, k0, k1, k2]
     refine kY 9 hHeld ?_
     simp only [Act.put, k0, k1, k2]
     refine kY 10 hHeld ?_
     simp only [Act.put, k0, k1, k2]
     cases tr
     ·have H74 := hidF HBT; clear HBT
      refine kY 11 hHeld ?_
      simp only [Act.put, k0, k1, k2]
      refine kN 2 [(12, 76), (13, 77), (14, 78), (15, 79), (16, 80), (17, 81), (18, 82), (19, 83), (20, 84), (21, 85), (22, 86)] rfl (by kernel_rfl) (fun _ _ _ _ h => h) hHeld ?_
      simp only [k3, k4, Act.put, k0, k1, k2]
      refine kY 23 hHeld ?_
      simp only [Act.put, k0, k1, k2]
      refine kY 24 hHeld ?_
      simp only [Act.put, k0, k1, k2]
      refine wpAnyH_done (by kernel_rfl) ?_ _
      have HX : Hid (¬ PP) := Lib.hid fun q => H74.out (by first | exact (HT3.out.1 q).1 | (have := (HT3.out.1 q).1; simp at this))
      go_wp2_with fail
      go_ret
      exact says_no HX.out (bthen hb0 hHeld.1)
     ·have H74 := hidT HBT; clear HBT
      refine kY 11 hHeld ?_
      simp only [Act.put, k0, k1, k2]
      refine kY 12 hHeld ?_
      simp only [Act.put, k0, k1, k2]
      refine kY 13 hHeld ?_
      simp only [Act.put, k0, k1, k2]
      refine kY 14 hHeld ?_
      simp only [Act.put, k0, k1, k2]
      refine kY 15 hHeld ?_
      simp only [Act.put, k0, k1, k2]
      refine kY 16 hHeld ?_
      simp only [Act.put, k0, k1, k2]
      refine kY 17 hHeld ?_
      simp only [Act.put, k0, k1, k2]
      refine kY 18 hHeld ?_
      simp only [Act.put, k0, k1, k2]
      refine kY 19 hHeld ?_
      simp only [Act.put, k0, k1, k2]
      refine kY 20 hHeld ?_
      simp only [Act.put, k0, k1, k2]
      refine kC 21 rfl (by kernel_rfl) (fun K hK => ?_)
      go_simp
      go_at_call 30
      refine (HO2.out _ hHeld.1).mono ?_
      rintro e2 wq ⟨v2, rfl, ho2, hbq⟩
      have hbq2 := bthen hHeld.1 hbq
      obtain ⟨A2, n2, rfl, _, _, hR2, _⟩ := Rd.of_own ho2
      clear ho2
      go_wp2_with fail
      refine hK.out _ _ (HK.out _ hbq2) (fun hNew => ?_)
      clear hK K hHeld; have hHeld := hNew; clear hNew
      try simp only [Act.put, k0, k1, k2]
      refine kC 22 rfl (by kernel_rfl) (fun K hK => ?_)
      go_simp
      go_at_call 79
      refine (HSI.out _ A2 n2 hHeld.1 hR2).mono ?_
      rintro e2 wq2 ⟨rfl, hbq⟩
      have hbq3 := bthen hHeld.1 hbq
      go_wp2_with fail
      refine hK.out _ _ (HK.out _ hbq3) (fun hNew => ?_)
      clear hK K hHeld; have hHeld := hNew; clear hNew
      try simp only [Act.put, k0, k1, k2]
      by_cases q86 : TP = OO
      ·obtain ⟨d86, e86, f86⟩ := ceT q86
       have H86 := Lib.hid q86; clear q86; try simp only [d86, e86, f86]
       refine kY 23 hHeld ?_
       simp only [Act.put, k0, k1, k2]
       refine kY 24 hHeld ?_
       simp only [Act.put, k0, k1, k2]
       refine wpAnyH_done (by kernel_rfl) ?_ _
       have HX := Lib.hid (HT3.out.2 ⟨by first | rfl | trivial, H86.out⟩)
       go_wp2_with fail
       go_ret
       exact says_yes HX.out (bthen hb0 hHeld.1)
      ·obtain ⟨d86, e86, f86⟩ := ceF q86
       have H86 := Lib.hid q86; clear q86; try simp only [d86, e86, f86]
       refine kY 23 hHeld ?_
       simp only [Act.put, k0, k1, k2]
       refine kY 24 hHeld ?_
       simp only [Act.put, k0, k1, k2]
       refine wpAnyH_done (by kernel_rfl) ?_ _
       have HX : Hid (¬ PP) := Lib.hid fun q => H86.out (HT3.out.1 q).2
       go_wp2_with fail
       go_ret
       exact says_no HX.out (bthen hb0 hHeld.1)
end Go.Proofs.YtdemmjofggemhaaGreatDoor
