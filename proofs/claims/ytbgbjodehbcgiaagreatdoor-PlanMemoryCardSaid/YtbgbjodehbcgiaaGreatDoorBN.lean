/- Several texts in one: R09Same L18Same LPMakes PMem LPMemory. -/
import Derived.Test.YtbgbjodehbcgiaaGreatDoorQStr
import Derived.BigQuiet
import Derived.Deep.QuietTactic
import Derived.Deep.RegionHeld3
import Derived.Test.YtbgbjodehbcgiaaGreatDoorBO
import Derived.Deep.CutBlock
import Derived.Deep.DeepCutAuto
import Derived.Test.YtbgbjodehbcgiaaGreatDoorRegUntil
import Derived.Test.YtbgbjodehbcgiaaGreatDoorBL
import Derived.Test.YtbgbjodehbcgiaaGreatDoorBS
import Derived.Test.YtbgbjodehbcgiaaGreatDoorPMake
/- osierref09.SameTexts, SameAtom and Same: the contracts (of the last two: a query held against itself). -/
namespace Go.Proofs.YtbgbjodehbcgiaaGreatDoor
open Go.RowKit

theorem take_texts (L : List ByteArray) {k : Nat} (h : k < L.length) : L.take (k + 1) = L.take k ++ [nm L k] := by
  rw [List.take_add_one, List.getElem?_eq_getElem h, nm_eq L k h]; rfl
theorem sameTexts_any (A A' : Option Addr) (L M : List ByteArray) (c c' : Nat) (w : World) (hl : L.length ≤ 35184372087808) (hl' : M.length ≤ 35184372087808) (hL : Rd w w.heap.size A (ss L)) (hM : Rd w w.heap.size A' (ss M)) :
    Calls Tryz.prog 48 #[.slice A L.length c, .slice A' M.length c'] w fun e w' => e = .returned (.bool (decide (L = M))) ∧ Below w.heap.size w w' := by
  by_cases hlen : L.length = M.length
  · have hne : ((L.length : Int) != (M.length : Int)) = false := by simp [hlen]
    have HL := Lib.hid hlen
    clear hlen
    go_enter Tryz.func48, Tryz.ntmps48
    go_wp2_with fail
    go_loopw [5] (fun i wr => ∃ k : Nat, k ≤ L.length ∧ i = .int .i64 k ∧ Hid (L.take k = M.take k) ∧ ∃ n, wr = w.drewN n) (fun i _ => L.length - (intOf i).toNat)
    case atStart => exact ⟨0, Nat.zero_le _, rfl, rfl, 0, rfl⟩
    case round =>
      obtain ⟨k, hk, rfl, heq, n, rfl⟩ := hrel
      by_cases hlt : k < L.length
      · have hlt' : k < M.length := by have := HL.out; omega
        obtain ⟨ad, hA, _, hc⟩ := hL.s_at hlt
        obtain ⟨ad', hA', _, hc'⟩ := hM.s_at hlt'
        subst hA
        subst hA'
        have hs := take_texts L hlt
        have hs' := take_texts M hlt'
        have hat : L = M → nm L k = nm M k := fun h => by subst h; rfl
        generalize nm L k = x at hc hs hat
        generalize nm M k = y at hc' hs' hat
        have HS := Lib.hid hs
        have HS' := Lib.hid hs'
        have HA := Lib.hid hat
        clear hs hs' hat
        have b1 : (0 : Int) ≤ k := by omega
        have b2 : (k : Int) < L.length := by omega
        have b3 : (k : Int) < M.length := by omega
        by_cases hxy : x = y
        · have hb := str_beq x y
          rw [decide_eq_true hxy] at hb
          have hne' : (x.toList != y.toList) = false := by rw [bne, hb]; rfl
          have HX := Lib.hid hxy
          clear hxy
          go_wp2_with fail
          go_quiet (fail)
          go_wp2_with fail
          go_roundw
          case rel => exact ⟨k + 1, by omega, by go_num, by show _ = _; rw [HS.out, HS'.out, heq.out, HX.out], _, rfl⟩
          case measure => simp [intOf]; omega
        · have hb := str_beq x y
          rw [decide_eq_false hxy] at hb
          have hne' : (x.toList != y.toList) = true := by rw [bne, hb]; rfl
          have HD : Hid (decide (L = M) = false) := Lib.hid (decide_eq_false fun e => hxy (HA.out e))
          clear hxy
          go_wp2_with fail
          go_quiet (fail)
          go_wp2_with fail
          go_ret
          exact ⟨congrArg (fun z => Ending.returned (.bool z)) HD.out.symm, below_drewN (below_drewN (Below.refl _ _) n) _⟩
      · obtain rfl : k = L.length := by omega
        have HD : Hid (decide (L = M) = true) := Lib.hid (decide_eq_true (by
          have h1 := heq.out
          rw [List.take_length, List.take_of_length_le (by have := HL.out; omega)] at h1
          exact h1))
        go_wp2_with fail
        go_ret
        exact ⟨congrArg (fun z => Ending.returned (.bool z)) HD.out.symm, below_drewN (Below.refl _ _) n⟩
  · have hne : ((L.length : Int) != (M.length : Int)) = true := by rw [bne_iff_ne]; omega
    have HD : Hid (decide (L = M) = false) := Lib.hid (decide_eq_false fun e => hlen (by rw [e]))
    clear hlen
    go_enter Tryz.func48, Tryz.ntmps48
    go_wp2_with fail
    go_ret
    exact ⟨congrArg (fun z => Ending.returned (.bool z)) HD.out.symm, Below.refl _ _⟩
set_option maxRecDepth 100000 in
theorem sameAtom_any (rel : ByteArray) (T T' : Option Addr) (ts : List Tm) (c c' : Nat) (w : World) (hl : ts.length ≤ 2932031007402) (hT : Rd w w.heap.size T (tms ts)) (hT' : Rd w w.heap.size T' (tms ts)) :
    Calls Tryz.prog 50 #[.agg #[.string rel, .slice T ts.length c], .agg #[.string rel, .slice T' ts.length c']] w fun e w' => e = .returned (.bool true) ∧ Below w.heap.size w w' := by
  go_enter Tryz.func50, Tryz.ntmps50
  go_upto_region 1 with fail
  have hb0 : Below w.heap.size w ((w.alloc (.cells #[.string rel, .slice T ts.length c] 65)).alloc (.cells #[.string rel, .slice T' ts.length c'] 65)) := (below_alloc w _).alloc (by simp) _
  have hA0 : Row ((w.alloc (.cells #[.string rel, .slice T ts.length c] 65)).alloc (.cells #[.string rel, .slice T' ts.length c'] 65)) w.heap.size 65 [.string rel, .slice T ts.length c] := (Row.new w _ _).alloc _
  have hC0 : Row ((w.alloc (.cells #[.string rel, .slice T ts.length c] 65)).alloc (.cells #[.string rel, .slice T' ts.length c'] 65)) (w.heap.size + 1) 65 [.string rel, .slice T' ts.length c'] := Row.new_ (by simp)
  generalize (w.alloc _).alloc _ = w0 at hb0 hA0 hC0 ⊢
  have a0 : w0.cell? ⟨w.heap.size, 0, none⟩ = some (.string rel) := hA0.cell 0
  have a1 : w0.cell? ⟨w.heap.size, 1, none⟩ = some (.slice T ts.length c) := hA0.cell 1
  have c0 : w0.cell? ⟨w.heap.size + 1, 0, none⟩ = some (.string rel) := hC0.cell 0
  have c1 : w0.cell? ⟨w.heap.size + 1, 1, none⟩ = some (.slice T' ts.length c') := hC0.cell 1
  have hT0 := hT.later hb0
  have hT0' := hT'.later hb0
  go_wp2_with fail
  go_loopw [5] (fun i wr => ∃ k : Nat, k ≤ ts.length ∧ i = .int .i64 k ∧ ∃ n, wr = w0.drewN n) (fun i _ => ts.length - (intOf i).toNat)
  case atStart => exact ⟨0, Nat.zero_le _, rfl, 0, rfl⟩
  case round =>
    obtain ⟨k, hk, rfl, n, rfl⟩ := hrel
    by_cases hlt : k < ts.length
    · obtain ⟨ad, hA, _, d0, d1, d2, d3⟩ := hT0.t_cells hlt
      obtain ⟨ad', hA', _, e0, e1, e2, e3⟩ := hT0'.t_cells hlt
      subst hA
      subst hA'
      generalize tm ts k = t at d0 d1 d2 d3 e0 e1 e2 e3
      have b1 : (0 : Int) ≤ k := by omega
      have b2 : (k : Int) < ts.length := by omega
      go_wp2_with fail
      go_quiet (fail)
      go_wp2_with fail
      go_roundw
      case rel => exact ⟨k + 1, by omega, by go_num, _, rfl⟩
      case measure => simp [intOf]; omega
    · obtain rfl : k = ts.length := by omega
      go_wp2_with fail
      go_ret
      exact ⟨by first | rfl | trivial, below_drewN hb0 n⟩
set_option maxRecDepth 100000 in
theorem same9_any (q : Qy) (AH AH' AA AA' : Option Addr) (cH cH' cA cA' : Nat) (w : World) (hq : SzQ q) (hH : Rd w w.heap.size AH (ss q.head)) (hH' : Rd w w.heap.size AH' (ss q.head)) (hA : Ats w w.heap.size AA q.atoms) (hA' : Ats w w.heap.size AA' q.atoms) :
    Calls Tryz.prog 14 #[.agg #[.string q.name, .slice AH q.head.length cH, .slice AA q.atoms.length cA], .agg #[.string q.name, .slice AH' q.head.length cH', .slice AA' q.atoms.length cA']] w fun e w' => e = .returned (.bool true) ∧ Below w.heap.size w w' := by
  have hf := hq.few
  have hfa := hq.fewA
  have HQ := Lib.hid (fun a ha => hq.atoms a ha)
  go_enter Tryz.func14, Tryz.ntmps14
  go_upto_region 1 with fail
  have hb0 : Below w.heap.size w ((w.alloc (.cells #[.string q.name, .slice AH q.head.length cH, .slice AA q.atoms.length cA] 25)).alloc (.cells #[.string q.name, .slice AH' q.head.length cH', .slice AA' q.atoms.length cA'] 25)) := (below_alloc w _).alloc (by simp) _
  have hP0 : Row ((w.alloc (.cells #[.string q.name, .slice AH q.head.length cH, .slice AA q.atoms.length cA] 25)).alloc (.cells #[.string q.name, .slice AH' q.head.length cH', .slice AA' q.atoms.length cA'] 25)) w.heap.size 25 [.string q.name, .slice AH q.head.length cH, .slice AA q.atoms.length cA] := (Row.new w _ _).alloc _
  have hC0 : Row ((w.alloc (.cells #[.string q.name, .slice AH q.head.length cH, .slice AA q.atoms.length cA] 25)).alloc (.cells #[.string q.name, .slice AH' q.head.length cH', .slice AA' q.atoms.length cA'] 25)) (w.heap.size + 1) 25 [.string q.name, .slice AH' q.head.length cH', .slice AA' q.atoms.length cA'] := Row.new_ (by simp)
  generalize (w.alloc _).alloc _ = w0 at hb0 hP0 hC0 ⊢
  have p0 : w0.cell? ⟨w.heap.size, 0, none⟩ = some (.string q.name) := hP0.cell 0
  have p1 : w0.cell? ⟨w.heap.size, 1, none⟩ = some (.slice AH q.head.length cH) := hP0.cell 1
  have p2 : w0.cell? ⟨w.heap.size, 2, none⟩ = some (.slice AA q.atoms.length cA) := hP0.cell 2
  have c0 : w0.cell? ⟨w.heap.size + 1, 0, none⟩ = some (.string q.name) := hC0.cell 0
  have c1 : w0.cell? ⟨w.heap.size + 1, 1, none⟩ = some (.slice AH' q.head.length cH') := hC0.cell 1
  have c2 : w0.cell? ⟨w.heap.size + 1, 2, none⟩ = some (.slice AA' q.atoms.length cA') := hC0.cell 2
  have hST := sameTexts_any AH AH' q.head q.head cH cH' w0 (by omega) (by omega) (hH.later hb0) (hH'.later hb0)
  rw [decide_eq_true (rfl : q.head = q.head)] at hST
  have HST := Lib.hid hST
  clear hST
  go_wp2_with fail
  refine HST.out.mono ?_
  rintro e w1 ⟨rfl, hb1⟩
  have hB1 := bthen hb0 hb1
  have hP1 := hP0.later hb1
  have hC1 := hC0.later hb1
  have hA1 := hA.later hB1
  have hA1' := hA'.later hB1
  clear HST p0 p1 p2 c0 c1 c2 hP0 hC0 hb0 hb1 hH hH' hA hA'
  have p2 : w1.cell? ⟨w.heap.size, 2, none⟩ = some (.slice AA q.atoms.length cA) := hP1.cell 2
  have c2 : w1.cell? ⟨w.heap.size + 1, 2, none⟩ = some (.slice AA' q.atoms.length cA') := hC1.cell 2
  go_wp2_with fail
  go_loopw [5] (fun i wr => ∃ k : Nat, k ≤ q.atoms.length ∧ i = .int .i64 k ∧ Below w1.heap.size w1 wr) (fun i _ => q.atoms.length - (intOf i).toNat)
  case atStart => exact ⟨0, Nat.zero_le _, rfl, Below.refl _ _⟩
  case round =>
    obtain ⟨k, hk, rfl, hb⟩ := hrel
    have hPr := hP1.later hb
    have hCr := hC1.later hb
    have p2 : wr.cell? ⟨w.heap.size, 2, none⟩ = some (.slice AA q.atoms.length cA) := hPr.cell 2
    have c2 : wr.cell? ⟨w.heap.size + 1, 2, none⟩ = some (.slice AA' q.atoms.length cA') := hCr.cell 2
    by_cases hlt : k < q.atoms.length
    · obtain ⟨ad, e1, hal, d0, T, cT, d1, hT, _⟩ := (hA1.later hb) k hlt
      obtain ⟨ad', e1', hal', d0', T', cT', d1', hT', _⟩ := (hA1'.later hb) k hlt
      subst e1
      subst e1'
      have hsz := (HQ.out (am q.atoms k) (by rw [← am_eq _ k hlt]; exact List.getElem_mem _)).few
      generalize am q.atoms k = a at d0 d1 hT d0' d1' hT' hsz
      have b1 : (0 : Int) ≤ k := by omega
      have b2 : (k : Int) < q.atoms.length := by omega
      have HSA := Lib.hid (sameAtom_any a.rel T T' a.terms cT cT' wr.drew hsz hT hT')
      have HK : Hid (∀ y, Below wr.drew.heap.size wr.drew y → y.cell? ⟨w.heap.size, 2, none⟩ = some (.slice (some ad) q.atoms.length cA) ∧ y.cell? ⟨w.heap.size + 1, 2, none⟩ = some (.slice (some ad') q.atoms.length cA') ∧ y.cell? (ad.add (k * 2)) = some (.string a.rel) ∧ y.cell? ⟨(ad.add (k * 2)).block, (ad.add (k * 2)).off + 1, none⟩ = some (.slice T a.terms.length cT) ∧ y.cell? (ad'.add (k * 2)) = some (.string a.rel) ∧ y.cell? ⟨(ad'.add (k * 2)).block, (ad'.add (k * 2)).off + 1, none⟩ = some (.slice T' a.terms.length cT')) := Lib.hid fun y hy =>
        have hk := fun (p : Addr) (hp : p.block < wr.drew.heap.size) => hy.cell (p := p) hp
        ⟨(hk _ hPr.lt).trans p2, (hk _ hCr.lt).trans c2, (hk _ (by rw [block_add]; exact hal)).trans d0, (hk _ (by rw [block_add]; exact hal)).trans d1, (hk _ (by rw [block_add]; exact hal')).trans d0', (hk _ (by rw [block_add]; exact hal')).trans d1'⟩
      go_upto_region 6 with fail
      go_region_held3 (fun y : World => y.cell? ⟨w.heap.size, 2, none⟩ = some (.slice (some ad) q.atoms.length cA) ∧ y.cell? ⟨w.heap.size + 1, 2, none⟩ = some (.slice (some ad') q.atoms.length cA') ∧ y.cell? (ad.add (k * 2)) = some (.string a.rel) ∧ y.cell? ⟨(ad.add (k * 2)).block, (ad.add (k * 2)).off + 1, none⟩ = some (.slice T a.terms.length cT) ∧ y.cell? (ad'.add (k * 2)) = some (.string a.rel) ∧ y.cell? ⟨(ad'.add (k * 2)).block, (ad'.add (k * 2)).off + 1, none⟩ = some (.slice T' a.terms.length cT'))
        (first | exact HK.out _ (Below.refl _ _) | exact HK.out _ hb5 | assumption)
        (first | (go_at_call 50; refine HSA.out.mono ?_; rintro e w5 ⟨rfl, hb5⟩))
      all_goals
        have hB5 := hb.drew.trans (hb5.mono hb.size)
        go_wp2_with fail
        go_roundw
        case rel => exact ⟨k + 1, by omega, by go_num, hB5⟩
        case measure => simp [intOf]; omega
    · obtain rfl : k = q.atoms.length := by omega
      go_wp2_with fail
      go_ret
      exact ⟨by first | rfl | trivial, bthen hB1 hb⟩
end Go.Proofs.YtbgbjodehbcgiaaGreatDoor

/- osierlaw18.same: a plan held against itself. -/
namespace Go.Proofs.YtbgbjodehbcgiaaGreatDoor
open Go.RowKit

def rnC (n : PNd) (T : Option Addr) (c : Nat) : List Value := [.int .i64 n.kind, .int .i64 n.atom, .slice T n.vars.length c, .int .i64 n.source, .int .i64 n.side, .int .i64 n.parent, .bool n.top]
set_option maxRecDepth 100000 in
set_option maxHeartbeats 8000000 in
theorem same18_any (p : PPlan) (AV AH AN AT AV' AH' AN' AT' : Option Addr) (cV cH cN cT cV' cH' cN' cT' : Nat) (w : World) (hp : SzP p) (hV : Rd w w.heap.size AV (ss p.vars)) (hH : Rd w w.heap.size AH (is p.head)) (hN : NdR w w.heap.size AN p.nodes) (hT : Rd w w.heap.size AT (is p.tops))
    (hV' : Rd w w.heap.size AV' (ss p.vars)) (hH' : Rd w w.heap.size AH' (is p.head)) (hN' : NdR w w.heap.size AN' p.nodes) (hT' : Rd w w.heap.size AT' (is p.tops)) :
    Calls Tryz.prog 12 #[.agg #[.slice AV p.vars.length cV, .slice AH p.head.length cH, .slice AN p.nodes.length cN, .int .i64 p.root, .slice AT p.tops.length cT], .agg #[.slice AV' p.vars.length cV', .slice AH' p.head.length cH', .slice AN' p.nodes.length cN', .int .i64 p.root, .slice AT' p.tops.length cT']] w fun e w' => e = .returned (.bool true) ∧ Below w.heap.size w w' := by
  obtain ⟨V, Hd, N, rt, Tp⟩ := p
  have z1 := hp.vars
  have z2 := hp.head
  have z3 := hp.nodes
  have z5 := hp.tops
  have HZ := Lib.hid hp.nvars
  clear hp
  simp only at z1 z2 z3 z5 HZ hV hH hN hT hV' hH' hN' hT' ⊢
  go_enter Tryz.func12, Tryz.ntmps12
  go_upto_region 1 with fail
  have hb0 : Below w.heap.size w ((w.alloc (.cells #[.slice AV V.length cV, .slice AH Hd.length cH, .slice AN N.length cN, .int .i64 rt, .slice AT Tp.length cT] 36)).alloc (.cells #[.slice AV' V.length cV', .slice AH' Hd.length cH', .slice AN' N.length cN', .int .i64 rt, .slice AT' Tp.length cT'] 36)) := (below_alloc w _).alloc (by simp) _
  have hP0 : Row ((w.alloc (.cells #[.slice AV V.length cV, .slice AH Hd.length cH, .slice AN N.length cN, .int .i64 rt, .slice AT Tp.length cT] 36)).alloc (.cells #[.slice AV' V.length cV', .slice AH' Hd.length cH', .slice AN' N.length cN', .int .i64 rt, .slice AT' Tp.length cT'] 36)) w.heap.size 36 [.slice AV V.length cV, .slice AH Hd.length cH, .slice AN N.length cN, .int .i64 rt, .slice AT Tp.length cT] := (Row.new w _ _).alloc _
  have hQ0 : Row ((w.alloc (.cells #[.slice AV V.length cV, .slice AH Hd.length cH, .slice AN N.length cN, .int .i64 rt, .slice AT Tp.length cT] 36)).alloc (.cells #[.slice AV' V.length cV', .slice AH' Hd.length cH', .slice AN' N.length cN', .int .i64 rt, .slice AT' Tp.length cT'] 36)) (w.heap.size + 1) 36 [.slice AV' V.length cV', .slice AH' Hd.length cH', .slice AN' N.length cN', .int .i64 rt, .slice AT' Tp.length cT'] := Row.new_ (by simp)
  generalize (w.alloc _).alloc _ = w0 at hb0 hP0 hQ0 ⊢
  have p0 : w0.cell? ⟨w.heap.size, 0, none⟩ = some (.slice AV V.length cV) := hP0.cell 0
  have q0 : w0.cell? ⟨w.heap.size + 1, 0, none⟩ = some (.slice AV' V.length cV') := hQ0.cell 0
  have hST := sameTexts_any AV AV' V V cV cV' w0 (by omega) (by omega) (hV.later hb0) (hV'.later hb0)
  rw [decide_eq_true (rfl : V = V)] at hST
  have HST := Lib.hid hST
  clear hST
  go_wp2_with fail
  refine HST.out.mono ?_
  rintro e w1 ⟨rfl, hb1⟩
  have hB1 := bthen hb0 hb1
  have hP1 := hP0.later hb1
  have hQ1 := hQ0.later hb1
  clear HST p0 q0 hP0 hQ0 hb0 hb1
  have p1 : w1.cell? ⟨w.heap.size, 1, none⟩ = some (.slice AH Hd.length cH) := hP1.cell 1
  have q1 : w1.cell? ⟨w.heap.size + 1, 1, none⟩ = some (.slice AH' Hd.length cH') := hQ1.cell 1
  have hSI := sameInts_any AH AH' Hd Hd cH cH' w1 z2 z2 (hH.later hB1) (hH'.later hB1)
  rw [beq_self_eq_true] at hSI
  have HSI := Lib.hid hSI
  clear hSI
  go_wp2_with fail
  refine HSI.out.mono ?_
  rintro e w2 ⟨rfl, n2, rfl⟩
  have hb2 : Below w1.heap.size w1 (w1.drewN n2) := below_drewN (Below.refl _ _) n2
  have hB2 := bthen hB1 hb2
  have hP2 := hP1.later hb2
  have hQ2 := hQ1.later hb2
  clear HSI p1 q1 hP1 hQ1 hb2 hB1
  generalize w1.drewN n2 = w2 at hB2 hP2 hQ2 ⊢
  have p3 : w2.cell? ⟨w.heap.size, 3, none⟩ = some (.int .i64 rt) := hP2.cell 3
  have q3 : w2.cell? ⟨w.heap.size + 1, 3, none⟩ = some (.int .i64 rt) := hQ2.cell 3
  have p4 : w2.cell? ⟨w.heap.size, 4, none⟩ = some (.slice AT Tp.length cT) := hP2.cell 4
  have q4 : w2.cell? ⟨w.heap.size + 1, 4, none⟩ = some (.slice AT' Tp.length cT') := hQ2.cell 4
  have hSI := sameInts_any AT AT' Tp Tp cT cT' w2 z5 z5 (hT.later hB2) (hT'.later hB2)
  rw [beq_self_eq_true] at hSI
  have HSI := Lib.hid hSI
  clear hSI
  go_wp2_with fail
  refine HSI.out.mono ?_
  rintro e w3 ⟨rfl, n3, rfl⟩
  have hb3 : Below w2.heap.size w2 (w2.drewN n3) := below_drewN (Below.refl _ _) n3
  have hB3 := bthen hB2 hb3
  have hP3 := hP2.later hb3
  have hQ3 := hQ2.later hb3
  clear HSI p3 q3 p4 q4 hP2 hQ2 hb3 hB2
  generalize w2.drewN n3 = w3 at hB3 hP3 hQ3 ⊢
  have p2 : w3.cell? ⟨w.heap.size, 2, none⟩ = some (.slice AN N.length cN) := hP3.cell 2
  have q2 : w3.cell? ⟨w.heap.size + 1, 2, none⟩ = some (.slice AN' N.length cN') := hQ3.cell 2
  have hN3 := hN.later hB3
  have hN3' := hN'.later hB3
  clear hV hH hN hT hV' hH' hN' hT'
  go_wp2_with fail
  go_loopw [49] (fun i wr => ∃ k : Nat, k ≤ N.length ∧ i = .int .i64 k ∧ Below w3.heap.size w3 wr) (fun i _ => N.length - (intOf i).toNat)
  case atStart => exact ⟨0, Nat.zero_le _, rfl, Below.refl _ _⟩
  case round =>
    obtain ⟨k, hk, rfl, hb⟩ := hrel
    have hPr := hP3.later hb
    have hQr := hQ3.later hb
    by_cases hlt : k < N.length
    · obtain ⟨ad, e1, hal, T, cT, hvT, c0, c1, c2, c3, c4, c5, c6⟩ := (hN3.later hb).cells hlt
      obtain ⟨ad', e1', hal', T', cT', hvT', d0, d1, d2, d3, d4, d5, d6⟩ := (hN3'.later hb).cells hlt
      subst e1
      subst e1'
      have hzv := HZ.out (nd N k) (by rw [← nd_eq N k hlt]; exact List.getElem_mem _)
      generalize nd N k = n at c0 c1 c2 c3 c4 c5 c6 d0 d1 d2 d3 d4 d5 d6 hvT hvT' hzv
      have b1 : (0 : Int) ≤ k := by omega
      have b2 : (k : Int) < N.length := by omega
      have r2 : wr.cell? ⟨w.heap.size, 2, none⟩ = some (.slice (some ad) N.length cN) := hPr.cell 2
      have r2' : wr.cell? ⟨w.heap.size + 1, 2, none⟩ = some (.slice (some ad') N.length cN') := hQr.cell 2
      go_upto_region 6 with fail
      go_cut [5, 6, 7] (fun i x y wx => ∃ gx gy, i = .int .i64 k ∧ x = .pointer (some ⟨gx, 0, none⟩) ∧ y = .pointer (some ⟨gy, 0, none⟩) ∧ Row wx gx 96 (rnC n T cT) ∧ Row wx gy 96 (rnC n T' cT') ∧ Below wr.heap.size wr wx)
      case first =>
        have HK : Hid (∀ y, Below wr.drew.heap.size wr.drew y → y.cell? ⟨w.heap.size, 2, none⟩ = some (.slice (some ad) N.length cN) ∧ y.cell? ⟨w.heap.size + 1, 2, none⟩ = some (.slice (some ad') N.length cN') ∧ y.cell? (ad.add (k * 7)) = some (.int .i64 n.kind) ∧ y.cell? ⟨(ad.add (k * 7)).block, (ad.add (k * 7)).off + 1, none⟩ = some (.int .i64 n.atom) ∧ y.cell? ⟨(ad.add (k * 7)).block, (ad.add (k * 7)).off + 2, none⟩ = some (.slice T n.vars.length cT) ∧ y.cell? ⟨(ad.add (k * 7)).block, (ad.add (k * 7)).off + 3, none⟩ = some (.int .i64 n.source) ∧ y.cell? ⟨(ad.add (k * 7)).block, (ad.add (k * 7)).off + 4, none⟩ = some (.int .i64 n.side) ∧ y.cell? ⟨(ad.add (k * 7)).block, (ad.add (k * 7)).off + 5, none⟩ = some (.int .i64 n.parent) ∧ y.cell? ⟨(ad.add (k * 7)).block, (ad.add (k * 7)).off + 6, none⟩ = some (.bool n.top) ∧ y.cell? (ad'.add (k * 7)) = some (.int .i64 n.kind) ∧ y.cell? ⟨(ad'.add (k * 7)).block, (ad'.add (k * 7)).off + 1, none⟩ = some (.int .i64 n.atom) ∧ y.cell? ⟨(ad'.add (k * 7)).block, (ad'.add (k * 7)).off + 2, none⟩ = some (.slice T' n.vars.length cT') ∧ y.cell? ⟨(ad'.add (k * 7)).block, (ad'.add (k * 7)).off + 3, none⟩ = some (.int .i64 n.source) ∧ y.cell? ⟨(ad'.add (k * 7)).block, (ad'.add (k * 7)).off + 4, none⟩ = some (.int .i64 n.side) ∧ y.cell? ⟨(ad'.add (k * 7)).block, (ad'.add (k * 7)).off + 5, none⟩ = some (.int .i64 n.parent) ∧ y.cell? ⟨(ad'.add (k * 7)).block, (ad'.add (k * 7)).off + 6, none⟩ = some (.bool n.top)) := Lib.hid fun y hy =>
          have hk := fun (p : Addr) (hp : p.block < wr.drew.heap.size) => hy.cell (p := p) hp
          ⟨(hk _ hPr.lt).trans r2, (hk _ hQr.lt).trans r2', (hk _ (by rw [block_add]; exact hal)).trans c0, (hk _ (by rw [block_add]; exact hal)).trans c1, (hk _ (by rw [block_add]; exact hal)).trans c2, (hk _ (by rw [block_add]; exact hal)).trans c3, (hk _ (by rw [block_add]; exact hal)).trans c4, (hk _ (by rw [block_add]; exact hal)).trans c5, (hk _ (by rw [block_add]; exact hal)).trans c6, (hk _ (by rw [block_add]; exact hal')).trans d0, (hk _ (by rw [block_add]; exact hal')).trans d1, (hk _ (by rw [block_add]; exact hal')).trans d2, (hk _ (by rw [block_add]; exact hal')).trans d3, (hk _ (by rw [block_add]; exact hal')).trans d4, (hk _ (by rw [block_add]; exact hal')).trans d5, (hk _ (by rw [block_add]; exact hal')).trans d6⟩
        refine wp_region_until 13 (fun y : World => y.cell? ⟨w.heap.size, 2, none⟩ = some (.slice (some ad) N.length cN) ∧ y.cell? ⟨w.heap.size + 1, 2, none⟩ = some (.slice (some ad') N.length cN') ∧ y.cell? (ad.add (k * 7)) = some (.int .i64 n.kind) ∧ y.cell? ⟨(ad.add (k * 7)).block, (ad.add (k * 7)).off + 1, none⟩ = some (.int .i64 n.atom) ∧ y.cell? ⟨(ad.add (k * 7)).block, (ad.add (k * 7)).off + 2, none⟩ = some (.slice T n.vars.length cT) ∧ y.cell? ⟨(ad.add (k * 7)).block, (ad.add (k * 7)).off + 3, none⟩ = some (.int .i64 n.source) ∧ y.cell? ⟨(ad.add (k * 7)).block, (ad.add (k * 7)).off + 4, none⟩ = some (.int .i64 n.side) ∧ y.cell? ⟨(ad.add (k * 7)).block, (ad.add (k * 7)).off + 5, none⟩ = some (.int .i64 n.parent) ∧ y.cell? ⟨(ad.add (k * 7)).block, (ad.add (k * 7)).off + 6, none⟩ = some (.bool n.top) ∧ y.cell? (ad'.add (k * 7)) = some (.int .i64 n.kind) ∧ y.cell? ⟨(ad'.add (k * 7)).block, (ad'.add (k * 7)).off + 1, none⟩ = some (.int .i64 n.atom) ∧ y.cell? ⟨(ad'.add (k * 7)).block, (ad'.add (k * 7)).off + 2, none⟩ = some (.slice T' n.vars.length cT') ∧ y.cell? ⟨(ad'.add (k * 7)).block, (ad'.add (k * 7)).off + 3, none⟩ = some (.int .i64 n.source) ∧ y.cell? ⟨(ad'.add (k * 7)).block, (ad'.add (k * 7)).off + 4, none⟩ = some (.int .i64 n.side) ∧ y.cell? ⟨(ad'.add (k * 7)).block, (ad'.add (k * 7)).off + 5, none⟩ = some (.int .i64 n.parent) ∧ y.cell? ⟨(ad'.add (k * 7)).block, (ad'.add (k * 7)).off + 6, none⟩ = some (.bool n.top)) (by kernel_rfl) (HK.out _ (Below.refl _ _)) (fun hHeld => ?_)
        refine' wpAnyU_takeN (i := 0) (oi := ?o6_0) (v := ?v6_0) ?hi6_0 (by kernel_rfl) ?hQ6_0 ?hy6_0 hHeld ?rest6_0
        case hi6_0 => (simp only [List.getElem?_toArray, List.getElem?_cons_zero]; rfl)
        case hQ6_0 => exact fun _ _ _ h => h
        case hy6_0 => (refine Or.inl ⟨by rfl, ?_⟩; intro w hSw; (try dsimp only at hSw); go_simp; (try with_reducible rfl))
        (try simp only [Act.put]); (try simp only [List.setIfInBounds_toArray]); (try simp only [List.set_cons_zero, List.set_cons_succ])
        refine' wpAnyU_take [1] (i := 1) (oi := ?o6_1) (v := ?v6_1) ?hi6_1 (by kernel_rfl) ?hQ6_1 ?hy6_1 hHeld ?rest6_1
        case hi6_1 => (simp only [List.getElem?_toArray, List.getElem?_cons_succ, List.getElem?_cons_zero]; rfl)
        case hQ6_1 => exact fun _ _ _ h => h
        case hy6_1 => (refine Or.inl ⟨by rfl, ?_⟩; intro w hSw; (try dsimp only at hSw); go_simp; (try with_reducible rfl))
        (try simp only [Act.put]); (try simp only [List.setIfInBounds_toArray]); (try simp only [List.set_cons_zero, List.set_cons_succ])
        refine' wpAnyU_takeN (i := 2) (oi := ?o6_2) (v := ?v6_2) ?hi6_2 (by kernel_rfl) ?hQ6_2 ?hy6_2 hHeld ?rest6_2
        case hi6_2 => (simp only [List.getElem?_toArray, List.getElem?_cons_succ, List.getElem?_cons_zero]; rfl)
        case hQ6_2 => exact fun _ _ _ h => h
        case hy6_2 => (refine Or.inl ⟨by rfl, ?_⟩; intro w hSw; (try dsimp only at hSw); go_simp; (try with_reducible rfl))
        (try simp only [Act.put]); (try simp only [List.setIfInBounds_toArray]); (try simp only [List.set_cons_zero, List.set_cons_succ])
        refine' wpAnyU_takeN (i := 3) (oi := ?o6_3) (v := ?v6_3) ?hi6_3 (by kernel_rfl) ?hQ6_3 ?hy6_3 hHeld ?rest6_3
        case hi6_3 => (simp only [List.getElem?_toArray, List.getElem?_cons_succ, List.getElem?_cons_zero]; rfl)
        case hQ6_3 => exact fun _ _ _ h => h
        case hy6_3 => (refine Or.inl ⟨by rfl, ?_⟩; intro w hSw; (try dsimp only at hSw); go_simp; (try with_reducible rfl))
        (try simp only [Act.put]); (try simp only [List.setIfInBounds_toArray]); (try simp only [List.set_cons_zero, List.set_cons_succ])
        refine' wpAnyU_take [4] (i := 4) (oi := ?o6_4) (v := ?v6_4) ?hi6_4 (by kernel_rfl) ?hQ6_4 ?hy6_4 hHeld ?rest6_4
        case hi6_4 => (simp only [List.getElem?_toArray, List.getElem?_cons_succ, List.getElem?_cons_zero]; rfl)
        case hQ6_4 => exact fun _ _ _ h => h
        case hy6_4 => (refine Or.inl ⟨by rfl, ?_⟩; intro w hSw; (try dsimp only at hSw); go_simp; (try with_reducible rfl))
        (try simp only [Act.put]); (try simp only [List.setIfInBounds_toArray]); (try simp only [List.set_cons_zero, List.set_cons_succ])
        refine' wpAnyU_takeN (i := 5) (oi := ?o6_5) (v := ?v6_5) ?hi6_5 (by kernel_rfl) ?hQ6_5 ?hy6_5 hHeld ?rest6_5
        case hi6_5 => (simp only [List.getElem?_toArray, List.getElem?_cons_succ, List.getElem?_cons_zero]; rfl)
        case hQ6_5 => exact fun _ _ _ h => h
        case hy6_5 => (refine Or.inl ⟨by rfl, ?_⟩; intro w hSw; (try dsimp only at hSw); go_simp; (try with_reducible rfl))
        (try simp only [Act.put]); (try simp only [List.setIfInBounds_toArray]); (try simp only [List.set_cons_zero, List.set_cons_succ])
        refine' wpAnyU_take [6] (i := 6) (oi := ?o6_6) (v := ?v6_6) ?hi6_6 (by kernel_rfl) ?hQ6_6 ?hy6_6 hHeld ?rest6_6
        case hi6_6 => (simp only [List.getElem?_toArray, List.getElem?_cons_succ, List.getElem?_cons_zero]; rfl)
        case hQ6_6 => exact fun _ _ _ h => h
        case hy6_6 => (refine Or.inl ⟨by rfl, ?_⟩; intro w hSw; (try dsimp only at hSw); go_simp; (try with_reducible rfl))
        (try simp only [Act.put]); (try simp only [List.setIfInBounds_toArray]); (try simp only [List.set_cons_zero, List.set_cons_succ])
        refine' wpAnyU_takeN (i := 7) (oi := ?o6_7) (v := ?v6_7) ?hi6_7 (by kernel_rfl) ?hQ6_7 ?hy6_7 hHeld ?rest6_7
        case hi6_7 => (simp only [List.getElem?_toArray, List.getElem?_cons_succ, List.getElem?_cons_zero]; rfl)
        case hQ6_7 => exact fun _ _ _ h => h
        case hy6_7 => (refine Or.inl ⟨by rfl, ?_⟩; intro w hSw; (try dsimp only at hSw); go_simp; (try with_reducible rfl))
        (try simp only [Act.put]); (try simp only [List.setIfInBounds_toArray]); (try simp only [List.set_cons_zero, List.set_cons_succ])
        refine' wpAnyU_takeN (i := 8) (oi := ?o6_8) (v := ?v6_8) ?hi6_8 (by kernel_rfl) ?hQ6_8 ?hy6_8 hHeld ?rest6_8
        case hi6_8 => (simp only [List.getElem?_toArray, List.getElem?_cons_succ, List.getElem?_cons_zero]; rfl)
        case hQ6_8 => exact fun _ _ _ h => h
        case hy6_8 => (refine Or.inl ⟨by rfl, ?_⟩; intro w hSw; (try dsimp only at hSw); go_simp; (try with_reducible rfl))
        (try simp only [Act.put]); (try simp only [List.setIfInBounds_toArray]); (try simp only [List.set_cons_zero, List.set_cons_succ])
        refine' wpAnyU_take [9] (i := 9) (oi := ?o6_9) (v := ?v6_9) ?hi6_9 (by kernel_rfl) ?hQ6_9 ?hy6_9 hHeld ?rest6_9
        case hi6_9 => (simp only [List.getElem?_toArray, List.getElem?_cons_succ, List.getElem?_cons_zero]; rfl)
        case hQ6_9 => exact fun _ _ _ h => h
        case hy6_9 => (refine Or.inl ⟨by rfl, ?_⟩; intro w hSw; (try dsimp only at hSw); go_simp; (try with_reducible rfl))
        (try simp only [Act.put]); (try simp only [List.setIfInBounds_toArray]); (try simp only [List.set_cons_zero, List.set_cons_succ])
        refine wpAnyU_two (i := 10) (j := 11) (by kernel_rfl) rfl rfl (fun K hK => ?_) (fun K hK => ?_)
        · go_simp
          refine hK.out _ _ (HK.out _ (Below.alloc (Below.refl _ _) (Nat.le_refl _) (.cells #[.int .i64 0, .int .i64 0, .slice none 0 0, .int .i64 0, .int .i64 0, .int .i64 0, .bool false] 96))) (fun hNew => ?_)
          clear hK K hHeld
          have hHeld := hNew
          clear hNew
          (try simp only [Act.put]); (try simp only [List.setIfInBounds_toArray]); (try simp only [List.set_cons_zero, List.set_cons_succ])
          refine wpAnyU_one (i := 11) (by kernel_rfl) rfl (fun K hK => ?_)
          go_simp
          refine hK.out _ _ (HK.out _ (Below.alloc (Below.alloc (Below.refl _ _) (Nat.le_refl _) (.cells #[.int .i64 0, .int .i64 0, .slice none 0 0, .int .i64 0, .int .i64 0, .int .i64 0, .bool false] 96)) (by simp) (.cells #[.int .i64 0, .int .i64 0, .slice none 0 0, .int .i64 0, .int .i64 0, .int .i64 0, .bool false] 96))) (fun hNew => ?_)
          clear hK K hHeld
          have hHeld := hNew
          clear hNew
          (try simp only [Act.put]); (try simp only [List.setIfInBounds_toArray]); (try simp only [List.set_cons_zero, List.set_cons_succ])
          refine wpAnyU_one (i := 12) (by kernel_rfl) rfl (fun K hK => ?_)
          go_simp
          have hbk := ((below_alloc wr (.cells #[.int .i64 n.kind, .int .i64 n.atom, .slice T n.vars.length cT, .int .i64 n.source, .int .i64 n.side, .int .i64 n.parent, .bool n.top] 96)).alloc (by simp) (.cells #[.int .i64 0, .int .i64 0, .slice none 0 0, .int .i64 0, .int .i64 0, .int .i64 0, .bool false] 96)).drew
          refine hK.out _ _ (HK.out _ ⟨hbk.os, hbk.tape, hbk.output, hbk.size, hbk.block⟩) (fun hNew => ?_)
          clear hK K hHeld
          have hHeld := hNew
          clear hNew
          (try simp only [Act.put]); (try simp only [List.setIfInBounds_toArray]); (try simp only [List.set_cons_zero, List.set_cons_succ])
          refine wpAnyU_last (i := 13) (by kernel_rfl) rfl (by kernel_rfl) (fun K hK => ?_)
          go_simp
          refine hK.out _ _ ?_
          clear hK K hHeld
          try simp only [Act.put]
          refine wpAnyU_done (by kernel_rfl) ?_ _
          go_wp2_with fail
          go_meet
          exact ⟨wr.heap.size, wr.heap.size + 1, rfl, rfl, rfl, ((Row.new wr _ _).alloc _).drew, (Row.new_ (by simp)).drew, ((below_alloc wr _).alloc (by simp) _).drew⟩
        · go_simp
          refine hK.out _ _ (HK.out _ (Below.alloc (Below.refl _ _) (Nat.le_refl _) (.cells #[.int .i64 0, .int .i64 0, .slice none 0 0, .int .i64 0, .int .i64 0, .int .i64 0, .bool false] 96))) (fun hNew => ?_)
          clear hK K hHeld
          have hHeld := hNew
          clear hNew
          (try simp only [Act.put]); (try simp only [List.setIfInBounds_toArray]); (try simp only [List.set_cons_zero, List.set_cons_succ])
          refine wpAnyU_one (i := 10) (by kernel_rfl) rfl (fun K hK => ?_)
          go_simp
          refine hK.out _ _ (HK.out _ (Below.alloc (Below.alloc (Below.refl _ _) (Nat.le_refl _) (.cells #[.int .i64 0, .int .i64 0, .slice none 0 0, .int .i64 0, .int .i64 0, .int .i64 0, .bool false] 96)) (by simp) (.cells #[.int .i64 0, .int .i64 0, .slice none 0 0, .int .i64 0, .int .i64 0, .int .i64 0, .bool false] 96))) (fun hNew => ?_)
          clear hK K hHeld
          have hHeld := hNew
          clear hNew
          (try simp only [Act.put]); (try simp only [List.setIfInBounds_toArray]); (try simp only [List.set_cons_zero, List.set_cons_succ])
          refine wpAnyU_one (i := 12) (by kernel_rfl) rfl (fun K hK => ?_)
          go_simp
          have hbk := ((below_alloc wr (.cells #[.int .i64 0, .int .i64 0, .slice none 0 0, .int .i64 0, .int .i64 0, .int .i64 0, .bool false] 96)).alloc (by simp) (.cells #[.int .i64 n.kind, .int .i64 n.atom, .slice T n.vars.length cT, .int .i64 n.source, .int .i64 n.side, .int .i64 n.parent, .bool n.top] 96)).drew
          refine hK.out _ _ (HK.out _ ⟨hbk.os, hbk.tape, hbk.output, hbk.size, hbk.block⟩) (fun hNew => ?_)
          clear hK K hHeld
          have hHeld := hNew
          clear hNew
          (try simp only [Act.put]); (try simp only [List.setIfInBounds_toArray]); (try simp only [List.set_cons_zero, List.set_cons_succ])
          refine wpAnyU_last (i := 13) (by kernel_rfl) rfl (by kernel_rfl) (fun K hK => ?_)
          go_simp
          refine hK.out _ _ ?_
          clear hK K hHeld
          try simp only [Act.put]
          refine wpAnyU_done (by kernel_rfl) ?_ _
          go_wp2_with fail
          go_meet
          exact ⟨wr.heap.size + 1, wr.heap.size, rfl, rfl, rfl, (Row.new_ (by simp)).drew, ((Row.new wr _ _).alloc _).drew, ((below_alloc wr _).alloc (by simp) _).drew⟩
      case rest =>
        obtain ⟨gx, gy, rfl, rfl, rfl, hX, hY, hbc⟩ := hcut
        obtain ⟨w5, hw5⟩ : ∃ wo, wo = wc := ⟨_, rfl⟩
        subst hw5
        have hb5 := hb.trans (hbc.mono hb.size)
        have hvX : Rd w5 w5.heap.size T (is n.vars) := hvT.later hbc
        have hvY : Rd w5 w5.heap.size T' (is n.vars) := hvT'.later hbc
        have x0 : w5.cell? ⟨gx, 0, none⟩ = some (.int .i64 n.kind) := hX.cell 0
        have x1 : w5.cell? ⟨gx, 1, none⟩ = some (.int .i64 n.atom) := hX.cell 1
        have x2 : w5.cell? ⟨gx, 2, none⟩ = some (.slice T n.vars.length cT) := hX.cell 2
        have y0 : w5.cell? ⟨gy, 0, none⟩ = some (.int .i64 n.kind) := hY.cell 0
        have y1 : w5.cell? ⟨gy, 1, none⟩ = some (.int .i64 n.atom) := hY.cell 1
        have y2 : w5.cell? ⟨gy, 2, none⟩ = some (.slice T' n.vars.length cT') := hY.cell 2
        have hSI := sameInts_any T T' n.vars n.vars cT cT' w5 hzv hzv hvX hvY
        rw [beq_self_eq_true] at hSI
        have HSI := Lib.hid hSI
        clear hSI hPr hQr hb hbc c0 c1 c2 c3 c4 c5 c6 d0 d1 d2 d3 d4 d5 d6 r2 r2' hvT hvT' hvX hvY
        go_wp2_with fail
        refine HSI.out.mono ?_
        rintro e w6 ⟨rfl, n6, rfl⟩
        have hb6 := below_drewN hb5 n6
        have hX6 := hX.later (below_drewN (Below.refl _ _) n6)
        have hY6 := hY.later (below_drewN (Below.refl _ _) n6)
        clear x0 x1 x2 y0 y1 y2 HSI hX hY hb5
        generalize w5.drewN n6 = w7 at hb6 hX6 hY6 ⊢
        have x3 : w7.cell? ⟨gx, 3, none⟩ = some (.int .i64 n.source) := hX6.cell 3
        have x4 : w7.cell? ⟨gx, 4, none⟩ = some (.int .i64 n.side) := hX6.cell 4
        have x5 : w7.cell? ⟨gx, 5, none⟩ = some (.int .i64 n.parent) := hX6.cell 5
        have x6 : w7.cell? ⟨gx, 6, none⟩ = some (.bool n.top) := hX6.cell 6
        have y3 : w7.cell? ⟨gy, 3, none⟩ = some (.int .i64 n.source) := hY6.cell 3
        have y4 : w7.cell? ⟨gy, 4, none⟩ = some (.int .i64 n.side) := hY6.cell 4
        have y5 : w7.cell? ⟨gy, 5, none⟩ = some (.int .i64 n.parent) := hY6.cell 5
        have y6 : w7.cell? ⟨gy, 6, none⟩ = some (.bool n.top) := hY6.cell 6
        go_wp2_with fail
        go_roundw
        case rel => exact ⟨k + 1, by omega, by go_num, hb6⟩
        case measure => simp [intOf]; omega
    · obtain rfl : k = N.length := by omega
      go_wp2_with fail
      go_ret
      exact ⟨by first | rfl | trivial, bthen hB3 hb⟩
end Go.Proofs.YtbgbjodehbcgiaaGreatDoor

/- The walk of osierlaw18.PlanMakes. -/
namespace Go.Proofs.YtbgbjodehbcgiaaGreatDoor
open Go.RowKit

theorem szp_of {q : Qy} {p : PPlan} {code : Int} (hq : SzQ q) (h : MakeIs q p code) : SzP p := by
  have key : SzP noPlan := ⟨by decide, by decide, by decide, (fun m hm => by cases hm), by decide⟩
  rcases h with ⟨_, rfl, _⟩ | ⟨_, _, rfl, _⟩ | ⟨_, _, _, rfl, _⟩ | ⟨hs, _, n, hF, rfl, _⟩
  · exact key
  · exact key
  · exact key
  · have hg := shapeC_iff.1 hs
    have hl := qvars_length hg.narrow hg.few
    have hf := hq.few
    have h6 : (ofE q).length ≤ 6 := by rw [ofE_length]; exact hg.few
    have hE : ofE q ≠ [] := fun c => by
      have h1 := hg.some_
      rw [← ofE_length, c] at h1
      simp at h1
    have hn := hF.1
    have h1 := nodes_few (head := headW q) hE hn
    have h2 := tops_few (head := headW q) hE hn
    have e1 : (nodesE (ofE q) (headW q) n).length ≤ 28 := by rw [nodesE_length]; omega
    have e2 : (topsE (ofE q) (headW q) n).length ≤ 28 := by omega
    have e3 : ∀ m ∈ nodesE (ofE q) (headW q) n, m.vars.length ≤ 32 := fun m hm => by
      obtain ⟨i, hi, rfl⟩ := List.mem_iff_getElem.1 hm
      rw [nd_eq _ i hi, nodesE_at hn (by simpa using hi)]
      exact lst_len (gn (grow2 (ofE q) (headW q) n).nodes i).set
    unfold planE
    generalize nodesE (ofE q) (headW q) n = NN at e1 e3
    generalize topsE (ofE q) (headW q) n = TT at e2
    generalize rootE (ofE q) (headW q) n = RR
    refine ⟨?_, ?_, ?_, fun m hm => ?_, ?_⟩
    · show (qvars q.atoms).length ≤ 8796093022208
      omega
    · show (q.head.map _).length ≤ 35184372087808
      rw [List.length_map]; omega
    · show NN.length ≤ 1954687338268
      omega
    · have := e3 m hm
      omega
    · show TT.length ≤ 35184372087808
      omega
/-- A plan to be read, wherever its parts lie. -/
def PRs (w : World) (p : PPlan) (AV AH AN AT : Option Addr) : Prop := Rd w w.heap.size AV (ss p.vars) ∧ Rd w w.heap.size AH (is p.head) ∧ NdR w w.heap.size AN p.nodes ∧ Rd w w.heap.size AT (is p.tops)
theorem PRs.later {w w' : World} {p : PPlan} {AV AH AN AT : Option Addr} (h : PRs w p AV AH AN AT) (hb : Below w.heap.size w w') : PRs w' p AV AH AN AT := ⟨h.1.later hb, h.2.1.later hb, h.2.2.1.later hb, h.2.2.2.later hb⟩
set_option maxRecDepth 100000 in
set_option maxHeartbeats 8000000 in
theorem law_pmakes (q : Qy) (AH : Option Addr) (cH : Nat) (AA : Option Addr) (cA : Nat) (w : World) (hq : SzQ q) (hH : Rd w w.heap.size AH (ss q.head)) (hA : Ats w w.heap.size AA q.atoms) (hT : Tab w) :
    Calls Tryz.prog 3 #[.agg #[.string q.name, .slice AH q.head.length cH, .slice AA q.atoms.length cA]] w fun e w' => e = .returned (.bool true) ∧ Below w.heap.size w w' := by
  go_enter Tryz.func3, Tryz.ntmps3
  go_upto_region 1 with fail
  have hb0 := below_alloc w (.cells #[.string q.name, .slice AH q.head.length cH, .slice AA q.atoms.length cA] 25)
  have hQ0 : Row (w.alloc (.cells #[.string q.name, .slice AH q.head.length cH, .slice AA q.atoms.length cA] 25)) w.heap.size 25 [.string q.name, .slice AH q.head.length cH, .slice AA q.atoms.length cA] := Row.new _ _ _
  generalize w.alloc _ = w0 at hb0 hQ0 ⊢
  have q0 : w0.cell? ⟨w.heap.size, 0, none⟩ = some (.string q.name) := hQ0.cell 0
  have q1 : w0.cell? ⟨w.heap.size, 1, none⟩ = some (.slice AH q.head.length cH) := hQ0.cell 1
  have q2 : w0.cell? ⟨w.heap.size, 2, none⟩ = some (.slice AA q.atoms.length cA) := hQ0.cell 2
  go_wp2_with fail
  refine (copyQ_any q AH cH AA cA w0 hq (hH.later hb0) (hA.later hb0)).mono ?_
  rintro e w1 ⟨gh, A1, c1, rfl, hRh, hA1, hb1⟩
  have hB1 := bthen hb0 hb1
  have hQ1 := hQ0.later hb1
  clear q0 q1 q2 hb0 hQ0 hb1
  go_upto_region 2 with fail
  have hb2 := below_alloc w1 (.cells #[.string q.name, .slice (some ⟨gh, 0, none⟩) q.head.length q.head.length, .slice A1 q.atoms.length c1] 25)
  have hI2 : Row (w1.alloc (.cells #[.string q.name, .slice (some ⟨gh, 0, none⟩) q.head.length q.head.length, .slice A1 q.atoms.length c1] 25)) w1.heap.size 25 [.string q.name, .slice (some ⟨gh, 0, none⟩) q.head.length q.head.length, .slice A1 q.atoms.length c1] := Row.new _ _ _
  have hB2 := bthen hB1 hb2
  have hQ2 := hQ1.later hb2
  have hRh2 : Rd (w1.alloc (.cells #[.string q.name, .slice (some ⟨gh, 0, none⟩) q.head.length q.head.length, .slice A1 q.atoms.length c1] 25)) (w1.alloc (.cells #[.string q.name, .slice (some ⟨gh, 0, none⟩) q.head.length q.head.length, .slice A1 q.atoms.length c1] 25)).heap.size (some ⟨gh, 0, none⟩) (ss q.head) := (hRh.later hb2).rd
  have hA2 := hA1.later hb2
  have hT2 := hT.later hB2
  generalize w1.heap.size = gi at hI2 ⊢
  generalize w1.alloc _ = w2 at hI2 hB2 hQ2 hRh2 hA2 hT2 ⊢
  clear hb2 hB1 hQ1 hRh hA1
  have i0 : w2.cell? ⟨gi, 0, none⟩ = some (.string q.name) := hI2.cell 0
  have i1 : w2.cell? ⟨gi, 1, none⟩ = some (.slice (some ⟨gh, 0, none⟩) q.head.length q.head.length) := hI2.cell 1
  have i2 : w2.cell? ⟨gi, 2, none⟩ = some (.slice A1 q.atoms.length c1) := hI2.cell 2
  go_wp2_with fail
  refine (plan_make_any q (some ⟨gh, 0, none⟩) q.head.length A1 c1 w2 hq (Nat.le_refl _) hRh2 hA2 hT2).mono ?_
  rintro e w3 ⟨p, code, vv, vh, AN, cN, vt, L, rfl, hIS, hpL, hPM, hb3⟩
  have hLl : L.length = p.nodes.length := by rw [hpL, List.length_map]
  obtain ⟨Av, cv, rfl, _, _, hrv, _⟩ := Rd.of_own hPM.vars
  obtain ⟨Ah, ch, rfl, _, _, hrh, _⟩ := Rd.of_own hPM.head
  obtain ⟨At, ct, rfl, _, _, hrt, _⟩ := Rd.of_own hPM.tops
  have hNR : NdR w3 w3.heap.size AN p.nodes := by rw [hpL]; exact NdR.of_own hPM.nodes hPM.nv
  have hB3 := bthen hB2 hb3
  have hQ3 := hQ2.later hb3
  have hI3 := hI2.later hb3
  have hP3 : PRs w3 p Av Ah AN At := ⟨hrv, hrh, hNR, hrt⟩
  have hRh3 := hRh2.later hb3
  have hA3 := hA2.later hb3
  have HSZ := Lib.hid (szp_of hq hIS.out)
  rw [hLl]
  clear hLl hpL hPM hNR hrv hrh hrt i0 i1 i2 hI2 hB2 hQ2 hRh2 hA2 hT2 hb3
  go_upto_region 3 with fail
  have hb4 := below_alloc w3 (.cells #[.slice Av p.vars.length cv, .slice Ah p.head.length ch, .slice AN p.nodes.length cN, .int .i64 p.root, .slice At p.tops.length ct] 30)
  have hR4 : Row (w3.alloc (.cells #[.slice Av p.vars.length cv, .slice Ah p.head.length ch, .slice AN p.nodes.length cN, .int .i64 p.root, .slice At p.tops.length ct] 30)) w3.heap.size 30 [.slice Av p.vars.length cv, .slice Ah p.head.length ch, .slice AN p.nodes.length cN, .int .i64 p.root, .slice At p.tops.length ct] := Row.new _ _ _
  have hB4 := bthen hB3 hb4
  have hQ4 := hQ3.later hb4
  have hI4 := hI3.later hb4
  have hP4 := hP3.later hb4
  have hRh4 := hRh3.later hb4
  have hA4 := hA3.later hb4
  generalize w3.heap.size = g4 at hR4 ⊢
  generalize w3.alloc _ = w4 at hR4 hB4 hQ4 hI4 hP4 hRh4 hA4 ⊢
  clear hb4 hB3 hQ3 hI3 hP3 hRh3 hA3
  have q0 : w4.cell? ⟨w.heap.size, 0, none⟩ = some (.string q.name) := hQ4.cell 0
  have q1 : w4.cell? ⟨w.heap.size, 1, none⟩ = some (.slice AH q.head.length cH) := hQ4.cell 1
  have q2 : w4.cell? ⟨w.heap.size, 2, none⟩ = some (.slice AA q.atoms.length cA) := hQ4.cell 2
  go_wp2_with fail
  refine (r18make_any q AH cH AA cA w4 hq (hH.later hB4) (hA.later hB4)).mono ?_
  rintro e w5 ⟨p', code', vv', vh', AN', cN', vt', L', rfl, hIS', hpL', hPM', hb5⟩
  obtain ⟨rfl, rfl⟩ := makeIs_uniq hIS.out hIS'.out
  have hLl : L'.length = p.nodes.length := by rw [hpL', List.length_map]
  obtain ⟨Av', cv', rfl, _, _, hrv, _⟩ := Rd.of_own hPM'.vars
  obtain ⟨Ah', ch', rfl, _, _, hrh, _⟩ := Rd.of_own hPM'.head
  obtain ⟨At', ct', rfl, _, _, hrt, _⟩ := Rd.of_own hPM'.tops
  have hNR : NdR w5 w5.heap.size AN' p.nodes := by rw [hpL']; exact NdR.of_ownE hPM'.nodes hPM'.nv
  have hB5 := bthen hB4 hb5
  have hQ5 := hQ4.later hb5
  have hI5 := hI4.later hb5
  have hP5 := hP4.later hb5
  have hR5 := hR4.later hb5
  have hRh5 := hRh4.later hb5
  have hA5 := hA4.later hb5
  have hP5' : PRs w5 p Av' Ah' AN' At' := ⟨hrv, hrh, hNR, hrt⟩
  rw [hLl]
  clear hLl hpL' hPM' hNR hrv hrh hrt hIS hIS' q0 q1 q2 hB4 hQ4 hI4 hP4 hR4 hRh4 hA4 hb5
  go_upto_region 4 with fail
  have hb6 := below_alloc w5 (.cells #[.slice Av' p.vars.length cv', .slice Ah' p.head.length ch', .slice AN' p.nodes.length cN', .int .i64 p.root, .slice At' p.tops.length ct'] 36)
  have hR6' : Row (w5.alloc (.cells #[.slice Av' p.vars.length cv', .slice Ah' p.head.length ch', .slice AN' p.nodes.length cN', .int .i64 p.root, .slice At' p.tops.length ct'] 36)) w5.heap.size 36 [.slice Av' p.vars.length cv', .slice Ah' p.head.length ch', .slice AN' p.nodes.length cN', .int .i64 p.root, .slice At' p.tops.length ct'] := Row.new _ _ _
  have hB6 := bthen hB5 hb6
  have hQ6 := hQ5.later hb6
  have hI6 := hI5.later hb6
  have hP6 := hP5.later hb6
  have hR6 := hR5.later hb6
  have hRh6 := hRh5.later hb6
  have hA6 := hA5.later hb6
  have hP6' := hP5'.later hb6
  have hT6 := hT.later hB6
  have hH6 := hH.later hB6
  have hAA6 := hA.later hB6
  generalize w5.heap.size = g6 at hR6' ⊢
  generalize w5.alloc _ = w6 at hR6' hB6 hQ6 hI6 hP6 hR6 hRh6 hA6 hP6' hT6 hH6 hAA6 ⊢
  clear hb6 hB5 hQ5 hI5 hP5 hR5 hRh5 hA5 hP5' hH hA hT
  have C1 : Hid (∀ y, Below w6.heap.size w6 y → Calls Tryz.prog 11 #[] y fun e w' => e = .returned (.bool true) ∧ Below w6.heap.size w6 w') := Lib.hid fun y hy => (awake18_any y (hT6.later hy)).mono fun e w' ⟨he, hb⟩ => ⟨he, bthen hy hb⟩
  have C2 : Hid (∀ y, Below w6.heap.size w6 y → Calls Tryz.prog 13 #[.agg #[.slice Av p.vars.length cv, .slice Ah p.head.length ch, .slice AN p.nodes.length cN, .int .i64 p.root, .slice At p.tops.length ct]] y fun e w' => ∃ gv gh gt AN' cN', e = .returned (.agg #[.slice (some ⟨gv, 0, none⟩) p.vars.length p.vars.length, .slice (some ⟨gh, 0, none⟩) p.head.length p.head.length, .slice AN' p.nodes.length cN', .int .i64 p.root, .slice (some ⟨gt, 0, none⟩) p.tops.length p.tops.length]) ∧
      PRs w' p (some ⟨gv, 0, none⟩) (some ⟨gh, 0, none⟩) AN' (some ⟨gt, 0, none⟩) ∧ Below w6.heap.size w6 w') := Lib.hid fun y hy => by
    have h := hP6.later hy
    refine (of18_any p Av cv Ah ch AN cN At ct y HSZ.out h.1 h.2.1 h.2.2.1 h.2.2.2).mono ?_
    rintro e w' ⟨gv, gh, gt, AN', cN', rfl, h1, h2, h3, h4, hb⟩
    exact ⟨gv, gh, gt, AN', cN', rfl, ⟨h1, h2, h3, h4⟩, bthen hy hb⟩
  have C3 : Hid (∀ y gv gh gt AM cM, Below w6.heap.size w6 y → PRs y p (some ⟨gv, 0, none⟩) (some ⟨gh, 0, none⟩) AM (some ⟨gt, 0, none⟩) → Calls Tryz.prog 12 #[.agg #[.slice (some ⟨gv, 0, none⟩) p.vars.length p.vars.length, .slice (some ⟨gh, 0, none⟩) p.head.length p.head.length, .slice AM p.nodes.length cM, .int .i64 p.root, .slice (some ⟨gt, 0, none⟩) p.tops.length p.tops.length], .agg #[.slice Av' p.vars.length cv', .slice Ah' p.head.length ch', .slice AN' p.nodes.length cN', .int .i64 p.root, .slice At' p.tops.length ct']] y fun e w' => e = .returned (.bool true) ∧ Below w6.heap.size w6 w') := Lib.hid fun y gv gh gt AM cM hy h => by
    have h' := hP6'.later hy
    exact (same18_any p (some ⟨gv, 0, none⟩) (some ⟨gh, 0, none⟩) AM (some ⟨gt, 0, none⟩) Av' Ah' AN' At' _ _ cM _ cv' ch' cN' ct' y HSZ.out h.1 h.2.1 h.2.2.1 h.2.2.2 h'.1 h'.2.1 h'.2.2.1 h'.2.2.2).mono fun e w' ⟨he, hb⟩ => ⟨he, bthen hy hb⟩
  have C4 : Hid (∀ y, Below w6.heap.size w6 y → Calls Tryz.prog 14 #[.agg #[.string q.name, .slice (some ⟨gh, 0, none⟩) q.head.length q.head.length, .slice A1 q.atoms.length c1], .agg #[.string q.name, .slice AH q.head.length cH, .slice AA q.atoms.length cA]] y fun e w' => e = .returned (.bool true) ∧ Below w6.heap.size w6 w') := Lib.hid fun y hy =>
    (same9_any q (some ⟨gh, 0, none⟩) AH A1 AA _ cH c1 cA y hq (hRh6.later hy) (hH6.later hy) (hA6.later hy) (hAA6.later hy)).mono fun e w' ⟨he, hb⟩ => ⟨he, bthen hy hb⟩
  have HK : Hid (∀ y, Below w6.heap.size w6 y → Below w6.heap.size w6 y ∧ y.cell? ⟨g4, 0, none⟩ = some (.slice Av p.vars.length cv) ∧ y.cell? ⟨g4, 1, none⟩ = some (.slice Ah p.head.length ch) ∧ y.cell? ⟨g4, 2, none⟩ = some (.slice AN p.nodes.length cN) ∧ y.cell? ⟨g4, 3, none⟩ = some (.int .i64 p.root) ∧ y.cell? ⟨g4, 4, none⟩ = some (.slice At p.tops.length ct) ∧ y.cell? ⟨g6, 0, none⟩ = some (.slice Av' p.vars.length cv') ∧ y.cell? ⟨g6, 1, none⟩ = some (.slice Ah' p.head.length ch') ∧ y.cell? ⟨g6, 2, none⟩ = some (.slice AN' p.nodes.length cN') ∧ y.cell? ⟨g6, 3, none⟩ = some (.int .i64 p.root) ∧ y.cell? ⟨g6, 4, none⟩ = some (.slice At' p.tops.length ct') ∧ y.cell? ⟨gi, 0, none⟩ = some (.string q.name) ∧ y.cell? ⟨gi, 1, none⟩ = some (.slice (some ⟨gh, 0, none⟩) q.head.length q.head.length) ∧ y.cell? ⟨gi, 2, none⟩ = some (.slice A1 q.atoms.length c1) ∧ y.cell? ⟨w.heap.size, 0, none⟩ = some (.string q.name) ∧ y.cell? ⟨w.heap.size, 1, none⟩ = some (.slice AH q.head.length cH) ∧ y.cell? ⟨w.heap.size, 2, none⟩ = some (.slice AA q.atoms.length cA)) := Lib.hid fun y hy => ⟨hy, (hR6.later hy).cell 0, (hR6.later hy).cell 1, (hR6.later hy).cell 2, (hR6.later hy).cell 3, (hR6.later hy).cell 4, (hR6'.later hy).cell 0, (hR6'.later hy).cell 1, (hR6'.later hy).cell 2, (hR6'.later hy).cell 3, (hR6'.later hy).cell 4, (hI6.later hy).cell 0, (hI6.later hy).cell 1, (hI6.later hy).cell 2, (hQ6.later hy).cell 0, (hQ6.later hy).cell 1, (hQ6.later hy).cell 2⟩
  clear hR6' hQ6 hI6 hP6 hR6 hRh6 hA6 hP6' hT6 hH6 hAA6 HSZ hq
  generalize p.vars.length = nv at *
  generalize p.head.length = nh at *
  generalize p.nodes.length = nn at *
  generalize p.tops.length = nt at *
  generalize p.root = root at *
  go_region_held3 (fun y : World => Below w6.heap.size w6 y ∧ y.cell? ⟨g4, 0, none⟩ = some (.slice Av nv cv) ∧ y.cell? ⟨g4, 1, none⟩ = some (.slice Ah nh ch) ∧ y.cell? ⟨g4, 2, none⟩ = some (.slice AN nn cN) ∧ y.cell? ⟨g4, 3, none⟩ = some (.int .i64 root) ∧ y.cell? ⟨g4, 4, none⟩ = some (.slice At nt ct) ∧ y.cell? ⟨g6, 0, none⟩ = some (.slice Av' nv cv') ∧ y.cell? ⟨g6, 1, none⟩ = some (.slice Ah' nh ch') ∧ y.cell? ⟨g6, 2, none⟩ = some (.slice AN' nn cN') ∧ y.cell? ⟨g6, 3, none⟩ = some (.int .i64 root) ∧ y.cell? ⟨g6, 4, none⟩ = some (.slice At' nt ct') ∧ y.cell? ⟨gi, 0, none⟩ = some (.string q.name) ∧ y.cell? ⟨gi, 1, none⟩ = some (.slice (some ⟨gh, 0, none⟩) q.head.length q.head.length) ∧ y.cell? ⟨gi, 2, none⟩ = some (.slice A1 q.atoms.length c1) ∧ y.cell? ⟨w.heap.size, 0, none⟩ = some (.string q.name) ∧ y.cell? ⟨w.heap.size, 1, none⟩ = some (.slice AH q.head.length cH) ∧ y.cell? ⟨w.heap.size, 2, none⟩ = some (.slice AA q.atoms.length cA))
    (first | exact HK.out _ (by assumption) | exact HK.out _ (Below.refl _ _) | exact HK.out _ (Below.refl _ _).drew)
    (first
      | (go_at_call 11; refine (C1.out _ (by first | assumption | exact (Below.refl _ _).drew)).mono ?_; rintro e wq ⟨rfl, hbq⟩)
      | (go_at_call 13; refine (C2.out _ (by first | assumption | exact (Below.refl _ _).drew)).mono ?_; rintro e wq ⟨gv, gh, gt, AM, cM, rfl, hrd, hbq⟩)
      | (go_at_call 12; refine (C3.out _ _ _ _ _ _ (by first | assumption | exact (Below.refl _ _).drew) (by assumption)).mono ?_; rintro e wq ⟨rfl, hbq⟩)
      | (go_at_call 14; refine (C4.out _ (by first | assumption | exact (Below.refl _ _).drew)).mono ?_; rintro e wq ⟨rfl, hbq⟩))
  all_goals
    go_wp2_with fail
    go_ret
    exact ⟨by first | rfl | simp, bthen hB6 (by assumption)⟩
end Go.Proofs.YtbgbjodehbcgiaaGreatDoor

/- What is left as it was where a plan's own memory is written over. -/
namespace Go.Proofs.YtbgbjodehbcgiaaGreatDoor
open Go.RowKit

/-- Only the blocks from lo on, below hi, may have been turned, and new ones made. -/
structure Gap (lo hi : Nat) (w w' : World) : Prop where
  os : w'.os = w.os
  tape : w'.tape = w.tape
  output : w'.output = w.output
  size : w.heap.size ≤ w'.heap.size
  block : ∀ k, k < w.heap.size → k < lo ∨ hi ≤ k → w'.heap[k]? = w.heap[k]?
section
variable {lo hi : Nat} {w w' : World}
theorem Gap.refl (lo hi : Nat) (w : World) : Gap lo hi w w := ⟨rfl, rfl, rfl, Nat.le_refl _, fun _ _ _ => rfl⟩
theorem Gap.drew (h : Gap lo hi w w') : Gap lo hi w w'.drew := ⟨h.os, h.tape, h.output, h.size, h.block⟩
theorem Gap.set_ (h : Gap lo hi w w') {g : Nat} (h1 : lo ≤ g) (h2 : g < hi) (k : Nat) (u : Value) : Gap lo hi w (w'.setCell ⟨g, k, none⟩ u) :=
  ⟨h.os, h.tape, h.output, by have := h.size; simpa using this, fun j hj hb => (Below.heap_setCell w' ⟨g, k, none⟩ u j (fun e => by have e' : j = g := e; omega)).trans (h.block j hj hb)⟩
theorem Gap.below (h : Gap lo hi w w') (hl : lo ≤ w.heap.size) : Below lo w w' := ⟨h.os, h.tape, h.output, h.size, fun k hk => h.block k (by omega) (.inl hk)⟩
theorem own_gap {base size n : Nat} {e : TypeId} {v : Value} {xs : List Value} (o : w.ownsRow base e size v n xs) (h : Gap lo hi w w') (hb : hi ≤ base) : w'.ownsRow base e size v n xs := by
  refine ⟨o.1, ?_⟩
  rcases o.2 with h2 | ⟨g, cap, cur, hv, hg, hh, r⟩
  · exact .inl h2
  · exact .inr ⟨g, cap, cur, hv, hg, (h.block g (Array.getElem?_eq_some_iff.1 hh).1 (.inr (by omega))).trans hh, r⟩
theorem Row.gap {g : Nat} {e : TypeId} {xs : List Value} (o : Row w g e xs) (h : Gap lo hi w w') (hg : g < lo ∨ hi ≤ g) : Row w' g e xs := (h.block g o.lt hg).trans o
end
/-- A row that is there, whatever it holds. -/
def Alive (w : World) (base hi : Nat) (e : TypeId) (v : Value) (n : Nat) : Prop := (∃ xs : List Value, w.ownsRow base e 1 v n xs) ∧ ∀ g, v.ownBlock = some g → g < hi
theorem Alive.set_ {w : World} {base hi n : Nat} {e : TypeId} {v : Value} (h : Alive w base hi e v n) (g k : Nat) (u : Value) : Alive (w.setCell ⟨g, k, none⟩ u) base hi e v n := by
  obtain ⟨⟨xs, ho⟩, hh⟩ := h
  refine ⟨?_, hh⟩
  by_cases c : v.ownBlock = some g
  · rcases ho.2 with ⟨rfl, _⟩ | ⟨g', cap, cur, rfl, _⟩
    · simp [Value.ownBlock] at c
    · simp only [Value.ownBlock, Option.some.injEq] at c
      subst c
      exact ⟨_, own_put ho u⟩
  · exact ⟨_, own_other ho c⟩
theorem Alive.drew {w : World} {base hi n : Nat} {e : TypeId} {v : Value} (h : Alive w base hi e v n) : Alive w.drew base hi e v n := h
theorem Alive.at_ {w : World} {base hi n : Nat} {e : TypeId} {v : Value} (h : Alive w base hi e v n) {k : Nat} (hk : k < n) : ∃ g c u, v = .slice (some ⟨g, 0, none⟩) n c ∧ base ≤ g ∧ g < hi ∧ w.cell? ⟨g, k, none⟩ = some u ∧ w.frozen? ⟨g, k, none⟩ = false := by
  obtain ⟨⟨xs, ho⟩, hh⟩ := h
  obtain ⟨g, c, rfl⟩ := own_some ho (by omega)
  have hl : k < xs.length := by have := ho.1; omega
  exact ⟨g, c, _, rfl, (ho.lt g rfl).1, hh g rfl, own_cell ho hl, own_frozen ho k⟩
/-- The vertices of the nodes: those before the i-th node, and of the i-th the first j, are written over. -/
def NVs (w : World) (base hi : Nat) (L : List Nd) (i j : Nat) : Prop :=
  ∀ m, m < L.length → (∃ xs : List Int, xs.length = (ndx L m).vars.length ∧ w.ownsRow base 3 1 (vb (ndx L m)) (ndx L m).vars.length (is xs) ∧ ∀ t, t < xs.length → (m < i ∨ (m = i ∧ t < j)) → pz xs t = -7 - (m : Int)) ∧ ∀ g, (vb (ndx L m)).ownBlock = some g → g < hi
section
variable {w : World} {base hi i j : Nat} {L : List Nd}
theorem NVs.drew (h : NVs w base hi L i j) : NVs w.drew base hi L i j := h
theorem NVs.next (h : NVs w base hi L i j) (hj : (ndx L i).vars.length ≤ j) : NVs w base hi L (i + 1) 0 := fun m hm => by
  obtain ⟨⟨xs, hl, ho, hx⟩, hh⟩ := h m hm
  refine ⟨⟨xs, hl, ho, fun t ht hc => hx t ht ?_⟩, hh⟩
  rcases hc with c | ⟨_, c⟩
  · rcases Nat.lt_or_ge m i with d | d
    · exact .inl d
    · obtain rfl : m = i := by omega
      exact .inr ⟨rfl, by omega⟩
  · omega
theorem dist_at (hd : L.Pairwise fun a b => ∀ g, (vb a).ownBlock = some g → (vb b).ownBlock ≠ some g) {a b : Nat} (ha : a < L.length) (hb : b < L.length) (hne : a ≠ b) {g : Nat} (h : (vb (ndx L a)).ownBlock = some g) : (vb (ndx L b)).ownBlock ≠ some g := by
  rw [← ndx_eq L a ha] at h
  rw [← ndx_eq L b hb]
  rw [List.pairwise_iff_getElem] at hd
  rcases Nat.lt_or_ge a b with c | c
  · exact hd a b ha hb c g h
  · exact fun k => hd b a hb ha (by omega) g k h
theorem NVs.at_ (h : NVs w base hi L i j) (hi' : i < L.length) {t : Nat} (ht : t < (ndx L i).vars.length) : ∃ g u, vb (ndx L i) = .slice (some ⟨g, 0, none⟩) (ndx L i).vars.length (ndx L i).cap ∧ base ≤ g ∧ g < hi ∧ w.cell? ⟨g, t, none⟩ = some u ∧ w.frozen? ⟨g, t, none⟩ = false := by
  obtain ⟨⟨xs, hl, ho, _⟩, hh⟩ := h i hi'
  obtain ⟨g, c, e⟩ := own_some ho (by omega)
  have e2 : vb (ndx L i) = .slice (ndx L i).adr (ndx L i).vars.length (ndx L i).cap := rfl
  rw [e2] at e
  injection e with e3 _ e4
  subst e4
  have e5 : vb (ndx L i) = .slice (some ⟨g, 0, none⟩) (ndx L i).vars.length (ndx L i).cap := by rw [e2, e3]
  rw [e5] at ho
  exact ⟨g, _, e5, (ho.lt g rfl).1, hh g (by rw [e5]; rfl), own_cell ho (k := t) (by simp [is]; omega), own_frozen ho t⟩
theorem NVs.set_ (h : NVs w base hi L i j) (hi' : i < L.length) (hd : L.Pairwise fun a b => ∀ g, (vb a).ownBlock = some g → (vb b).ownBlock ≠ some g) {g c : Nat} (hg : vb (ndx L i) = .slice (some ⟨g, 0, none⟩) (ndx L i).vars.length c) : NVs (w.setCell ⟨g, j, none⟩ (.int .i64 (-7 - (i : Int)))) base hi L i (j + 1) := fun m hm => by
  obtain ⟨⟨xs, hl, ho, hx⟩, hh⟩ := h m hm
  refine ⟨?_, hh⟩
  by_cases e : m = i
  · subst e
    rw [hg] at ho
    have hp := own_put ho (k := j) (.int .i64 (-7 - (m : Int)))
    rw [show (is xs).set j (.int .i64 (-7 - (m : Int))) = is (xs.set j (-7 - (m : Int))) by simp [is, List.map_set]] at hp
    refine ⟨xs.set j (-7 - (m : Int)), by rw [List.length_set]; exact hl, by rw [hg]; exact hp, fun t ht hc => ?_⟩
    rw [List.length_set] at ht
    by_cases c : j = t
    · subst c; rw [pz_set_eq ht]
    · rw [pz_set_ne c]
      refine hx t ht ?_
      rcases hc with d | ⟨_, d⟩
      · exact .inl d
      · exact .inr ⟨rfl, by omega⟩
  · refine ⟨xs, hl, own_other ho (dist_at hd hi' hm (Ne.symm e) (by rw [hg]; rfl)), fun t ht hc => hx t ht ?_⟩
    rcases hc with d | ⟨d, _⟩
    · exact .inl d
    · exact absurd d e
theorem NVs.far {gN n cN b2 s2 m2 : Nat} {ys : List Value} (h : NVs w base hi L i j) (ho : w.ownsRow b2 55 s2 (.slice (some ⟨gN, 0, none⟩) n cN) m2 ys) (k : Nat) (u : Value) : NVs (w.setCell ⟨gN, k, none⟩ u) base hi L i j := fun m hm => by
  obtain ⟨⟨xs, hl, hx, hc⟩, hh⟩ := h m hm
  exact ⟨⟨xs, hl, own_other hx fun c => own_own_ne ho hx (by decide) gN rfl c, hc⟩, hh⟩
/-- What a node's vertex is when all are written over. -/
theorem NVs.read (h : NVs w base hi L L.length 0) (hi' : i < L.length) {t : Nat} (ht : t < (ndx L i).vars.length) : ∃ g, vb (ndx L i) = .slice (some ⟨g, 0, none⟩) (ndx L i).vars.length (ndx L i).cap ∧ w.cell? ⟨g, t, none⟩ = some (.int .i64 (-7 - (i : Int))) := by
  obtain ⟨⟨xs, hl, ho, hx⟩, hh⟩ := h i hi'
  obtain ⟨g, c, e⟩ := own_some ho (by omega)
  have e2 : vb (ndx L i) = .slice (ndx L i).adr (ndx L i).vars.length (ndx L i).cap := rfl
  rw [e2] at e
  injection e with e3 _ e4
  subst e4
  have e5 : vb (ndx L i) = .slice (some ⟨g, 0, none⟩) (ndx L i).vars.length (ndx L i).cap := by rw [e2, e3]
  rw [e5] at ho
  refine ⟨g, e5, ?_⟩
  have h1 := own_cell ho (k := t) (by simp [is]; omega)
  rw [h1]
  simp only [is, List.getElem_map]
  rw [pz_eq xs t (by omega), hx t (by omega) (.inl hi')]
end
/-- The nodes' row where the first i are written over. -/
def NdX (w : World) (base hi : Nat) (AN : Option Addr) (cN : Nat) (L : List Nd) (i : Nat) : Prop :=
  (∃ xs : List Value, w.ownsRow base 55 7 (.slice AN L.length cN) L.length xs ∧ ∀ m, i ≤ m → m < L.length → xs[m * 7 + 2]? = some (vb (ndx L m))) ∧ ∀ g, (Value.slice AN L.length cN).ownBlock = some g → g < hi
section
variable {w : World} {base hi cN i : Nat} {AN : Option Addr} {L : List Nd}
theorem NdX.drew (h : NdX w base hi AN cN L i) : NdX w.drew base hi AN cN L i := h
theorem NdX.at_ (h : NdX w base hi AN cN L i) {m : Nat} (him : i ≤ m) (hm : m < L.length) : ∃ gN, AN = some ⟨gN, 0, none⟩ ∧ base ≤ gN ∧ gN < hi ∧ w.cell? ⟨gN, m * 7 + 2, none⟩ = some (vb (ndx L m)) := by
  obtain ⟨⟨xs, ho, hx⟩, hh⟩ := h
  obtain ⟨g, c, e⟩ := own_some ho (by omega)
  injection e with e1 _ e2
  subst e1 e2
  have hl : xs.length = L.length * 7 := ho.1
  obtain ⟨ad, e3, _, hc⟩ := (own_rd ho).1 (m * 7 + 2) (by omega)
  injection e3 with e3
  subst e3
  refine ⟨g, rfl, (ho.lt g rfl).1, hh g rfl, ?_⟩
  have e4 : (⟨g, 0, none⟩ : Addr).add (m * 7 + 2) = ⟨g, m * 7 + 2, none⟩ := by simp [Addr.add]
  rw [e4] at hc
  rw [hc, ← hx m him hm]
  exact (List.getElem?_eq_getElem _).symm
theorem NdX.cell {gN : Nat} (h : NdX w base hi (some ⟨gN, 0, none⟩) cN L i) {k : Nat} (hk : k < L.length * 7) : (∃ u, w.cell? ⟨gN, k, none⟩ = some u) ∧ w.frozen? ⟨gN, k, none⟩ = false := by
  obtain ⟨⟨xs, ho, hx⟩, hh⟩ := h
  exact ⟨own_cellS ho (by have := ho.1; omega), own_frozen ho k⟩
theorem NdX.less (h : NdX w base hi AN cN L i) : NdX w base hi AN cN L (i + 1) := by
  obtain ⟨⟨xs, ho, hx⟩, hh⟩ := h
  exact ⟨⟨xs, ho, fun m h1 h2 => hx m (by omega) h2⟩, hh⟩
theorem NdX.set_ {gN : Nat} (h : NdX w base hi (some ⟨gN, 0, none⟩) cN L (i + 1)) {t : Nat} (ht : t < 7) (u : Value) : NdX (w.setCell ⟨gN, i * 7 + t, none⟩ u) base hi (some ⟨gN, 0, none⟩) cN L (i + 1) := by
  obtain ⟨⟨xs, ho, hx⟩, hh⟩ := h
  refine ⟨⟨_, own_put ho (k := i * 7 + t) u, fun m h1 h2 => ?_⟩, hh⟩
  rw [List.getElem?_set_ne (by omega)]
  exact hx m h1 h2
theorem NdX.other (h : NdX w base hi AN cN L i) {g k : Nat} {u : Value} (hne : (Value.slice AN L.length cN).ownBlock ≠ some g) : NdX (w.setCell ⟨g, k, none⟩ u) base hi AN cN L i := by
  obtain ⟨⟨xs, ho, hx⟩, hh⟩ := h
  exact ⟨⟨xs, own_other ho hne, hx⟩, hh⟩
end
section
variable {w w' : World} {base hi lo : Nat}
theorem Alive.later {n : Nat} {e : TypeId} {v : Value} (h : Alive w base hi e v n) (hb : Below w.heap.size w w') : Alive w' base hi e v n := by
  obtain ⟨⟨xs, ho⟩, hh⟩ := h
  exact ⟨⟨xs, own_below ho hb⟩, hh⟩
theorem Alive.of {n : Nat} {e : TypeId} {v : Value} {xs : List Value} (h : w.ownsRow base e 1 v n xs) : Alive w base w.heap.size e v n := ⟨⟨xs, h⟩, fun g hg => (h.lt g hg).2⟩
theorem NVs.later {L : List Nd} {i j : Nat} (h : NVs w base hi L i j) (hb : Below w.heap.size w w') : NVs w' base hi L i j := fun m hm => by
  obtain ⟨⟨xs, hl, ho, hx⟩, hh⟩ := h m hm
  exact ⟨⟨xs, hl, own_below ho hb, hx⟩, hh⟩
theorem NdX.later {AN : Option Addr} {cN : Nat} {L : List Nd} {i : Nat} (h : NdX w base hi AN cN L i) (hb : Below w.heap.size w w') : NdX w' base hi AN cN L i := by
  obtain ⟨⟨xs, ho, hx⟩, hh⟩ := h
  exact ⟨⟨xs, own_below ho hb, hx⟩, hh⟩
theorem NVs.of {L : List Nd} (h : ∀ n ∈ L, w.ownsRow base 3 1 (vb n) n.vars.length (is n.vars)) : NVs w base w.heap.size L 0 0 := fun m hm => by
  have ho := h (ndx L m) (by rw [← ndx_eq L m hm]; exact List.getElem_mem _)
  exact ⟨⟨(ndx L m).vars, rfl, ho, fun t _ c => by omega⟩, fun g hg => (ho.lt g hg).2⟩
theorem NdX.of {AN : Option Addr} {cN : Nat} {L : List Nd} (h : w.ownsRow base 55 7 (.slice AN L.length cN) L.length (nds L)) : NdX w base w.heap.size AN cN L 0 :=
  ⟨⟨nds L, h, fun m _ hm => by rw [nds_get L m 2 hm (by decide), ndx_eq L m hm]; rfl⟩, fun g hg => (h.lt g hg).2⟩
theorem PlanM.later {vv vh vt : Value} {AN : Option Addr} {cN : Nat} {p : PPlan} {L : List Nd} (h : PlanM base vv vh AN cN vt p L w) (hb : Below w.heap.size w w') : PlanM base vv vh AN cN vt p L w' :=
  ⟨own_below h.vars hb, own_below h.head hb, own_below h.nodes hb, own_below h.tops hb, fun n hn => own_below (h.nv n hn) hb, h.dist⟩
theorem PlanM.gap {vv vh vt : Value} {AN : Option Addr} {cN : Nat} {p : PPlan} {L : List Nd} (h : PlanM base vv vh AN cN vt p L w) (hg : Gap lo hi w w') (hb : hi ≤ base) : PlanM base vv vh AN cN vt p L w' :=
  ⟨own_gap h.vars hg hb, own_gap h.head hg hb, own_gap h.nodes hg hb, own_gap h.tops hg hb, fun n hn => own_gap (h.nv n hn) hg hb, h.dist⟩
end
end Go.Proofs.YtbgbjodehbcgiaaGreatDoor

/- The walk of osierlaw18.PlanMemory. -/
namespace Go.Proofs.YtbgbjodehbcgiaaGreatDoor
open Go.RowKit

theorem PlanR.later {w w' : World} {base : Nat} {vv vh vt : Value} {AN : Option Addr} {cN : Nat} {p : PPlan} {L : List Nd} (h : PlanR base vv vh AN cN vt p L w) (hb : Below w.heap.size w w') : PlanR base vv vh AN cN vt p L w' :=
  ⟨own_below h.vars hb, own_below h.head hb, own_below h.nodes hb, own_below h.tops hb, fun n hn => own_below (h.nv n hn) hb⟩
theorem PlanR.gap {w w' : World} {base lo hi : Nat} {vv vh vt : Value} {AN : Option Addr} {cN : Nat} {p : PPlan} {L : List Nd} (h : PlanR base vv vh AN cN vt p L w) (hg : Gap lo hi w w') (hb : hi ≤ base) : PlanR base vv vh AN cN vt p L w' :=
  ⟨own_gap h.vars hg hb, own_gap h.head hg hb, own_gap h.nodes hg hb, own_gap h.tops hg hb, fun n hn => own_gap (h.nv n hn) hg hb⟩
/-- The written-over plan's other rows, and what has not been turned. -/
structure PSt (lo hi : Nat) (vv vh vt : Value) (nv nh nt : Nat) (w w' : World) : Prop where
  gap : Gap lo hi w w'
  av : Alive w' lo hi 9 vv nv
  ah : Alive w' lo hi 3 vh nh
  at_ : Alive w' lo hi 3 vt nt
theorem PSt.set_ {lo hi : Nat} {vv vh vt : Value} {nv nh nt : Nat} {w w' : World} (h : PSt lo hi vv vh vt nv nh nt w w') {g : Nat} (h1 : lo ≤ g) (h2 : g < hi) (k : Nat) (u : Value) : PSt lo hi vv vh vt nv nh nt w (w'.setCell ⟨g, k, none⟩ u) :=
  ⟨h.gap.set_ h1 h2 k u, h.av.set_ g k u, h.ah.set_ g k u, h.at_.set_ g k u⟩
theorem NVs.put7 {w : World} {base hi i m cN gN : Nat} {L : List Nd} {j : Nat} (h : NVs w base hi L j m) (hn : NdX w base hi (some ⟨gN, 0, none⟩) cN L i) (k : Nat) (a0 a1 a2 a3 a4 a5 a6 : Value) :
    NVs (((((((w.setCell ⟨gN, k * 7 + 0, none⟩ a0).setCell ⟨gN, k * 7 + 1, none⟩ a1).setCell ⟨gN, k * 7 + 2, none⟩ a2).setCell ⟨gN, k * 7 + 3, none⟩ a3).setCell ⟨gN, k * 7 + 4, none⟩ a4).setCell ⟨gN, k * 7 + 5, none⟩ a5).setCell ⟨gN, k * 7 + 6, none⟩ a6) base hi L j m := by
  obtain ⟨⟨xs, ho, _⟩, _⟩ := hn
  have h0 := h.far ho (k * 7 + 0) a0
  have o0 := own_put ho (k := k * 7 + 0) a0
  have h1 := h0.far o0 (k * 7 + 1) a1
  have o1 := own_put o0 (k := k * 7 + 1) a1
  have h2 := h1.far o1 (k * 7 + 2) a2
  have o2 := own_put o1 (k := k * 7 + 2) a2
  have h3 := h2.far o2 (k * 7 + 3) a3
  have o3 := own_put o2 (k := k * 7 + 3) a3
  have h4 := h3.far o3 (k * 7 + 4) a4
  have o4 := own_put o3 (k := k * 7 + 4) a4
  have h5 := h4.far o4 (k * 7 + 5) a5
  have o5 := own_put o4 (k := k * 7 + 5) a5
  exact h5.far o5 (k * 7 + 6) a6
set_option maxRecDepth 100000 in
set_option maxHeartbeats 8000000 in
theorem law_pmemory (q : Qy) (AH : Option Addr) (cH : Nat) (AA : Option Addr) (cA : Nat) (w : World) (hq : SzQ q) (hH : Rd w w.heap.size AH (ss q.head)) (hA : Ats w w.heap.size AA q.atoms) (hT : Tab w) :
    Calls Tryz.prog 5 #[.agg #[.string q.name, .slice AH q.head.length cH, .slice AA q.atoms.length cA]] w fun e w' => e = .returned (.bool true) ∧ Below w.heap.size w w' := by
  go_enter Tryz.func5, Tryz.ntmps5
  go_upto_region 1 with fail
  have hb0 := below_alloc w (.cells #[.string q.name, .slice AH q.head.length cH, .slice AA q.atoms.length cA] 25)
  have hQ0 : Row (w.alloc (.cells #[.string q.name, .slice AH q.head.length cH, .slice AA q.atoms.length cA] 25)) w.heap.size 25 [.string q.name, .slice AH q.head.length cH, .slice AA q.atoms.length cA] := Row.new _ _ _
  generalize w.alloc _ = w0 at hb0 hQ0 ⊢
  have q0 : w0.cell? ⟨w.heap.size, 0, none⟩ = some (.string q.name) := hQ0.cell 0
  have q1 : w0.cell? ⟨w.heap.size, 1, none⟩ = some (.slice AH q.head.length cH) := hQ0.cell 1
  have q2 : w0.cell? ⟨w.heap.size, 2, none⟩ = some (.slice AA q.atoms.length cA) := hQ0.cell 2
  go_wp2_with fail
  refine (copyQ_any q AH cH AA cA w0 hq (hH.later hb0) (hA.later hb0)).mono ?_
  rintro e w1 ⟨gh, A1, c1, rfl, hRh, hA1, hb1⟩
  have hB1 := bthen hb0 hb1
  have hQ1 := hQ0.later hb1
  clear q0 q1 q2 hb0 hQ0 hb1
  go_upto_region 2 with fail
  have hb2 := below_alloc w1 (.cells #[.string q.name, .slice (some ⟨gh, 0, none⟩) q.head.length q.head.length, .slice A1 q.atoms.length c1] 25)
  have hI2 : Row (w1.alloc (.cells #[.string q.name, .slice (some ⟨gh, 0, none⟩) q.head.length q.head.length, .slice A1 q.atoms.length c1] 25)) w1.heap.size 25 [.string q.name, .slice (some ⟨gh, 0, none⟩) q.head.length q.head.length, .slice A1 q.atoms.length c1] := Row.new _ _ _
  have hB2 := bthen hB1 hb2
  have hQ2 := hQ1.later hb2
  have hRh2 : Rd (w1.alloc (.cells #[.string q.name, .slice (some ⟨gh, 0, none⟩) q.head.length q.head.length, .slice A1 q.atoms.length c1] 25)) (w1.alloc (.cells #[.string q.name, .slice (some ⟨gh, 0, none⟩) q.head.length q.head.length, .slice A1 q.atoms.length c1] 25)).heap.size (some ⟨gh, 0, none⟩) (ss q.head) := (hRh.later hb2).rd
  have hA2 := hA1.later hb2
  have hT2 := hT.later hB2
  generalize w1.heap.size = gi at hI2 ⊢
  generalize w1.alloc _ = w2 at hI2 hB2 hQ2 hRh2 hA2 hT2 ⊢
  clear hb2 hB1 hQ1 hRh hA1
  have i0 : w2.cell? ⟨gi, 0, none⟩ = some (.string q.name) := hI2.cell 0
  have i1 : w2.cell? ⟨gi, 1, none⟩ = some (.slice (some ⟨gh, 0, none⟩) q.head.length q.head.length) := hI2.cell 1
  have i2 : w2.cell? ⟨gi, 2, none⟩ = some (.slice A1 q.atoms.length c1) := hI2.cell 2
  go_wp2_with fail
  refine (plan_make_any q (some ⟨gh, 0, none⟩) q.head.length A1 c1 w2 hq (Nat.le_refl _) hRh2 hA2 hT2).mono ?_
  rintro e w3 ⟨p, code, vv, vh, AN, cN, vt, L, rfl, hIS, hpL, hPM, hb3⟩
  have hLl : L.length = p.nodes.length := by rw [hpL, List.length_map]
  have hAV3 := Alive.of hPM.vars
  have hAH3 := Alive.of hPM.head
  have hAT3 := Alive.of hPM.tops
  have hNV3 := NVs.of hPM.nv
  have hND3 := NdX.of hPM.nodes
  have hdist := hPM.dist
  obtain ⟨Av, cv, rfl, _, _, _, _⟩ := Rd.of_own hPM.vars
  obtain ⟨Ah, ch, rfl, _, _, _, _⟩ := Rd.of_own hPM.head
  obtain ⟨At, ct, rfl, _, _, _, _⟩ := Rd.of_own hPM.tops
  have hB3 := bthen hB2 hb3
  have hQ3 := hQ2.later hb3
  have hI3 := hI2.later hb3
  have hRh3 := hRh2.later hb3
  have hA3 := hA2.later hb3
  have HSZ := Lib.hid (szp_of hq hIS.out)
  have hsz2 := hb3.size
  have htb2 := hT2.lt
  have hlN : L.length ≤ 1954687338268 := by rw [hLl]; exact HSZ.out.nodes
  have HLV : Hid (∀ i, i < L.length → (ndx L i).vars.length ≤ 35184372087808) := Lib.hid fun i hi => HSZ.out.nvars (pl (ndx L i)) (by rw [hpL]; exact List.mem_map_of_mem (by rw [← ndx_eq L i hi]; exact List.getElem_mem _))
  have hzt := HSZ.out.tops
  have hzv := HSZ.out.vars
  have hzh := HSZ.out.head
  generalize p.tops.length = nt at hAT3 hzt ⊢
  generalize p.vars.length = nv at hAV3 hzv ⊢
  generalize p.head.length = nh at hAH3 hzh ⊢
  generalize p.root = rt
  have hql := hQ2.lt
  have hil := hI2.lt
  clear hLl hpL hPM i0 i1 i2 hI2 hQ2
  go_upto_region 3 with fail
  have hb4 := below_alloc w3 (.cells #[.slice Av nv cv, .slice Ah nh ch, .slice AN L.length cN, .int .i64 rt, .slice At nt ct] 30)
  have hR4 : Row (w3.alloc (.cells #[.slice Av nv cv, .slice Ah nh ch, .slice AN L.length cN, .int .i64 rt, .slice At nt ct] 30)) w3.heap.size 30 [.slice Av nv cv, .slice Ah nh ch, .slice AN L.length cN, .int .i64 rt, .slice At nt ct] := Row.new _ _ _
  have hB4 := bthen hB3 hb4
  have hC4 := bthen hb3 hb4
  have hQ4 := hQ3.later hb4
  have hI4 := hI3.later hb4
  have hRh4 := hRh3.later hb4
  have hA4 := hA3.later hb4
  have hAV4 := hAV3.later hb4
  have hAH4 := hAH3.later hb4
  have hAT4 := hAT3.later hb4
  have hNV4 := hNV3.later hb4
  have hND4 := hND3.later hb4
  have hs4 := hb4.size
  clear hb4 hB3 hQ3 hI3 hRh3 hA3 hAV3 hAH3 hAT3 hNV3 hND3 hb3
  generalize w3.heap.size = b3 at hR4 hAV4 hAH4 hAT4 hNV4 hND4 hs4 hsz2 ⊢
  generalize w3.alloc _ = w4 at hR4 hB4 hC4 hQ4 hI4 hRh4 hA4 hAV4 hAH4 hAT4 hNV4 hND4 hs4 ⊢
  have hT4 := hT.later hB4
  have i0 : w4.cell? ⟨gi, 0, none⟩ = some (.string q.name) := hI4.cell 0
  have i1 : w4.cell? ⟨gi, 1, none⟩ = some (.slice (some ⟨gh, 0, none⟩) q.head.length q.head.length) := hI4.cell 1
  have i2 : w4.cell? ⟨gi, 2, none⟩ = some (.slice A1 q.atoms.length c1) := hI4.cell 2
  go_wp2_with fail
  refine (plan_make_any q (some ⟨gh, 0, none⟩) q.head.length A1 c1 w4 hq (Nat.le_refl _) hRh4 hA4 hT4).mono ?_
  rintro e w5 ⟨p5, code5, vv5, vh5, AN5, cN5, vt5, L5, rfl, hIS5, hpL5, hPM5, hb5⟩
  obtain ⟨rfl, rfl⟩ := makeIs_uniq hIS.out hIS5.out
  obtain ⟨Av5, cv5, rfl, _, _, _, _⟩ := Rd.of_own hPM5.vars
  obtain ⟨Ah5, ch5, rfl, _, _, _, _⟩ := Rd.of_own hPM5.head
  obtain ⟨At5, ct5, rfl, _, _, _, _⟩ := Rd.of_own hPM5.tops
  have hB5 := bthen hB4 hb5
  have hC5 := bthen hC4 hb5
  have hQ5 := hQ4.later hb5
  have hI5 := hI4.later hb5
  have hR5 := hR4.later hb5
  have hAV5 := hAV4.later hb5
  have hAH5 := hAH4.later hb5
  have hAT5 := hAT4.later hb5
  have hNV5 := hNV4.later hb5
  have hND5 := hND4.later hb5
  have hs5 := Nat.le_trans hs4 hb5.size
  clear i0 i1 i2 hB4 hC4 hQ4 hI4 hR4 hRh4 hA4 hAV4 hAH4 hAT4 hNV4 hND4 hb5 hT4
  go_upto_region 4 with fail
  have hb6 := below_alloc w5 (.cells #[.slice Av5 p.vars.length cv5, .slice Ah5 p.head.length ch5, .slice AN5 L5.length cN5, .int .i64 p.root, .slice At5 p.tops.length ct5] 30)
  have hR6 : Row (w5.alloc (.cells #[.slice Av5 p.vars.length cv5, .slice Ah5 p.head.length ch5, .slice AN5 L5.length cN5, .int .i64 p.root, .slice At5 p.tops.length ct5] 30)) w5.heap.size 30 [.slice Av5 p.vars.length cv5, .slice Ah5 p.head.length ch5, .slice AN5 L5.length cN5, .int .i64 p.root, .slice At5 p.tops.length ct5] := Row.new _ _ _
  have hB6 := bthen hB5 hb6
  have hC6 := bthen hC5 hb6
  have hQ6 := hQ5.later hb6
  have hI6 := hI5.later hb6
  have hP6 := hR5.later hb6
  have hPM6 := hPM5.later hb6
  have hAV6 := hAV5.later hb6
  have hAH6 := hAH5.later hb6
  have hAT6 := hAT5.later hb6
  have hNV6 := hNV5.later hb6
  have hND6 := hND5.later hb6
  have hs6 := Nat.le_trans hs5 hb6.size
  clear hb6 hB5 hC5 hQ5 hI5 hR5 hPM5 hAV5 hAH5 hAT5 hNV5 hND5
  obtain ⟨g6, hg6⟩ : ∃ g6, w5.heap.size = g6 := ⟨_, rfl⟩
  rw [hg6] at hR6 hs5 ⊢
  clear hg6
  generalize w5.alloc _ = w6 at hR6 hB6 hC6 hQ6 hI6 hP6 hPM6 hAV6 hAH6 hAT6 hNV6 hND6 hs6 ⊢
  have q0 : w6.cell? ⟨w.heap.size, 0, none⟩ = some (.string q.name) := hQ6.cell 0
  have q1 : w6.cell? ⟨w.heap.size, 1, none⟩ = some (.slice AH q.head.length cH) := hQ6.cell 1
  have q2 : w6.cell? ⟨w.heap.size, 2, none⟩ = some (.slice AA q.atoms.length cA) := hQ6.cell 2
  go_wp2_with fail
  refine (r18make_any q AH cH AA cA w6 hq (hH.later hB6) (hA.later hB6)).mono ?_
  rintro e w7 ⟨p7, code7, vv7, vh7, AN7, cN7, vt7, L7, rfl, hIS7, hpL7, hPR7, hb7⟩
  obtain ⟨rfl, rfl⟩ := makeIs_uniq hIS.out hIS7.out
  obtain ⟨Av7, cv7, rfl, _, _, _, _⟩ := Rd.of_own hPR7.vars
  obtain ⟨Ah7, ch7, rfl, _, _, _, _⟩ := Rd.of_own hPR7.head
  obtain ⟨At7, ct7, rfl, _, _, _, _⟩ := Rd.of_own hPR7.tops
  have hB7 := bthen hB6 hb7
  have hC7 := bthen hC6 hb7
  have hQ7 := hQ6.later hb7
  have hI7 := hI6.later hb7
  have hP7 := hP6.later hb7
  have hR7 := hR6.later hb7
  have hPM7 := hPM6.later hb7
  have hAV7 := hAV6.later hb7
  have hAH7 := hAH6.later hb7
  have hAT7 := hAT6.later hb7
  have hNV7 := hNV6.later hb7
  have hND7 := hND6.later hb7
  have hs7 := Nat.le_trans hs6 hb7.size
  clear q0 q1 q2 hB6 hC6 hQ6 hI6 hP6 hR6 hPM6 hAV6 hAH6 hAT6 hNV6 hND6 hb7
  go_upto_region 5 with fail
  have hb8 := below_alloc w7 (.cells #[.slice Av7 p.vars.length cv7, .slice Ah7 p.head.length ch7, .slice AN7 L7.length cN7, .int .i64 p.root, .slice At7 p.tops.length ct7] 36)
  have hW8 : Row (w7.alloc (.cells #[.slice Av7 p.vars.length cv7, .slice Ah7 p.head.length ch7, .slice AN7 L7.length cN7, .int .i64 p.root, .slice At7 p.tops.length ct7] 36)) w7.heap.size 36 [.slice Av7 p.vars.length cv7, .slice Ah7 p.head.length ch7, .slice AN7 L7.length cN7, .int .i64 p.root, .slice At7 p.tops.length ct7] := Row.new _ _ _
  have hB8 := bthen hB7 hb8
  have hC8 := bthen hC7 hb8
  have hQ8 := hQ7.later hb8
  have hI8 := hI7.later hb8
  have hP8 := hP7.later hb8
  have hR8 := hR7.later hb8
  have hPM8 := hPM7.later hb8
  have hPR8 := hPR7.later hb8
  have hAV8 := hAV7.later hb8
  have hAH8 := hAH7.later hb8
  have hAT8 := hAT7.later hb8
  have hNV8 := hNV7.later hb8
  have hND8 := hND7.later hb8
  have hs8 := Nat.le_trans hs7 hb8.size
  clear hb8 hB7 hC7 hQ7 hI7 hP7 hR7 hPM7 hPR7 hAV7 hAH7 hAT7 hNV7 hND7
  obtain ⟨g8, hg8⟩ : ∃ g8, w7.heap.size = g8 := ⟨_, rfl⟩
  rw [hg8] at hW8 hs7 ⊢
  clear hg8
  generalize w7.alloc _ = w8 at hW8 hB8 hC8 hQ8 hI8 hP8 hR8 hPM8 hPR8 hAV8 hAH8 hAT8 hNV8 hND8 hs8 ⊢
  obtain ⟨b2, hb2e⟩ : ∃ b2, w2.heap.size = b2 := ⟨_, rfl⟩
  rw [hb2e] at hql hil hsz2 hAV8 hAH8 hAT8 hNV8 hND8 htb2 hC8
  have HST : PSt b2 b3 (.slice Av nv cv) (.slice Ah nh ch) (.slice At nt ct) nv nh nt w8 w8 := ⟨Gap.refl _ _ _, hAV8, hAH8, hAT8⟩
  clear hAV8 hAH8 hAT8
  have HD := Lib.hid hdist
  clear hdist
  have p2 : w8.cell? ⟨b3, 2, none⟩ = some (.slice AN L.length cN) := hP8.cell 2
  go_upto_block 0 with fail
  go_cut [10, 11] (fun _ _ wx => NVs wx b2 b3 L L.length 0 ∧ NdX wx b2 b3 AN cN L 0 ∧ PSt b2 b3 (.slice Av nv cv) (.slice Ah nh ch) (.slice At nt ct) nv nh nt w8 wx)
  case first =>
    clear hQ8 hI8 hR8 hPM8 hPR8 hW8
    go_wp2_with fail
    go_loopw [39, 10, 11] (fun x _ _ wr => ∃ i : Nat, i ≤ L.length ∧ x = .int .i64 i ∧ NVs wr b2 b3 L i 0 ∧ NdX wr b2 b3 AN cN L 0 ∧ PSt b2 b3 (.slice Av nv cv) (.slice Ah nh ch) (.slice At nt ct) nv nh nt w8 wr) (fun x _ _ _ => L.length - (intOf x).toNat)
    case atStart => exact ⟨0, Nat.zero_le _, rfl, hNV8, hND8, HST⟩
    case round =>
      clear hNV8 hND8 HST
      obtain ⟨i, hi, rfl, hNV, hND, hS⟩ := hrel
      by_cases hlt : i < L.length
      · obtain ⟨gN, rfl, _, _, n2⟩ := hND.at_ (Nat.zero_le i) hlt
        have p2 : wr.cell? ⟨b3, 2, none⟩ = some (.slice (some ⟨gN, 0, none⟩) L.length cN) := (hP8.gap hS.gap (.inr (Nat.le_refl _))).cell 2
        have b1 : (0 : Int) ≤ i := by omega
        have b4 : (i : Int) < L.length := by omega
        have n2' : wr.cell? ⟨gN, i * 7 + 2, none⟩ = some (.slice (ndx L i).adr (ndx L i).vars.length (ndx L i).cap) := n2
        have hwr : IntKind.i64.wrap (-7 - (i : Int)) = -7 - (i : Int) := IntWalk.i64_in _ (by omega)
        have hlv := HLV.out i hlt
        obtain ⟨ln, hln⟩ : ∃ ln, (ndx L i).vars.length = ln := ⟨_, rfl⟩
        rw [hln] at hlv
        have HLN := Lib.hid hln
        rw [hln] at n2'
        clear hln n2
        go_wp2_with fail
        go_loopw [49, 11] (fun y _ wr => ∃ j : Nat, j ≤ ln ∧ y = .int .i64 j ∧ NVs wr b2 b3 L i j ∧ NdX wr b2 b3 (some ⟨gN, 0, none⟩) cN L 0 ∧ PSt b2 b3 (.slice Av nv cv) (.slice Ah nh ch) (.slice At nt ct) nv nh nt w8 wr) (fun y _ _ => ln - (intOf y).toNat)
        case atStart => exact ⟨0, Nat.zero_le _, rfl, hNV, hND, hS⟩
        case round =>
          clear hNV hND hS p2 n2'
          obtain ⟨j, hj, rfl, hNV, hND, hS⟩ := hrel
          by_cases hjt : j < ln
          · obtain ⟨gN', e1, hgN1, hgN2, n2⟩ := hND.at_ (Nat.zero_le i) hlt
            obtain rfl : gN = gN' := by injection e1 with e1; injection e1
            obtain ⟨g, u, eg, hg1, hg2, c0, c1⟩ := hNV.at_ hlt (t := j) (by rw [HLN.out]; exact hjt)
            rw [eg, HLN.out] at n2
            have p2 : wr.cell? ⟨b3, 2, none⟩ = some (.slice (some ⟨gN, 0, none⟩) L.length cN) := (hP8.gap hS.gap (.inr (Nat.le_refl _))).cell 2
            have b5 : (0 : Int) ≤ j := by omega
            have b6 : (j : Int) < ln := by omega
            have hNV2 := hNV.set_ hlt HD.out eg
            have hND2 := NdX.other (k := j) (u := .int .i64 (-7 - (i : Int))) hND (g := g) (by
              obtain ⟨⟨xs, ho, _⟩, _⟩ := hND
              obtain ⟨⟨ys, _, hy, _⟩, _⟩ := hNV i hlt
              exact fun c => own_own_ne ho hy (by decide) g c (by rw [eg]; rfl))
            have hS2 := hS.set_ hg1 hg2 j (.int .i64 (-7 - (i : Int)))
            clear hNV hND hS eg
            go_wp2_with fail
            go_roundw
            case rel => exact ⟨j + 1, by omega, by go_num, hNV2, hND2, hS2⟩
            case measure => simp [intOf]; omega
          · obtain rfl : j = ln := by omega
            have hNV2 := hNV.next (by rw [HLN.out]; exact Nat.le_refl _)
            go_wp2_with fail
            go_roundw
            case rel => exact ⟨i + 1, by omega, by go_num, hNV2, hND, hS⟩
            case measure => simp [intOf]; omega
      · obtain rfl : i = L.length := by omega
        go_wp2_with fail
        go_meet
        exact ⟨hNV, hND, hS⟩
  case rest =>
    obtain ⟨hNV9, hND9, hS9⟩ := hcut
    obtain ⟨w9, hw9⟩ : ∃ wo, wo = wc := ⟨_, rfl⟩
    subst hw9
    clear hNV8 hND8 HST p2
    have p2 : w9.cell? ⟨b3, 2, none⟩ = some (.slice AN L.length cN) := (hP8.gap hS9.gap (.inr (Nat.le_refl _))).cell 2
    go_upto_block 4 with fail
    go_cut [12, 13] (fun _ _ wx => PSt b2 b3 (.slice Av nv cv) (.slice Ah nh ch) (.slice At nt ct) nv nh nt w8 wx)
    case first =>
      clear hQ8 hI8 hR8 hPM8 hPR8 hW8 HD
      go_wp2_with fail
      go_loopw [67, 12, 13] (fun x _ _ wr => ∃ i : Nat, i ≤ L.length ∧ x = .int .i64 i ∧ NVs wr b2 b3 L L.length 0 ∧ NdX wr b2 b3 AN cN L i ∧ PSt b2 b3 (.slice Av nv cv) (.slice Ah nh ch) (.slice At nt ct) nv nh nt w8 wr) (fun x _ _ _ => L.length - (intOf x).toNat)
      case atStart => exact ⟨0, Nat.zero_le _, rfl, hNV9, hND9, hS9⟩
      case round =>
        clear hNV9 hND9 hS9 p2
        obtain ⟨i, hi, rfl, hNV, hND, hS⟩ := hrel
        by_cases hlt : i < L.length
        · obtain ⟨gN, rfl, hgN1, hgN2, n2⟩ := hND.at_ (Nat.le_refl i) hlt
          have p2 : wr.cell? ⟨b3, 2, none⟩ = some (.slice (some ⟨gN, 0, none⟩) L.length cN) := (hP8.gap hS.gap (.inr (Nat.le_refl _))).cell 2
          have b1 : (0 : Int) ≤ i := by omega
          have b4 : (i : Int) < L.length := by omega
          have n2' : wr.cell? ⟨gN, i * 7 + 2, none⟩ = some (.slice (ndx L i).adr (ndx L i).vars.length (ndx L i).cap) := n2
          have hwr : IntKind.i64.wrap (-7 - (i : Int)) = -7 - (i : Int) := IntWalk.i64_in _ (by omega)
          have HRD := Lib.hid (fun t (ht : t < (ndx L i).vars.length) => hNV.read hlt ht)
          have hlv := HLV.out i hlt
          obtain ⟨ln, hln⟩ : ∃ ln, (ndx L i).vars.length = ln := ⟨_, rfl⟩
          rw [hln] at hlv
          have HLN := Lib.hid hln
          rw [hln] at n2'
          clear hln n2
          have hcl := fun k hk => hND.cell (k := k) hk
          have hk0 := hcl (i * 7 + 0) (by omega)
          have hk1 := hcl (i * 7 + 1) (by omega)
          have hk2 := hcl (i * 7 + 2) (by omega)
          have hk3 := hcl (i * 7 + 3) (by omega)
          have hk4 := hcl (i * 7 + 4) (by omega)
          have hk5 := hcl (i * 7 + 5) (by omega)
          have hk6 := hcl (i * 7 + 6) (by omega)
          clear hcl
          go_wp2_with fail
          go_loopw [77, 13] (fun y _ wi => ∃ j : Nat, j ≤ ln ∧ y = .int .i64 j ∧ wi = wr) (fun y _ _ => ln - (intOf y).toNat)
          case atStart => exact ⟨0, Nat.zero_le _, rfl, rfl⟩
          case round =>
            obtain ⟨j, hj, rfl, rfl⟩ := hrel
            by_cases hjt : j < ln
            · obtain ⟨g, eg, c0⟩ := HRD.out j (by rw [HLN.out]; exact hjt)
              have n3 := n2'
              have e3 : Value.slice (ndx L i).adr ln (ndx L i).cap = .slice (some ⟨g, 0, none⟩) ln (ndx L i).cap := by rw [← HLN.out]; exact eg
              rw [e3] at n2'
              have b5 : (0 : Int) ≤ j := by omega
              have b6 : (j : Int) < ln := by omega
              clear eg e3 n3
              go_wp2_with fail
              go_roundw
              case rel => exact ⟨j + 1, by omega, by go_num, by first | rfl | trivial⟩
              case measure => simp [intOf]; omega
            · obtain rfl : j = ln := by omega
              have hNV2 : NVs (((((((wr.setCell ⟨gN, i * 7 + 0, none⟩ (.int .i64 9)).setCell ⟨gN, i * 7 + 1, none⟩ (.int .i64 0)).setCell ⟨gN, i * 7 + 2, none⟩ (.slice none 0 0)).setCell ⟨gN, i * 7 + 3, none⟩ (.int .i64 0)).setCell ⟨gN, i * 7 + 4, none⟩ (.int .i64 0)).setCell ⟨gN, i * 7 + 5, none⟩ (.int .i64 0)).setCell ⟨gN, i * 7 + 6, none⟩ (.bool false)) b2 b3 L L.length 0 := hNV.put7 hND i _ _ _ _ _ _ _
              have hND2 := ((((((hND.less.set_ (t := 0) (by decide) (.int .i64 9)).set_ (t := 1) (by decide) (.int .i64 0)).set_ (t := 2) (by decide) (.slice none 0 0)).set_ (t := 3) (by decide) (.int .i64 0)).set_ (t := 4) (by decide) (.int .i64 0)).set_ (t := 5) (by decide) (.int .i64 0)).set_ (t := 6) (by decide) (.bool false)
              have hS2 := ((((((hS.set_ hgN1 hgN2 (i * 7 + 0) (.int .i64 9)).set_ hgN1 hgN2 (i * 7 + 1) (.int .i64 0)).set_ hgN1 hgN2 (i * 7 + 2) (.slice none 0 0)).set_ hgN1 hgN2 (i * 7 + 3) (.int .i64 0)).set_ hgN1 hgN2 (i * 7 + 4) (.int .i64 0)).set_ hgN1 hgN2 (i * 7 + 5) (.int .i64 0)).set_ hgN1 hgN2 (i * 7 + 6) (.bool false)
              obtain ⟨⟨u0, k0⟩, f0⟩ := hk0
              obtain ⟨⟨u1, k1⟩, f1⟩ := hk1
              obtain ⟨⟨u2, k2⟩, f2⟩ := hk2
              obtain ⟨⟨u3, k3⟩, f3⟩ := hk3
              obtain ⟨⟨u4, k4⟩, f4⟩ := hk4
              obtain ⟨⟨u5, k5⟩, f5⟩ := hk5
              obtain ⟨⟨u6, k6⟩, f6⟩ := hk6
              simp only [Nat.add_zero] at k0 f0 hNV2 hND2 hS2
              clear hNV hND hS n2'
              go_wp2_with fail
              go_roundw
              case rel => exact ⟨i + 1, by omega, by go_num, hNV2, hND2, hS2⟩
              case measure => simp [intOf]; omega
        · obtain rfl : i = L.length := by omega
          go_wp2_with fail
          go_meet
          exact hS
    case rest =>
      obtain ⟨w10, hw10⟩ : ∃ wo, wo = wc := ⟨_, rfl⟩
      subst hw10
      have hS10 : PSt b2 b3 (.slice Av nv cv) (.slice Ah nh ch) (.slice At nt ct) nv nh nt w8 w10 := hcut
      have pz10 : w10.cell? ⟨b3, 4, none⟩ = some (.slice At nt ct) := (hP8.gap hS10.gap (.inr (Nat.le_refl _))).cell 4
      go_upto_block 8 with fail
      go_cut [14] (fun _ wx => PSt b2 b3 (.slice Av nv cv) (.slice Ah nh ch) (.slice At nt ct) nv nh nt w8 wx)
      case first =>
        clear hQ8 hI8 hR8 hPM8 hPR8 hW8 HD hRh2 hA2 hT2 hH hA hT
        go_wp2_with fail
        go_loopw [102, 14] (fun x _ wr => ∃ i : Nat, i ≤ nt ∧ x = .int .i64 i ∧ PSt b2 b3 (.slice Av nv cv) (.slice Ah nh ch) (.slice At nt ct) nv nh nt w8 wr) (fun x _ _ => nt - (intOf x).toNat)
        case atStart => exact ⟨0, Nat.zero_le _, rfl, hS10⟩
        case round =>
          clear hS10 pz10
          obtain ⟨i, hi, rfl, hS⟩ := hrel
          by_cases hlt : i < nt
          · obtain ⟨g, c, u, e, hg1, hg2, c0, c1⟩ := hS.at_.at_ hlt
            injection e with e1 _ e2
            subst e1 e2
            have p4 : wr.cell? ⟨b3, 4, none⟩ = some (.slice (some ⟨g, 0, none⟩) nt ct) := (hP8.gap hS.gap (.inr (Nat.le_refl _))).cell 4
            have b1 : (0 : Int) ≤ i := by omega
            have b4 : (i : Int) < nt := by omega
            have hS2 := hS.set_ hg1 hg2 i (.int .i64 (-1))
            clear hS
            go_wp2_with fail
            go_roundw
            case rel => exact ⟨i + 1, by omega, by go_num, hS2⟩
            case measure => simp [intOf]; omega
          · obtain rfl : i = nt := by omega
            go_wp2_with fail
            go_meet
            exact hS
      case rest =>
        obtain ⟨w11, hw11⟩ : ∃ wo, wo = wc := ⟨_, rfl⟩
        subst hw11
        have hS11 : PSt b2 b3 (.slice Av nv cv) (.slice Ah nh ch) (.slice At nt ct) nv nh nt w8 w11 := hcut
        have pz11 : w11.cell? ⟨b3, 0, none⟩ = some (.slice Av nv cv) := (hP8.gap hS11.gap (.inr (Nat.le_refl _))).cell 0
        go_upto_block 10 with fail
        go_cut [15] (fun _ wx => PSt b2 b3 (.slice Av nv cv) (.slice Ah nh ch) (.slice At nt ct) nv nh nt w8 wx)
        case first =>
          clear hQ8 hI8 hR8 hPM8 hPR8 hW8 HD hRh2 hA2 hT2 hH hA hT
          go_wp2_with fail
          go_loopw [113, 15] (fun x _ wr => ∃ i : Nat, i ≤ nv ∧ x = .int .i64 i ∧ PSt b2 b3 (.slice Av nv cv) (.slice Ah nh ch) (.slice At nt ct) nv nh nt w8 wr) (fun x _ _ => nv - (intOf x).toNat)
          case atStart => exact ⟨0, Nat.zero_le _, rfl, hS11⟩
          case round =>
            clear hS11 pz11
            obtain ⟨i, hi, rfl, hS⟩ := hrel
            by_cases hlt : i < nv
            · obtain ⟨g, c, u, e, hg1, hg2, c0, c1⟩ := hS.av.at_ hlt
              injection e with e1 _ e2
              subst e1 e2
              have p4 : wr.cell? ⟨b3, 0, none⟩ = some (.slice (some ⟨g, 0, none⟩) nv cv) := (hP8.gap hS.gap (.inr (Nat.le_refl _))).cell 0
              have b1 : (0 : Int) ≤ i := by omega
              have b4 : (i : Int) < nv := by omega
              have hS2 := hS.set_ hg1 hg2 i (.string { data := #[109, 97, 114, 107] })
              clear hS
              go_wp2_with fail
              go_roundw
              case rel => exact ⟨i + 1, by omega, by go_num, hS2⟩
              case measure => simp [intOf]; omega
            · obtain rfl : i = nv := by omega
              go_wp2_with fail
              go_meet
              exact hS
        case rest =>
          obtain ⟨w12, hw12⟩ : ∃ wo, wo = wc := ⟨_, rfl⟩
          subst hw12
          have hS12 : PSt b2 b3 (.slice Av nv cv) (.slice Ah nh ch) (.slice At nt ct) nv nh nt w8 w12 := hcut
          have pz12 : w12.cell? ⟨b3, 1, none⟩ = some (.slice Ah nh ch) := (hP8.gap hS12.gap (.inr (Nat.le_refl _))).cell 1
          go_upto_block 12 with fail
          go_cut [16] (fun _ wx => PSt b2 b3 (.slice Av nv cv) (.slice Ah nh ch) (.slice At nt ct) nv nh nt w8 wx)
          case first =>
            clear hQ8 hI8 hR8 hPM8 hPR8 hW8 HD hRh2 hA2 hT2 hH hA hT
            go_wp2_with fail
            go_loopw [124, 16] (fun x _ wr => ∃ i : Nat, i ≤ nh ∧ x = .int .i64 i ∧ PSt b2 b3 (.slice Av nv cv) (.slice Ah nh ch) (.slice At nt ct) nv nh nt w8 wr) (fun x _ _ => nh - (intOf x).toNat)
            case atStart => exact ⟨0, Nat.zero_le _, rfl, hS12⟩
            case round =>
              clear hS12 pz12
              obtain ⟨i, hi, rfl, hS⟩ := hrel
              by_cases hlt : i < nh
              · obtain ⟨g, c, u, e, hg1, hg2, c0, c1⟩ := hS.ah.at_ hlt
                injection e with e1 _ e2
                subst e1 e2
                have p4 : wr.cell? ⟨b3, 1, none⟩ = some (.slice (some ⟨g, 0, none⟩) nh ch) := (hP8.gap hS.gap (.inr (Nat.le_refl _))).cell 1
                have b1 : (0 : Int) ≤ i := by omega
                have b4 : (i : Int) < nh := by omega
                have hS2 := hS.set_ hg1 hg2 i (.int .i64 (-2))
                clear hS
                go_wp2_with fail
                go_roundw
                case rel => exact ⟨i + 1, by omega, by go_num, hS2⟩
                case measure => simp [intOf]; omega
              · obtain rfl : i = nh := by omega
                go_wp2_with fail
                go_meet
                exact hS
          case rest =>
            obtain ⟨w13, hw13⟩ : ∃ wo, wo = wc := ⟨_, rfl⟩
            subst hw13
            have hG : Gap b2 b3 w8 w13 := hcut.gap
            have hb28 : b2 ≤ w8.heap.size := Nat.le_trans hsz2 hs8
            have hbAll : Below b2 w2 w13 := hC8.trans (hG.below hb28)
            have hb2s : b2 ≤ w13.heap.size := Nat.le_trans hb28 hG.size
            have hQ13 := hQ8.gap hG (.inl hql)
            have hI13 := hI8.gap hG (.inl hil)
            have hR13 := hR8.gap hG (.inr hs5)
            have hW13 := hW8.gap hG (.inr hs7)
            have hPM13 := hPM8.gap hG hs4
            have hPR13 := hPR8.gap hG hs6
            have hPr : PRs w13 p Av5 Ah5 AN5 At5 := ⟨Rd.of_own' hPM13.vars, Rd.of_own' hPM13.head, by rw [hpL5]; exact NdR.of_own hPM13.nodes hPM13.nv, Rd.of_own' hPM13.tops⟩
            have hPw : PRs w13 p Av7 Ah7 AN7 At7 := ⟨Rd.of_own' hPR13.vars, Rd.of_own' hPR13.head, by rw [hpL7]; exact NdR.of_ownE hPR13.nodes hPR13.nv, Rd.of_own' hPR13.tops⟩
            have hRh13 : Rd w13 w13.heap.size (some ⟨gh, 0, none⟩) (ss q.head) := by
              rw [hb2e] at hRh2
              exact (hRh2.below hbAll).mono hb2s
            have hA13 : Ats w13 w13.heap.size A1 q.atoms := by
              rw [hb2e] at hA2
              exact (hA2.below hbAll).mono hb2s
            have hT13 := hT2.kept htb2 hbAll
            have hwb2 : w.heap.size ≤ b2 := by omega
            have hB13 : Below w.heap.size w w13 := hB2.trans (hbAll.mono hwb2)
            have hH13 := hH.later hB13
            have hAA13 := hA.later hB13
            have hl5 : L5.length = p.nodes.length := by rw [hpL5, List.length_map]
            have hl7 : L7.length = p.nodes.length := by rw [hpL7, List.length_map]
            rw [hl5] at hR13
            rw [hl7] at hW13
            clear hcut hC8 hQ8 hI8 hR8 hW8 hPM8 hPR8 hPM13 hPR13 hB2 hRh2 hA2 hT2 hbAll hb2s hl5 hl7 hH hA hT hG HD hP8 hIS5 hIS7 hpL5 hpL7
            have i0 : w13.cell? ⟨gi, 0, none⟩ = some (.string q.name) := hI13.cell 0
            have i1 : w13.cell? ⟨gi, 1, none⟩ = some (.slice (some ⟨gh, 0, none⟩) q.head.length q.head.length) := hI13.cell 1
            have i2 : w13.cell? ⟨gi, 2, none⟩ = some (.slice A1 q.atoms.length c1) := hI13.cell 2
            go_upto_region 40 with fail
            go_wp2_with fail
            refine (plan_make_any q (some ⟨gh, 0, none⟩) q.head.length A1 c1 w13 hq (Nat.le_refl _) hRh13 hA13 hT13).mono ?_
            rintro e w14 ⟨p4, code4, vv4, vh4, AN4, cN4, vt4, L4, rfl, hIS4, hpL4, hPM4, hb14⟩
            obtain ⟨rfl, rfl⟩ := makeIs_uniq hIS.out hIS4.out
            obtain ⟨Av4, cv4, rfl, _, _, hrv, _⟩ := Rd.of_own hPM4.vars
            obtain ⟨Ah4, ch4, rfl, _, _, hrh, _⟩ := Rd.of_own hPM4.head
            obtain ⟨At4, ct4, rfl, _, _, hrt, _⟩ := Rd.of_own hPM4.tops
            have hNR : NdR w14 w14.heap.size AN4 p.nodes := by rw [hpL4]; exact NdR.of_own hPM4.nodes hPM4.nv
            have hPs : PRs w14 p Av4 Ah4 AN4 At4 := ⟨hrv, hrh, hNR, hrt⟩
            have hl4 : L4.length = p.nodes.length := by rw [hpL4, List.length_map]
            have hB14 := bthen hB13 hb14
            have hQ14 := hQ13.later hb14
            have hI14 := hI13.later hb14
            have hR14 := hR13.later hb14
            have hW14 := hW13.later hb14
            have hPr14 := hPr.later hb14
            have hPw14 := hPw.later hb14
            have hRh14 := hRh13.later hb14
            have hA14 := hA13.later hb14
            have hH14 := hH13.later hb14
            have hAA14 := hAA13.later hb14
            have hT14 := hT13.later hb14
            rw [hl4]
            clear hl4 hpL4 hPM4 hNR hrv hrh hrt hIS hIS4 i0 i1 i2 hQ13 hI13 hR13 hW13 hPr hPw hRh13 hA13 hH13 hAA13 hT13 hb14 hB13
            go_upto_region 41 with fail
            have hb15 := below_alloc w14 (.cells #[.slice Av4 p.vars.length cv4, .slice Ah4 p.head.length ch4, .slice AN4 p.nodes.length cN4, .int .i64 p.root, .slice At4 p.tops.length ct4] 30)
            have hV15 : Row (w14.alloc (.cells #[.slice Av4 p.vars.length cv4, .slice Ah4 p.head.length ch4, .slice AN4 p.nodes.length cN4, .int .i64 p.root, .slice At4 p.tops.length ct4] 30)) w14.heap.size 30 [.slice Av4 p.vars.length cv4, .slice Ah4 p.head.length ch4, .slice AN4 p.nodes.length cN4, .int .i64 p.root, .slice At4 p.tops.length ct4] := Row.new _ _ _
            have hB15 := bthen hB14 hb15
            have hQ15 := hQ14.later hb15
            have hI15 := hI14.later hb15
            have hR15 := hR14.later hb15
            have hW15 := hW14.later hb15
            have hPr15 := hPr14.later hb15
            have hPw15 := hPw14.later hb15
            have hPs15 := hPs.later hb15
            have hRh15 := hRh14.later hb15
            have hA15 := hA14.later hb15
            have hH15 := hH14.later hb15
            have hAA15 := hAA14.later hb15
            have hT15 := hT14.later hb15
            obtain ⟨gz, hgz⟩ : ∃ gz, w14.heap.size = gz := ⟨_, rfl⟩
            rw [hgz] at hV15 ⊢
            generalize w14.alloc _ = wf at hV15 hB15 hQ15 hI15 hR15 hW15 hPr15 hPw15 hPs15 hRh15 hA15 hH15 hAA15 hT15 ⊢
            clear hgz hb15 hB14 hQ14 hI14 hR14 hW14 hPr14 hPw14 hPs hRh14 hA14 hH14 hAA14 hT14
            have C1 : Hid (∀ y, Below wf.heap.size wf y → Calls Tryz.prog 11 #[] y fun e w' => e = .returned (.bool true) ∧ Below wf.heap.size wf w') := Lib.hid fun y hy => (awake18_any y (hT15.later hy)).mono fun e w' ⟨he, hb⟩ => ⟨he, bthen hy hb⟩
            have C2 : Hid (∀ y Av cv Ah ch AN cN At ct, Below wf.heap.size wf y → PRs wf p Av Ah AN At → Calls Tryz.prog 13 #[.agg #[.slice Av p.vars.length cv, .slice Ah p.head.length ch, .slice AN p.nodes.length cN, .int .i64 p.root, .slice At p.tops.length ct]] y fun e w' => ∃ gv gh gt AM cM, e = .returned (.agg #[.slice (some ⟨gv, 0, none⟩) p.vars.length p.vars.length, .slice (some ⟨gh, 0, none⟩) p.head.length p.head.length, .slice AM p.nodes.length cM, .int .i64 p.root, .slice (some ⟨gt, 0, none⟩) p.tops.length p.tops.length]) ∧
                PRs w' p (some ⟨gv, 0, none⟩) (some ⟨gh, 0, none⟩) AM (some ⟨gt, 0, none⟩) ∧ Below wf.heap.size wf w') := Lib.hid fun y Av cv Ah ch AN cN At ct hy h0 => by
              have h := h0.later hy
              refine (of18_any p Av cv Ah ch AN cN At ct y HSZ.out h.1 h.2.1 h.2.2.1 h.2.2.2).mono ?_
              rintro e w' ⟨gv, gh, gt, AN', cN', rfl, h1, h2, h3, h4, hb⟩
              exact ⟨gv, gh, gt, AN', cN', rfl, ⟨h1, h2, h3, h4⟩, bthen hy hb⟩
            have C3 : Hid (∀ y gv gh gt AM cM, Below wf.heap.size wf y → PRs y p (some ⟨gv, 0, none⟩) (some ⟨gh, 0, none⟩) AM (some ⟨gt, 0, none⟩) → Calls Tryz.prog 12 #[.agg #[.slice (some ⟨gv, 0, none⟩) p.vars.length p.vars.length, .slice (some ⟨gh, 0, none⟩) p.head.length p.head.length, .slice AM p.nodes.length cM, .int .i64 p.root, .slice (some ⟨gt, 0, none⟩) p.tops.length p.tops.length], .agg #[.slice Av7 p.vars.length cv7, .slice Ah7 p.head.length ch7, .slice AN7 p.nodes.length cN7, .int .i64 p.root, .slice At7 p.tops.length ct7]] y fun e w' => e = .returned (.bool true) ∧ Below wf.heap.size wf w') := Lib.hid fun y gv gh gt AM cM hy h => by
              have h' := hPw15.later hy
              exact (same18_any p (some ⟨gv, 0, none⟩) (some ⟨gh, 0, none⟩) AM (some ⟨gt, 0, none⟩) Av7 Ah7 AN7 At7 _ _ cM _ cv7 ch7 cN7 ct7 y HSZ.out h.1 h.2.1 h.2.2.1 h.2.2.2 h'.1 h'.2.1 h'.2.2.1 h'.2.2.2).mono fun e w' ⟨he, hb⟩ => ⟨he, bthen hy hb⟩
            have C4 : Hid (∀ y, Below wf.heap.size wf y → Calls Tryz.prog 14 #[.agg #[.string q.name, .slice (some ⟨gh, 0, none⟩) q.head.length q.head.length, .slice A1 q.atoms.length c1], .agg #[.string q.name, .slice AH q.head.length cH, .slice AA q.atoms.length cA]] y fun e w' => e = .returned (.bool true) ∧ Below wf.heap.size wf w') := Lib.hid fun y hy =>
              (same9_any q (some ⟨gh, 0, none⟩) AH A1 AA _ cH c1 cA y hq (hRh15.later hy) (hH15.later hy) (hA15.later hy) (hAA15.later hy)).mono fun e w' ⟨he, hb⟩ => ⟨he, bthen hy hb⟩
            have HK : Hid (∀ y, Below wf.heap.size wf y → Below wf.heap.size wf y ∧ y.cell? ⟨g6, 0, none⟩ = some (.slice Av5 p.vars.length cv5) ∧ y.cell? ⟨g6, 1, none⟩ = some (.slice Ah5 p.head.length ch5) ∧ y.cell? ⟨g6, 2, none⟩ = some (.slice AN5 p.nodes.length cN5) ∧ y.cell? ⟨g6, 3, none⟩ = some (.int .i64 p.root) ∧ y.cell? ⟨g6, 4, none⟩ = some (.slice At5 p.tops.length ct5) ∧ y.cell? ⟨g8, 0, none⟩ = some (.slice Av7 p.vars.length cv7) ∧ y.cell? ⟨g8, 1, none⟩ = some (.slice Ah7 p.head.length ch7) ∧ y.cell? ⟨g8, 2, none⟩ = some (.slice AN7 p.nodes.length cN7) ∧ y.cell? ⟨g8, 3, none⟩ = some (.int .i64 p.root) ∧ y.cell? ⟨g8, 4, none⟩ = some (.slice At7 p.tops.length ct7) ∧ y.cell? ⟨gz, 0, none⟩ = some (.slice Av4 p.vars.length cv4) ∧ y.cell? ⟨gz, 1, none⟩ = some (.slice Ah4 p.head.length ch4) ∧ y.cell? ⟨gz, 2, none⟩ = some (.slice AN4 p.nodes.length cN4) ∧ y.cell? ⟨gz, 3, none⟩ = some (.int .i64 p.root) ∧ y.cell? ⟨gz, 4, none⟩ = some (.slice At4 p.tops.length ct4) ∧ y.cell? ⟨gi, 0, none⟩ = some (.string q.name) ∧ y.cell? ⟨gi, 1, none⟩ = some (.slice (some ⟨gh, 0, none⟩) q.head.length q.head.length) ∧ y.cell? ⟨gi, 2, none⟩ = some (.slice A1 q.atoms.length c1) ∧ y.cell? ⟨w.heap.size, 0, none⟩ = some (.string q.name) ∧ y.cell? ⟨w.heap.size, 1, none⟩ = some (.slice AH q.head.length cH) ∧ y.cell? ⟨w.heap.size, 2, none⟩ = some (.slice AA q.atoms.length cA)) := Lib.hid fun y hy => ⟨hy, (hR15.later hy).cell 0, (hR15.later hy).cell 1, (hR15.later hy).cell 2, (hR15.later hy).cell 3, (hR15.later hy).cell 4, (hW15.later hy).cell 0, (hW15.later hy).cell 1, (hW15.later hy).cell 2, (hW15.later hy).cell 3, (hW15.later hy).cell 4, (hV15.later hy).cell 0, (hV15.later hy).cell 1, (hV15.later hy).cell 2, (hV15.later hy).cell 3, (hV15.later hy).cell 4, (hI15.later hy).cell 0, (hI15.later hy).cell 1, (hI15.later hy).cell 2, (hQ15.later hy).cell 0, (hQ15.later hy).cell 1, (hQ15.later hy).cell 2⟩
            clear hR15 hW15 hV15 hI15 hQ15 hPw15 hRh15 hA15 hT15 hH15 hAA15 HSZ hq hlN
            generalize p.vars.length = nv2 at *
            generalize p.head.length = nh2 at *
            generalize p.nodes.length = nn2 at *
            generalize p.tops.length = nt2 at *
            generalize p.root = root2 at *
            go_region_held3 (fun y : World => Below wf.heap.size wf y ∧ y.cell? ⟨g6, 0, none⟩ = some (.slice Av5 nv2 cv5) ∧ y.cell? ⟨g6, 1, none⟩ = some (.slice Ah5 nh2 ch5) ∧ y.cell? ⟨g6, 2, none⟩ = some (.slice AN5 nn2 cN5) ∧ y.cell? ⟨g6, 3, none⟩ = some (.int .i64 root2) ∧ y.cell? ⟨g6, 4, none⟩ = some (.slice At5 nt2 ct5) ∧ y.cell? ⟨g8, 0, none⟩ = some (.slice Av7 nv2 cv7) ∧ y.cell? ⟨g8, 1, none⟩ = some (.slice Ah7 nh2 ch7) ∧ y.cell? ⟨g8, 2, none⟩ = some (.slice AN7 nn2 cN7) ∧ y.cell? ⟨g8, 3, none⟩ = some (.int .i64 root2) ∧ y.cell? ⟨g8, 4, none⟩ = some (.slice At7 nt2 ct7) ∧ y.cell? ⟨gz, 0, none⟩ = some (.slice Av4 nv2 cv4) ∧ y.cell? ⟨gz, 1, none⟩ = some (.slice Ah4 nh2 ch4) ∧ y.cell? ⟨gz, 2, none⟩ = some (.slice AN4 nn2 cN4) ∧ y.cell? ⟨gz, 3, none⟩ = some (.int .i64 root2) ∧ y.cell? ⟨gz, 4, none⟩ = some (.slice At4 nt2 ct4) ∧ y.cell? ⟨gi, 0, none⟩ = some (.string q.name) ∧ y.cell? ⟨gi, 1, none⟩ = some (.slice (some ⟨gh, 0, none⟩) q.head.length q.head.length) ∧ y.cell? ⟨gi, 2, none⟩ = some (.slice A1 q.atoms.length c1) ∧ y.cell? ⟨w.heap.size, 0, none⟩ = some (.string q.name) ∧ y.cell? ⟨w.heap.size, 1, none⟩ = some (.slice AH q.head.length cH) ∧ y.cell? ⟨w.heap.size, 2, none⟩ = some (.slice AA q.atoms.length cA))
              (first | exact HK.out _ (by assumption) | exact HK.out _ (Below.refl _ _) | exact HK.out _ (Below.refl _ _).drew)
              (first
                | (go_at_call 11; refine (C1.out _ (by first | assumption | exact (Below.refl _ _).drew)).mono ?_; rintro e wq ⟨rfl, hbq⟩)
                | (go_at_call 13; refine (C2.out _ _ _ _ _ _ _ _ _ (by first | assumption | exact (Below.refl _ _).drew) (by assumption)).mono ?_; rintro e wq ⟨gv, gh5, gt, AM, cM, rfl, hrd, hbq⟩)
                | (go_at_call 12; refine (C3.out _ _ _ _ _ _ (by first | assumption | exact (Below.refl _ _).drew) (by assumption)).mono ?_; rintro e wq ⟨rfl, hbq⟩)
                | (go_at_call 14; refine (C4.out _ (by first | assumption | exact (Below.refl _ _).drew)).mono ?_; rintro e wq ⟨rfl, hbq⟩))
            all_goals
              go_wp2_with fail
              go_ret
              exact ⟨by first | rfl | simp, bthen hB15 (by assumption)⟩
end Go.Proofs.YtbgbjodehbcgiaaGreatDoor
