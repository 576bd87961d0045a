/- osierlaw18.same: a plan held against itself. -/
import Derived.Test.YtdemmjofggemhaaDoorBO
import Derived.Test.YtdemmjofggemhaaDoorR09Same
import Derived.Deep.RegionHeld3
import Derived.Deep.CutBlock
import Derived.Deep.DeepCutAuto
import Derived.Test.YtdemmjofggemhaaDoorRegUntil
namespace Go.Proofs.YtdemmjofggemhaaDoor
open Go.RowKit

def rnC (n : PNd) (T : Option Addr) (c : Nat) : List Value := [.int .i64 n.kind, .int .i64 n.atom, .slice T n.vars.length c, .int .i64 n.source, .int .i64 n.side, .int .i64 n.parent, .bool n.top]
set_option maxRecDepth 100000 in
set_option maxHeartbeats 8000000 in
theorem same18_any (p : PPlan) (AV AH AN AT AV' AH' AN' AT' : Option Addr) (cV cH cN cT cV' cH' cN' cT' : Nat) (w : World) (hp : SzP p) (hV : Rd w w.heap.size AV (ss p.vars)) (hH : Rd w w.heap.size AH (is p.head)) (hN : NdR w w.heap.size AN p.nodes) (hT : Rd w w.heap.size AT (is p.tops))
    (hV' : Rd w w.heap.size AV' (ss p.vars)) (hH' : Rd w w.heap.size AH' (is p.head)) (hN' : NdR w w.heap.size AN' p.nodes) (hT' : Rd w w.heap.size AT' (is p.tops)) :
    Calls Tryd.prog 12 #[.agg #[.slice AV p.vars.length cV, .slice AH p.head.length cH, .slice AN p.nodes.length cN, .int .i64 p.root, .slice AT p.tops.length cT], .agg #[.slice AV' p.vars.length cV', .slice AH' p.head.length cH', .slice AN' p.nodes.length cN', .int .i64 p.root, .slice AT' p.tops.length cT']] w fun e w' => e = .returned (.bool true) ∧ Below w.heap.size w w' := by
  obtain ⟨V, Hd, N, rt, Tp⟩ := p
  have z1 := hp.vars
  have z2 := hp.head
  have z3 := hp.nodes
  have z5 := hp.tops
  have HZ := Lib.hid hp.nvars
  clear hp
  simp only at z1 z2 z3 z5 HZ hV hH hN hT hV' hH' hN' hT' ⊢
  go_enter Tryd.func12, Tryd.ntmps12
  go_upto_region 1 with fail
  have hb0 : Below w.heap.size w ((w.alloc (.cells #[.slice AV V.length cV, .slice AH Hd.length cH, .slice AN N.length cN, .int .i64 rt, .slice AT Tp.length cT] 38)).alloc (.cells #[.slice AV' V.length cV', .slice AH' Hd.length cH', .slice AN' N.length cN', .int .i64 rt, .slice AT' Tp.length cT'] 38)) := (below_alloc w _).alloc (by simp) _
  have hP0 : Row ((w.alloc (.cells #[.slice AV V.length cV, .slice AH Hd.length cH, .slice AN N.length cN, .int .i64 rt, .slice AT Tp.length cT] 38)).alloc (.cells #[.slice AV' V.length cV', .slice AH' Hd.length cH', .slice AN' N.length cN', .int .i64 rt, .slice AT' Tp.length cT'] 38)) w.heap.size 38 [.slice AV V.length cV, .slice AH Hd.length cH, .slice AN N.length cN, .int .i64 rt, .slice AT Tp.length cT] := (Row.new w _ _).alloc _
  have hQ0 : Row ((w.alloc (.cells #[.slice AV V.length cV, .slice AH Hd.length cH, .slice AN N.length cN, .int .i64 rt, .slice AT Tp.length cT] 38)).alloc (.cells #[.slice AV' V.length cV', .slice AH' Hd.length cH', .slice AN' N.length cN', .int .i64 rt, .slice AT' Tp.length cT'] 38)) (w.heap.size + 1) 38 [.slice AV' V.length cV', .slice AH' Hd.length cH', .slice AN' N.length cN', .int .i64 rt, .slice AT' Tp.length cT'] := Row.new_ (by simp)
  generalize (w.alloc _).alloc _ = w0 at hb0 hP0 hQ0 ⊢
  have p0 : w0.cell? ⟨w.heap.size, 0, none⟩ = some (.slice AV V.length cV) := hP0.cell 0
  have q0 : w0.cell? ⟨w.heap.size + 1, 0, none⟩ = some (.slice AV' V.length cV') := hQ0.cell 0
  have hST := sameTexts_any AV AV' V V cV cV' w0 (by omega) (by omega) (hV.later hb0) (hV'.later hb0)
  rw [decide_eq_true (rfl : V = V)] at hST
  have HST := Lib.hid hST
  clear hST
  go_wp2_with fail
  refine HST.out.mono ?_
  rintro e w1 ⟨rfl, hb1⟩
  have hB1 := bthen hb0 hb1
  have hP1 := hP0.later hb1
  have hQ1 := hQ0.later hb1
  clear HST p0 q0 hP0 hQ0 hb0 hb1
  have p1 : w1.cell? ⟨w.heap.size, 1, none⟩ = some (.slice AH Hd.length cH) := hP1.cell 1
  have q1 : w1.cell? ⟨w.heap.size + 1, 1, none⟩ = some (.slice AH' Hd.length cH') := hQ1.cell 1
  have hSI := sameInts_any AH AH' Hd Hd cH cH' w1 z2 z2 (hH.later hB1) (hH'.later hB1)
  rw [beq_self_eq_true] at hSI
  have HSI := Lib.hid hSI
  clear hSI
  go_wp2_with fail
  refine HSI.out.mono ?_
  rintro e w2 ⟨rfl, n2, rfl⟩
  have hb2 : Below w1.heap.size w1 (w1.drewN n2) := below_drewN (Below.refl _ _) n2
  have hB2 := bthen hB1 hb2
  have hP2 := hP1.later hb2
  have hQ2 := hQ1.later hb2
  clear HSI p1 q1 hP1 hQ1 hb2 hB1
  generalize w1.drewN n2 = w2 at hB2 hP2 hQ2 ⊢
  have p3 : w2.cell? ⟨w.heap.size, 3, none⟩ = some (.int .i64 rt) := hP2.cell 3
  have q3 : w2.cell? ⟨w.heap.size + 1, 3, none⟩ = some (.int .i64 rt) := hQ2.cell 3
  have p4 : w2.cell? ⟨w.heap.size, 4, none⟩ = some (.slice AT Tp.length cT) := hP2.cell 4
  have q4 : w2.cell? ⟨w.heap.size + 1, 4, none⟩ = some (.slice AT' Tp.length cT') := hQ2.cell 4
  have hSI := sameInts_any AT AT' Tp Tp cT cT' w2 z5 z5 (hT.later hB2) (hT'.later hB2)
  rw [beq_self_eq_true] at hSI
  have HSI := Lib.hid hSI
  clear hSI
  go_wp2_with fail
  refine HSI.out.mono ?_
  rintro e w3 ⟨rfl, n3, rfl⟩
  have hb3 : Below w2.heap.size w2 (w2.drewN n3) := below_drewN (Below.refl _ _) n3
  have hB3 := bthen hB2 hb3
  have hP3 := hP2.later hb3
  have hQ3 := hQ2.later hb3
  clear HSI p3 q3 p4 q4 hP2 hQ2 hb3 hB2
  generalize w2.drewN n3 = w3 at hB3 hP3 hQ3 ⊢
  have p2 : w3.cell? ⟨w.heap.size, 2, none⟩ = some (.slice AN N.length cN) := hP3.cell 2
  have q2 : w3.cell? ⟨w.heap.size + 1, 2, none⟩ = some (.slice AN' N.length cN') := hQ3.cell 2
  have hN3 := hN.later hB3
  have hN3' := hN'.later hB3
  clear hV hH hN hT hV' hH' hN' hT'
  go_wp2_with fail
  go_loopw [49] (fun i wr => ∃ k : Nat, k ≤ N.length ∧ i = .int .i64 k ∧ Below w3.heap.size w3 wr) (fun i _ => N.length - (intOf i).toNat)
  case atStart => exact ⟨0, Nat.zero_le _, rfl, Below.refl _ _⟩
  case round =>
    obtain ⟨k, hk, rfl, hb⟩ := hrel
    have hPr := hP3.later hb
    have hQr := hQ3.later hb
    by_cases hlt : k < N.length
    · obtain ⟨ad, e1, hal, T, cT, hvT, c0, c1, c2, c3, c4, c5, c6⟩ := (hN3.later hb).cells hlt
      obtain ⟨ad', e1', hal', T', cT', hvT', d0, d1, d2, d3, d4, d5, d6⟩ := (hN3'.later hb).cells hlt
      subst e1
      subst e1'
      have hzv := HZ.out (nd N k) (by rw [← nd_eq N k hlt]; exact List.getElem_mem _)
      generalize nd N k = n at c0 c1 c2 c3 c4 c5 c6 d0 d1 d2 d3 d4 d5 d6 hvT hvT' hzv
      have b1 : (0 : Int) ≤ k := by omega
      have b2 : (k : Int) < N.length := by omega
      have r2 : wr.cell? ⟨w.heap.size, 2, none⟩ = some (.slice (some ad) N.length cN) := hPr.cell 2
      have r2' : wr.cell? ⟨w.heap.size + 1, 2, none⟩ = some (.slice (some ad') N.length cN') := hQr.cell 2
      go_upto_region 6 with fail
      go_cut [5, 6, 7] (fun i x y wx => ∃ gx gy, i = .int .i64 k ∧ x = .pointer (some ⟨gx, 0, none⟩) ∧ y = .pointer (some ⟨gy, 0, none⟩) ∧ Row wx gx 93 (rnC n T cT) ∧ Row wx gy 93 (rnC n T' cT') ∧ Below wr.heap.size wr wx)
      case first =>
        have HK : Hid (∀ y, Below wr.drew.heap.size wr.drew y → y.cell? ⟨w.heap.size, 2, none⟩ = some (.slice (some ad) N.length cN) ∧ y.cell? ⟨w.heap.size + 1, 2, none⟩ = some (.slice (some ad') N.length cN') ∧ y.cell? (ad.add (k * 7)) = some (.int .i64 n.kind) ∧ y.cell? ⟨(ad.add (k * 7)).block, (ad.add (k * 7)).off + 1, none⟩ = some (.int .i64 n.atom) ∧ y.cell? ⟨(ad.add (k * 7)).block, (ad.add (k * 7)).off + 2, none⟩ = some (.slice T n.vars.length cT) ∧ y.cell? ⟨(ad.add (k * 7)).block, (ad.add (k * 7)).off + 3, none⟩ = some (.int .i64 n.source) ∧ y.cell? ⟨(ad.add (k * 7)).block, (ad.add (k * 7)).off + 4, none⟩ = some (.int .i64 n.side) ∧ y.cell? ⟨(ad.add (k * 7)).block, (ad.add (k * 7)).off + 5, none⟩ = some (.int .i64 n.parent) ∧ y.cell? ⟨(ad.add (k * 7)).block, (ad.add (k * 7)).off + 6, none⟩ = some (.bool n.top) ∧ y.cell? (ad'.add (k * 7)) = some (.int .i64 n.kind) ∧ y.cell? ⟨(ad'.add (k * 7)).block, (ad'.add (k * 7)).off + 1, none⟩ = some (.int .i64 n.atom) ∧ y.cell? ⟨(ad'.add (k * 7)).block, (ad'.add (k * 7)).off + 2, none⟩ = some (.slice T' n.vars.length cT') ∧ y.cell? ⟨(ad'.add (k * 7)).block, (ad'.add (k * 7)).off + 3, none⟩ = some (.int .i64 n.source) ∧ y.cell? ⟨(ad'.add (k * 7)).block, (ad'.add (k * 7)).off + 4, none⟩ = some (.int .i64 n.side) ∧ y.cell? ⟨(ad'.add (k * 7)).block, (ad'.add (k * 7)).off + 5, none⟩ = some (.int .i64 n.parent) ∧ y.cell? ⟨(ad'.add (k * 7)).block, (ad'.add (k * 7)).off + 6, none⟩ = some (.bool n.top)) := Lib.hid fun y hy =>
          have hk := fun (p : Addr) (hp : p.block < wr.drew.heap.size) => hy.cell (p := p) hp
          ⟨(hk _ hPr.lt).trans r2, (hk _ hQr.lt).trans r2', (hk _ (by rw [block_add]; exact hal)).trans c0, (hk _ (by rw [block_add]; exact hal)).trans c1, (hk _ (by rw [block_add]; exact hal)).trans c2, (hk _ (by rw [block_add]; exact hal)).trans c3, (hk _ (by rw [block_add]; exact hal)).trans c4, (hk _ (by rw [block_add]; exact hal)).trans c5, (hk _ (by rw [block_add]; exact hal)).trans c6, (hk _ (by rw [block_add]; exact hal')).trans d0, (hk _ (by rw [block_add]; exact hal')).trans d1, (hk _ (by rw [block_add]; exact hal')).trans d2, (hk _ (by rw [block_add]; exact hal')).trans d3, (hk _ (by rw [block_add]; exact hal')).trans d4, (hk _ (by rw [block_add]; exact hal')).trans d5, (hk _ (by rw [block_add]; exact hal')).trans d6⟩
        refine wp_region_until 13 (fun y : World => y.cell? ⟨w.heap.size, 2, none⟩ = some (.slice (some ad) N.length cN) ∧ y.cell? ⟨w.heap.size + 1, 2, none⟩ = some (.slice (some ad') N.length cN') ∧ y.cell? (ad.add (k * 7)) = some (.int .i64 n.kind) ∧ y.cell? ⟨(ad.add (k * 7)).block, (ad.add (k * 7)).off + 1, none⟩ = some (.int .i64 n.atom) ∧ y.cell? ⟨(ad.add (k * 7)).block, (ad.add (k * 7)).off + 2, none⟩ = some (.slice T n.vars.length cT) ∧ y.cell? ⟨(ad.add (k * 7)).block, (ad.add (k * 7)).off + 3, none⟩ = some (.int .i64 n.source) ∧ y.cell? ⟨(ad.add (k * 7)).block, (ad.add (k * 7)).off + 4, none⟩ = some (.int .i64 n.side) ∧ y.cell? ⟨(ad.add (k * 7)).block, (ad.add (k * 7)).off + 5, none⟩ = some (.int .i64 n.parent) ∧ y.cell? ⟨(ad.add (k * 7)).block, (ad.add (k * 7)).off + 6, none⟩ = some (.bool n.top) ∧ y.cell? (ad'.add (k * 7)) = some (.int .i64 n.kind) ∧ y.cell? ⟨(ad'.add (k * 7)).block, (ad'.add (k * 7)).off + 1, none⟩ = some (.int .i64 n.atom) ∧ y.cell? ⟨(ad'.add (k * 7)).block, (ad'.add (k * 7)).off + 2, none⟩ = some (.slice T' n.vars.length cT') ∧ y.cell? ⟨(ad'.add (k * 7)).block, (ad'.add (k * 7)).off + 3, none⟩ = some (.int .i64 n.source) ∧ y.cell? ⟨(ad'.add (k * 7)).block, (ad'.add (k * 7)).off + 4, none⟩ = some (.int .i64 n.side) ∧ y.cell? ⟨(ad'.add (k * 7)).block, (ad'.add (k * 7)).off + 5, none⟩ = some (.int .i64 n.parent) ∧ y.cell? ⟨(ad'.add (k * 7)).block, (ad'.add (k * 7)).off + 6, none⟩ = some (.bool n.top)) (by kernel_rfl) (HK.out _ (Below.refl _ _)) (fun hHeld => ?_)
        refine uN 0 hHeld ?_
        try simp only [Act.put, uA, u0, u1]
        refine uL 1 [1] hHeld ?_
        try simp only [Act.put, uA, u0, u1]
        refine uN 2 hHeld ?_
        try simp only [Act.put, uA, u0, u1]
        refine uN 3 hHeld ?_
        try simp only [Act.put, uA, u0, u1]
        refine uL 4 [4] hHeld ?_
        try simp only [Act.put, uA, u0, u1]
        refine uN 5 hHeld ?_
        try simp only [Act.put, uA, u0, u1]
        refine uL 6 [6] hHeld ?_
        try simp only [Act.put, uA, u0, u1]
        refine uN 7 hHeld ?_
        try simp only [Act.put, uA, u0, u1]
        refine uN 8 hHeld ?_
        try simp only [Act.put, uA, u0, u1]
        refine uL 9 [9] hHeld ?_
        try simp only [Act.put, uA, u0, u1]
        refine wpAnyU_two (i := 10) (j := 11) (by kernel_rfl) rfl rfl (fun K hK => ?_) (fun K hK => ?_)
        · go_simp
          refine hK.out _ _ (HK.out _ (Below.alloc (Below.refl _ _) (Nat.le_refl _) (.cells #[.int .i64 0, .int .i64 0, .slice none 0 0, .int .i64 0, .int .i64 0, .int .i64 0, .bool false] 93))) (fun hNew => ?_)
          clear hK K hHeld
          have hHeld := hNew
          clear hNew
          try simp only [Act.put, uA, u0, u1]
          refine wpAnyU_one (i := 11) (by kernel_rfl) rfl (fun K hK => ?_)
          go_simp
          refine hK.out _ _ (HK.out _ (Below.alloc (Below.alloc (Below.refl _ _) (Nat.le_refl _) (.cells #[.int .i64 0, .int .i64 0, .slice none 0 0, .int .i64 0, .int .i64 0, .int .i64 0, .bool false] 93)) (by simp) (.cells #[.int .i64 0, .int .i64 0, .slice none 0 0, .int .i64 0, .int .i64 0, .int .i64 0, .bool false] 93))) (fun hNew => ?_)
          clear hK K hHeld
          have hHeld := hNew
          clear hNew
          try simp only [Act.put, uA, u0, u1]
          refine wpAnyU_one (i := 12) (by kernel_rfl) rfl (fun K hK => ?_)
          go_simp
          have hbk := ((below_alloc wr (.cells #[.int .i64 n.kind, .int .i64 n.atom, .slice T n.vars.length cT, .int .i64 n.source, .int .i64 n.side, .int .i64 n.parent, .bool n.top] 93)).alloc (by simp) (.cells #[.int .i64 0, .int .i64 0, .slice none 0 0, .int .i64 0, .int .i64 0, .int .i64 0, .bool false] 93)).drew
          refine hK.out _ _ (HK.out _ ⟨hbk.os, hbk.tape, hbk.output, hbk.size, hbk.block⟩) (fun hNew => ?_)
          clear hK K hHeld
          have hHeld := hNew
          clear hNew
          try simp only [Act.put, uA, u0, u1]
          refine wpAnyU_last (i := 13) (by kernel_rfl) rfl (by kernel_rfl) (fun K hK => ?_)
          go_simp
          refine hK.out _ _ ?_
          clear hK K hHeld
          try simp only [Act.put]
          refine wpAnyU_done (by kernel_rfl) ?_ _
          go_wp2_with fail
          go_meet
          exact ⟨wr.heap.size, wr.heap.size + 1, rfl, rfl, rfl, ((Row.new wr _ _).alloc _).drew, (Row.new_ (by simp)).drew, ((below_alloc wr _).alloc (by simp) _).drew⟩
        · go_simp
          refine hK.out _ _ (HK.out _ (Below.alloc (Below.refl _ _) (Nat.le_refl _) (.cells #[.int .i64 0, .int .i64 0, .slice none 0 0, .int .i64 0, .int .i64 0, .int .i64 0, .bool false] 93))) (fun hNew => ?_)
          clear hK K hHeld
          have hHeld := hNew
          clear hNew
          try simp only [Act.put, uA, u0, u1]
          refine wpAnyU_one (i := 10) (by kernel_rfl) rfl (fun K hK => ?_)
          go_simp
          refine hK.out _ _ (HK.out _ (Below.alloc (Below.alloc (Below.refl _ _) (Nat.le_refl _) (.cells #[.int .i64 0, .int .i64 0, .slice none 0 0, .int .i64 0, .int .i64 0, .int .i64 0, .bool false] 93)) (by simp) (.cells #[.int .i64 0, .int .i64 0, .slice none 0 0, .int .i64 0, .int .i64 0, .int .i64 0, .bool false] 93))) (fun hNew => ?_)
          clear hK K hHeld
          have hHeld := hNew
          clear hNew
          try simp only [Act.put, uA, u0, u1]
          refine wpAnyU_one (i := 12) (by kernel_rfl) rfl (fun K hK => ?_)
          go_simp
          have hbk := ((below_alloc wr (.cells #[.int .i64 0, .int .i64 0, .slice none 0 0, .int .i64 0, .int .i64 0, .int .i64 0, .bool false] 93)).alloc (by simp) (.cells #[.int .i64 n.kind, .int .i64 n.atom, .slice T n.vars.length cT, .int .i64 n.source, .int .i64 n.side, .int .i64 n.parent, .bool n.top] 93)).drew
          refine hK.out _ _ (HK.out _ ⟨hbk.os, hbk.tape, hbk.output, hbk.size, hbk.block⟩) (fun hNew => ?_)
          clear hK K hHeld
          have hHeld := hNew
          clear hNew
          try simp only [Act.put, uA, u0, u1]
          refine wpAnyU_last (i := 13) (by kernel_rfl) rfl (by kernel_rfl) (fun K hK => ?_)
          go_simp
          refine hK.out _ _ ?_
          clear hK K hHeld
          try simp only [Act.put]
          refine wpAnyU_done (by kernel_rfl) ?_ _
          go_wp2_with fail
          go_meet
          exact ⟨wr.heap.size + 1, wr.heap.size, rfl, rfl, rfl, (Row.new_ (by simp)).drew, ((Row.new wr _ _).alloc _).drew, ((below_alloc wr _).alloc (by simp) _).drew⟩
      case rest =>
        obtain ⟨gx, gy, rfl, rfl, rfl, hX, hY, hbc⟩ := hcut
        obtain ⟨w5, hw5⟩ : ∃ wo, wo = wc := ⟨_, rfl⟩
        subst hw5
        have hb5 := hb.trans (hbc.mono hb.size)
        have hvX : Rd w5 w5.heap.size T (is n.vars) := hvT.later hbc
        have hvY : Rd w5 w5.heap.size T' (is n.vars) := hvT'.later hbc
        have x0 : w5.cell? ⟨gx, 0, none⟩ = some (.int .i64 n.kind) := hX.cell 0
        have x1 : w5.cell? ⟨gx, 1, none⟩ = some (.int .i64 n.atom) := hX.cell 1
        have x2 : w5.cell? ⟨gx, 2, none⟩ = some (.slice T n.vars.length cT) := hX.cell 2
        have y0 : w5.cell? ⟨gy, 0, none⟩ = some (.int .i64 n.kind) := hY.cell 0
        have y1 : w5.cell? ⟨gy, 1, none⟩ = some (.int .i64 n.atom) := hY.cell 1
        have y2 : w5.cell? ⟨gy, 2, none⟩ = some (.slice T' n.vars.length cT') := hY.cell 2
        have hSI := sameInts_any T T' n.vars n.vars cT cT' w5 hzv hzv hvX hvY
        rw [beq_self_eq_true] at hSI
        have HSI := Lib.hid hSI
        clear hSI hPr hQr hb hbc c0 c1 c2 c3 c4 c5 c6 d0 d1 d2 d3 d4 d5 d6 r2 r2' hvT hvT' hvX hvY
        go_wp2_with fail
        refine HSI.out.mono ?_
        rintro e w6 ⟨rfl, n6, rfl⟩
        have hb6 := below_drewN hb5 n6
        have hX6 := hX.later (below_drewN (Below.refl _ _) n6)
        have hY6 := hY.later (below_drewN (Below.refl _ _) n6)
        clear x0 x1 x2 y0 y1 y2 HSI hX hY hb5
        generalize w5.drewN n6 = w7 at hb6 hX6 hY6 ⊢
        have x3 : w7.cell? ⟨gx, 3, none⟩ = some (.int .i64 n.source) := hX6.cell 3
        have x4 : w7.cell? ⟨gx, 4, none⟩ = some (.int .i64 n.side) := hX6.cell 4
        have x5 : w7.cell? ⟨gx, 5, none⟩ = some (.int .i64 n.parent) := hX6.cell 5
        have x6 : w7.cell? ⟨gx, 6, none⟩ = some (.bool n.top) := hX6.cell 6
        have y3 : w7.cell? ⟨gy, 3, none⟩ = some (.int .i64 n.source) := hY6.cell 3
        have y4 : w7.cell? ⟨gy, 4, none⟩ = some (.int .i64 n.side) := hY6.cell 4
        have y5 : w7.cell? ⟨gy, 5, none⟩ = some (.int .i64 n.parent) := hY6.cell 5
        have y6 : w7.cell? ⟨gy, 6, none⟩ = some (.bool n.top) := hY6.cell 6
        go_wp2_with fail
        go_roundw
        case rel => exact ⟨k + 1, by omega, by go_num, hb6⟩
        case measure => simp [intOf]; omega
    · obtain rfl : k = N.length := by omega
      go_wp2_with fail
      go_ret
      exact ⟨by first | rfl | trivial, bthen hB3 hb⟩
end Go.Proofs.YtdemmjofggemhaaDoor
