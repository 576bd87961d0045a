/- Several texts in one: R18List R18Step R18Law R18Mem R18StepQ R18Order. -/
import Derived.Test.YtbgbjodehbcgiaaGreatDoorPList
import Derived.Test.YtbgbjodehbcgiaaGreatDoorPWith
import Derived.Test.YtbgbjodehbcgiaaGreatDoorBO
import Derived.Test.YtbgbjodehbcgiaaGreatDoorPPlan
import Derived.Test.YtbgbjodehbcgiaaGreatDoorConnLaw
import Derived.Test.YtbgbjodehbcgiaaGreatDoorBG
import Derived.Test.YtbgbjodehbcgiaaGreatDoorPOrder
/- osierref18.List and all: the contracts. -/
namespace Go.Proofs.YtbgbjodehbcgiaaGreatDoor
open Go.RowKit

def lstTo (x : BitVec 32) (k : Nat) : List Int := ((List.range k).filter fun v => x.getLsbD v).map Int.ofNat
theorem lstTo_yes {x : BitVec 32} {k : Nat} (h : x.getLsbD k = true) : lstTo x (k + 1) = lstTo x k ++ [(k : Int)] := by
  unfold lstTo
  rw [List.range_succ, List.filter_append, List.map_append]
  simp [h]
theorem lstTo_no {x : BitVec 32} {k : Nat} (h : x.getLsbD k = false) : lstTo x (k + 1) = lstTo x k := by
  unfold lstTo
  rw [List.range_succ, List.filter_append, List.map_append]
  simp [h]
theorem lstTo_len (x : BitVec 32) (k : Nat) : (lstTo x k).length ≤ k := by
  unfold lstTo
  rw [List.length_map]
  have := List.length_filter_le (fun v => x.getLsbD v) (List.range k)
  rwa [List.length_range] at this
theorem lstTo_all (x : BitVec 32) : lstTo x 32 = lst x := rfl
set_option maxRecDepth 100000 in
theorem r18list_any (x : BitVec 32) (w : World) :
    Calls Tryz.prog 40 #[.int .u32 (uz x)] w fun e w' => ∃ v, e = .returned v ∧ w'.ownsRow w.heap.size 3 1 v (lst x).length (is (lst x)) ∧ Below w.heap.size w w' := by
  go_enter Tryz.func40, Tryz.ntmps40
  go_wp2_with fail
  go_loopw [3, 4] (fun v i wr => ∃ k : Nat, k ≤ 32 ∧ i = .int .i64 k ∧ wr.ownsRow w.heap.size 3 1 v (lstTo x k).length (is (lstTo x k)) ∧ Below w.heap.size w wr) (fun _ i _ => 32 - (intOf i).toNat)
  case atStart => exact ⟨0, Nat.zero_le _, rfl, World.ownsRow_nil _ _ _ _, Below.refl _ _⟩
  case round =>
    obtain ⟨k, hk, rfl, hown, hb⟩ := hrel
    by_cases hlt : k < 32
    · have g1 : decide ((k : Int) < 32) = true := decide_eq_true (by omega)
      have g1n : decide (k < 32) = true := decide_eq_true hlt
      have HI := Lib.hid (in_any x (k : Int) wr)
      rw [inB_nat] at HI
      have hl := lstTo_len x k
      have HY := Lib.hid (lstTo_yes (x := x) (k := k))
      have HN := Lib.hid (lstTo_no (x := x) (k := k))
      obtain ⟨R, hR⟩ : ∃ R, lstTo x (k + 1) = R := ⟨_, rfl⟩
      rw [hR] at HY HN
      have HR := Lib.hid hR
      clear hR
      generalize lstTo x k = Z at hown hl HY HN
      cases hx : x.getLsbD k
      · have hZ := HN.out hx
        rw [hx] at HI
        clear HY HN hx
        go_wp2_with fail
        refine HI.out.mono ?_
        rintro e w1 ⟨rfl, rfl⟩
        go_wp2_with fail
        go_roundw
        case rel => exact ⟨k + 1, by omega, by go_num, by rw [HR.out, hZ]; exact hown, hb⟩
        case measure => simp [intOf]; omega
      · have hZ := HY.out hx
        rw [hx] at HI
        clear HY HN hx
        go_wp2_with fail
        refine HI.out.mono ?_
        rintro e w1 ⟨rfl, rfl⟩
        go_wp2_with (at_builtin; refine app_int rfl (.tmp 12) (.tmp 14) rfl w.heap.size _ _ Z (k : Int) rfl rfl hown (by omega) hb.size ?_)
        intro v2 w2 hown2 hb2
        go_wp2_with fail
        go_roundw
        case rel => exact ⟨k + 1, by omega, by go_num, by rw [HR.out, hZ, List.length_append]; exact hown2, hb.trans hb2⟩
        case measure => simp [intOf]; omega
    · obtain rfl : k = 32 := by omega
      rw [lstTo_all] at hown
      go_wp2_with fail
      go_ret
      exact ⟨_, rfl, hown, hb⟩
theorem allIn_no {L : Lt} {head : BitVec 32} {k : Nat} (hk : k < L.length) (h : subB (lft L k).2 head = false) : allIn L head = false := by
  rw [← Bool.not_eq_true, allIn_iff]
  intro c
  rw [(subB_iff _ _).2 (c _ (by rw [← lft_eq L k hk]; exact List.getElem_mem _))] at h
  cases h
theorem allIn_yes {L : Lt} {head : BitVec 32} (h : ∀ j, j < L.length → subB (lft L j).2 head = true) : allIn L head = true := by
  rw [allIn_iff]
  intro x hx
  obtain ⟨j, hj, rfl⟩ := List.getElem_of_mem hx
  rw [lft_eq L j hj]
  exact (subB_iff _ _).1 (h j hj)
set_option maxRecDepth 100000 in
theorem r18all_any (A : Option Addr) (L : Lt) (c : Nat) (head : BitVec 32) (w : World) (hl : L.length ≤ 35184372087808) (hL : Rd w w.heap.size A (lfs L)) :
    Calls Tryz.prog 42 #[.slice A L.length c, .int .u32 (uz head)] w fun e w' => e = .returned (.bool (allIn L head)) ∧ w = w' := by
  go_enter Tryz.func42, Tryz.ntmps42
  go_wp2_with fail
  go_loopw [5] (fun i wr => ∃ k : Nat, k ≤ L.length ∧ i = .int .i64 k ∧ Hid (∀ j, j < k → subB (lft L j).2 head = true) ∧ w = wr) (fun i _ => L.length - (intOf i).toNat)
  case atStart => exact ⟨0, Nat.zero_le _, rfl, Lib.hid fun j hj => absurd hj (Nat.not_lt_zero _), rfl⟩
  case round =>
    obtain ⟨k, hk, rfl, HY, rfl⟩ := hrel
    by_cases hlt : k < L.length
    · obtain ⟨ad, hA, _, c0, c1⟩ := hL.lf_cells hlt
      subst hA
      have b1 : (0 : Int) ≤ k := by omega
      have b2 : (k : Int) < L.length := by omega
      have HW := Lib.hid (within_any (lft L k).2 head w)
      cases hs : subB (lft L k).2 head
      · have HX := Lib.hid (allIn_no hlt hs)
        rw [hs] at HW
        clear hs HY
        generalize lft L k = y at c0 c1 HW
        go_wp2_with fail
        refine HW.out.mono ?_
        rintro e w1 ⟨rfl, rfl⟩
        go_wp2_with fail
        go_ret
        exact ⟨congrArg (fun z => Ending.returned (.bool z)) HX.out.symm, rfl⟩
      · have HX : Hid (∀ j, j < k + 1 → subB (lft L j).2 head = true) := Lib.hid fun j hj => by
          rcases Nat.lt_or_ge j k with d | d
          · exact HY.out j d
          · obtain rfl : j = k := by omega
            exact hs
        rw [hs] at HW
        clear hs HY
        generalize lft L k = y at c0 c1 HW
        go_wp2_with fail
        refine HW.out.mono ?_
        rintro e w1 ⟨rfl, rfl⟩
        go_wp2_with fail
        go_roundw
        case rel => exact ⟨k + 1, by omega, by go_num, HX, by first | trivial | rfl⟩
        case measure => simp [intOf]; omega
    · obtain rfl : k = L.length := by omega
      have HX := Lib.hid (allIn_yes HY.out)
      go_wp2_with fail
      go_ret
      exact ⟨congrArg (fun z => Ending.returned (.bool z)) HX.out.symm, rfl⟩
end Go.Proofs.YtbgbjodehbcgiaaGreatDoor

/- osierref18.step: a node for a step; the contract. -/
namespace Go.Proofs.YtbgbjodehbcgiaaGreatDoor
open Go.RowKit

section
variable {wr : World} {ops : Array Oper} {rest : List Oper} {o : Oper} {a : Act} {Q : Exit → Act → World → Prop}
theorem app_rnode (hgd : o.guard = none) (s x : Operand) (ho : o.op = .call { callee := .builtin .append, args := #[s, x], argTypes := #[34, 34] })
    (base : Nat) (v : Value) (L : List Nd) (k : Nat) (n : Nd) (hs : a.eval s = v) (hx : a.eval x = .slice (some ⟨wr.heap.size, 0, none⟩) 1 1) (hown : wr.ownsRow base 96 7 v k (nds L))
    (hn : k ≤ 1000) (hbase : base ≤ wr.heap.size)
    (h : ∀ A' c' w', w'.ownsRow base 96 7 (.slice A' (k + 1) c') (k + 1) (nds (L ++ [n])) → wr.grownBy w' v.ownBlock → Below base wr w' → wpList Tryz.prog ops Q rest (a.put o.dst (.slice A' (k + 1) c')) w') :
    wpList Tryz.prog ops Q (o :: rest) a (wr.alloc (.cells #[.int .i64 n.kind, .int .i64 n.atom, .slice n.adr n.vars.length n.cap, .int .i64 n.source, .int .i64 n.side, .int .i64 n.parent, .bool n.top] 96)) := by
  obtain ⟨i, hi, hz, hs1, hb1⟩ := info_parts Tryz.info_rnode
  refine wpList_append_own_at _ hgd s x 34 ho base 96 i _ 7 72 Tryz.underlying34 hi hz hs1 hb1 rfl (by decide) v k (nds L) hs (hown.alloc _) ⟨wr.heap.size, 0, none⟩ 1 1 (ndC n) hx (by rfl) (World.news_of_block (heap_alloc_new wr _)) (ndC_one n) (by unfold maxLen; omega) (by omega) (by simp; omega) ?_
  intro v' w' hown' hg _ _
  have hb : Below base wr w' := ((Below.refl _ _).alloc hbase _).grown hg (by simp; omega) fun k hk => (hown.lt k hk).1
  obtain ⟨A', c', rfl, -⟩ := Rd.of_ownS hown'
  exact h A' c' w' (by rw [nds_snoc]; exact hown') ⟨hg.os, hg.tape, hg.output, by have := hg.size; simp at this; omega, fun k hk hne => (hg.block k (by simp; omega) hne).trans (Below.heap_alloc wr _ k hk)⟩ hb
end
theorem Two.of_below {w w' : World} {gb : Nat} {r : Option Nat} (h : Below w.heap.size w w') : Two gb r w w' := ⟨h.os, h.tape, h.output, h.size, fun k hk _ _ => h.block k hk⟩
set_option maxRecDepth 100000 in
set_option maxHeartbeats 8000000 in
theorem r18step_any (base : Nat) (L : List Nd) (AN : Option Addr) (cN gP cP : Nat) (P : List Int) (Ll : Lt) (AL : Option Addr) (cl : Nat) (k : Int) (e i : Nat) (ct : BitVec 32) (x : Nat × BitVec 32) (kd sr sd : Int) (w : World) (hkd : kd = if k = 1 then 2 else 3) (hsr : sr = if k = 1 then pz P e else pz P i) (hsd : sd = if k = 1 then 0 else pz P e)
    (_hbase : base ≤ w.heap.size) (hll : Ll.length ≤ 7) (hs : Srt Ll) (hx : x ∈ Ll) (hat : x.1 = if k = 1 then e else i) (he : e < P.length) (hi : i < P.length) (hl : L.length ≤ 1000)
    (hN : w.ownsRow base 96 7 (.slice AN L.length cN) L.length (nds L)) (hP : w.ownsRow base 3 1 (.slice (some ⟨gP, 0, none⟩) P.length cP) P.length (is P)) (hL : Rd w w.heap.size AL (lfs Ll)) :
    Calls Tryz.prog 44 #[.slice AN L.length cN, .slice (some ⟨gP, 0, none⟩) P.length cP, .slice AL Ll.length cl, .agg #[.int .i64 k, .int .i64 e, .int .i64 i, .int .u32 (uz ct)]] w fun en w' => ∃ (AN' : Option Addr) (cN' : Nat) (adr : Option Addr) (cap : Nat), en = .returned (.slice AN' (L.length + 1) cN') ∧
      w'.ownsRow base 96 7 (.slice AN' (L.length + 1) cN') (L.length + 1) (nds (L ++ [⟨kd, 0, adr, cap, lst (x.2 &&& ~~~ct), sr, sd, 0, false⟩])) ∧
      w'.ownsRow base 3 1 (.slice (some ⟨gP, 0, none⟩) P.length cP) P.length (is (P.set x.1 L.length)) ∧ w'.ownsRow w.heap.size 3 1 (.slice adr (lst (x.2 &&& ~~~ct)).length cap) (lst (x.2 &&& ~~~ct)).length (is (lst (x.2 &&& ~~~ct))) ∧ Two gP (Value.slice AN L.length cN).ownBlock w w' := by
  have HKD := Lib.hid hkd
  have HSR := Lib.hid hsr
  have HSD := Lib.hid hsd
  clear hkd hsr hsd
  go_enter Tryz.func44, Tryz.ntmps44
  go_upto_region 1 with fail
  have hs0 : Row (w.alloc (.cells #[.int .i64 k, .int .i64 e, .int .i64 i, .int .u32 (uz ct)] 104)) w.heap.size 104 [.int .i64 k, .int .i64 e, .int .i64 i, .int .u32 (uz ct)] := Row.new _ _ _
  have hb0 := below_alloc w (.cells #[.int .i64 k, .int .i64 e, .int .i64 i, .int .u32 (uz ct)] 104)
  have hgs : w.heap.size = w.heap.size := rfl
  generalize hgs' : w.heap.size = gs at hs0 hgs ⊢
  rw [hgs'] at hb0
  clear hgs
  generalize w.alloc _ = w0 at hs0 hb0 ⊢
  have hN0 := own_below hN (by rw [hgs']; exact hb0)
  have hP0 := own_below hP (by rw [hgs']; exact hb0)
  have hgs0 := hs0.lt
  have s0 : w0.drew.cell? ⟨gs, 2, none⟩ = some (.int .i64 i) := hs0.drew.cell 2
  have s1 : w0.drew.cell? ⟨gs, 1, none⟩ = some (.int .i64 e) := hs0.drew.cell 1
  have p0 : w0.drew.cell? ⟨gP, i, none⟩ = some (.int .i64 (pz P i)) := by
    have := own_cell hP0 (k := i) (by simpa using hi)
    simp only [is, List.getElem_map] at this
    rw [pz_eq P i hi] at this; exact this
  have p1 : w0.drew.cell? ⟨gP, e, none⟩ = some (.int .i64 (pz P e)) := by
    have := own_cell hP0 (k := e) (by simpa using he)
    simp only [is, List.getElem_map] at this
    rw [pz_eq P e he] at this; exact this
  have a1 : (0 : Int) ≤ e := by omega
  have a2 : (e : Int) < P.length := by omega
  have a3 : (0 : Int) ≤ i := by omega
  have a4 : (i : Int) < P.length := by omega
  have hgP := (hP0.lt gP rfl).2
  have HK : Hid (∀ y, Below w0.drew.heap.size w0.drew y → y.cell? ⟨gs, 2, none⟩ = some (.int .i64 i) ∧ y.cell? ⟨gs, 1, none⟩ = some (.int .i64 e) ∧ y.cell? ⟨gP, i, none⟩ = some (.int .i64 (pz P i)) ∧ y.cell? ⟨gP, e, none⟩ = some (.int .i64 (pz P e))) := Lib.hid fun y hy =>
    ⟨(hy.cell (p := ⟨gs, 2, none⟩) hgs0).trans s0, (hy.cell (p := ⟨gs, 1, none⟩) hgs0).trans s1, (hy.cell (p := ⟨gP, i, none⟩) hgP).trans p0, (hy.cell (p := ⟨gP, e, none⟩) hgP).trans p1⟩
  go_cut [9] (fun y wx => y = .pointer (some ⟨w0.heap.size, 0, none⟩) ∧ wx = w0.drew.alloc (.cells #[.int .i64 3, .int .i64 0, .slice none 0 0, .int .i64 (pz P i), .int .i64 (pz P e), .int .i64 0, .bool false] 96))
  case first =>
    go_region_held3 (fun y : World => y.cell? ⟨gs, 2, none⟩ = some (.int .i64 i) ∧ y.cell? ⟨gs, 1, none⟩ = some (.int .i64 e) ∧ y.cell? ⟨gP, i, none⟩ = some (.int .i64 (pz P i)) ∧ y.cell? ⟨gP, e, none⟩ = some (.int .i64 (pz P e)))
      (first | exact HK.out _ (Below.refl _ _) | assumption | exact HK.out _ (Below.alloc (Below.refl _ _) (Nat.le_refl _) _)) (first | (fail))
    all_goals
      go_wp2_with fail
      go_meet
      exact ⟨rfl, rfl⟩
  case rest =>
    obtain ⟨rfl, rfl⟩ := hcut
    have hn1 : Row (w0.drew.alloc (.cells #[.int .i64 3, .int .i64 0, .slice none 0 0, .int .i64 (pz P i), .int .i64 (pz P e), .int .i64 0, .bool false] 96)) w0.heap.size 96 [.int .i64 3, .int .i64 0, .slice none 0 0, .int .i64 (pz P i), .int .i64 (pz P e), .int .i64 0, .bool false] := Row.new w0.drew _ _
    have hb1 : Below gs w (w0.drew.alloc (.cells #[.int .i64 3, .int .i64 0, .slice none 0 0, .int .i64 (pz P i), .int .i64 (pz P e), .int .i64 0, .bool false] 96)) := hb0.drew.alloc (by rw [← hgs']; exact hb0.size) _
    have hba : Below w0.drew.heap.size w0.drew (w0.drew.alloc (.cells #[.int .i64 3, .int .i64 0, .slice none 0 0, .int .i64 (pz P i), .int .i64 (pz P e), .int .i64 0, .bool false] 96)) := Below.alloc (Below.refl _ _) (Nat.le_refl _) _
    have hs1 := hs0.drew.later hba
    have hgn : gs ≤ w0.heap.size := by rw [← hgs']; exact hb0.size
    have hgn1 : gs < w0.heap.size := hgs0
    have q1 := HK.out _ hba
    clear hba HK s0 s1 p0 p1
    generalize w0.heap.size = gn at hn1 hgn hgn1 ⊢
    generalize w0.drew.alloc _ = w1 at hn1 hb1 hs1 q1 ⊢
    obtain ⟨q2, q3, q4, q5⟩ := q1
    have q0 : w1.cell? ⟨gs, 0, none⟩ = some (.int .i64 k) := hs1.cell 0
    have n0 : w1.cell? ⟨gn, 0, none⟩ = some (.int .i64 3) := hn1.cell 0
    have n1 : w1.cell? ⟨gn, 1, none⟩ = some (.int .i64 0) := hn1.cell 1
    have n2 : w1.cell? ⟨gn, 2, none⟩ = some (.slice none 0 0) := hn1.cell 2
    have n3 : w1.cell? ⟨gn, 3, none⟩ = some (.int .i64 (pz P i)) := hn1.cell 3
    have n4 : w1.cell? ⟨gn, 4, none⟩ = some (.int .i64 (pz P e)) := hn1.cell 4
    have n5 : w1.cell? ⟨gn, 5, none⟩ = some (.int .i64 0) := hn1.cell 5
    have n6 : w1.cell? ⟨gn, 6, none⟩ = some (.bool false) := hn1.cell 6
    have f0 := hn1.frozen 0
    have f1 := hn1.frozen 1
    have f2 := hn1.frozen 2
    have f3 := hn1.frozen 3
    have f4 := hn1.frozen 4
    have f5 := hn1.frozen 5
    have f6 := hn1.frozen 6
    have hnl := hn1.lt
    by_cases hk : k = 1
    case' pos =>
      subst hk
      replace HKD := Lib.hid (HKD.out.trans (if_pos rfl))
      replace HSR := Lib.hid (HSR.out.trans (if_pos rfl))
      replace HSD := Lib.hid (HSD.out.trans (if_pos rfl))
      rw [if_pos rfl] at hat
      subst hat
      go_upto_region 6 with fail
      have hn2 := (((((((hn1.set_ 0 (.int .i64 2)).set_ 1 (.int .i64 0)).set_ 2 (.slice none 0 0)).set_ 3 (.int .i64 (pz P x.1))).set_ 4 (.int .i64 0)).set_ 5 (.int .i64 0)).set_ 6 (.bool false))
      have hb2 : Below gs w (((((((w1.setCell ⟨gn, 0, none⟩ (.int .i64 2)).setCell ⟨gn, 1, none⟩ (.int .i64 0)).setCell ⟨gn, 2, none⟩ (.slice none 0 0)).setCell ⟨gn, 3, none⟩ (.int .i64 (pz P x.1))).setCell ⟨gn, 4, none⟩ (.int .i64 0)).setCell ⟨gn, 5, none⟩ (.int .i64 0)).setCell ⟨gn, 6, none⟩ (.bool false)) := ((((((hb1.setCell (p := ⟨gn, 0, none⟩) hgn _).setCell (p := ⟨gn, 1, none⟩) hgn _).setCell (p := ⟨gn, 2, none⟩) hgn _).setCell (p := ⟨gn, 3, none⟩) hgn _).setCell (p := ⟨gn, 4, none⟩) hgn _).setCell (p := ⟨gn, 5, none⟩) hgn _).setCell (p := ⟨gn, 6, none⟩) hgn _
      have hgsn0 : gs ≠ gn := by omega
      have hs2 := ((((((hs1.far (p := ⟨gn, 0, none⟩) hgsn0 (.int .i64 2)).far (p := ⟨gn, 1, none⟩) hgsn0 (.int .i64 0)).far (p := ⟨gn, 2, none⟩) hgsn0 (.slice none 0 0)).far (p := ⟨gn, 3, none⟩) hgsn0 (.int .i64 (pz P x.1))).far (p := ⟨gn, 4, none⟩) hgsn0 (.int .i64 0)).far (p := ⟨gn, 5, none⟩) hgsn0 (.int .i64 0)).far (p := ⟨gn, 6, none⟩) hgsn0 (.bool false)
      simp only [List.set_cons_zero, List.set_cons_succ] at hn2
      generalize World.setCell _ _ _ = w2 at hn2 hb2 hs2 ⊢
      have hn2 : Row w2 gn 96 [.int .i64 kd, .int .i64 0, .slice none 0 0, .int .i64 sr, .int .i64 sd, .int .i64 0, .bool false] := by rw [HKD.out, HSR.out, HSD.out]; exact hn2
    case' neg =>
      replace HKD := Lib.hid (HKD.out.trans (if_neg hk))
      replace HSR := Lib.hid (HSR.out.trans (if_neg hk))
      replace HSD := Lib.hid (HSD.out.trans (if_neg hk))
      rw [if_neg hk] at hat
      subst hat
      have hkb : (k == 1) = false := by simpa using hk
      have hkd' : decide (k = 1) = false := by simpa using hk
      go_upto_region 6 with fail
      have hn2 : Row w1 gn 96 [.int .i64 kd, .int .i64 0, .slice none 0 0, .int .i64 sr, .int .i64 sd, .int .i64 0, .bool false] := by rw [HKD.out, HSR.out, HSD.out]; exact hn1
      have hb2 := hb1
      have hs2 := hs1
      clear hkb hkd' hk hn1 hb1 hs1
      generalize w1 = w2 at hn2 hb2 hs2 ⊢
    all_goals
      clear n0 n1 n2 n3 n4 n5 n6 f0 f1 f2 f3 f4 f5 f6 q0 q2 q3 q4 q5 hnl
      obtain ⟨k2, e2, i2, hs2⟩ : ∃ (k2 e2 i2 : Int), Row w2 gs 104 [.int .i64 k2, .int .i64 e2, .int .i64 i2, .int .u32 (uz ct)] := ⟨_, _, _, hs2⟩
      have hPl := hP.lt gP rfl
      have hgPn : gn ≠ gP := by omega
      have hgsn : gs ≠ gn := by omega
      obtain ⟨m, hm, hmx⟩ := mem_lft hx
      go_wp2_with fail
      go_loopw [11] (fun y wr => ∃ (j : Nat) (V : List Int) (A : Option Addr) (c : Nat), j ≤ Ll.length ∧ y = .int .i64 j ∧ Hid (V = if m < j then lst (x.2 &&& ~~~ct) else []) ∧ Row wr gn 96 [.int .i64 kd, .int .i64 0, .slice A V.length c, .int .i64 sr, .int .i64 sd, .int .i64 0, .bool false] ∧ wr.ownsRow gs 3 1 (.slice A V.length c) V.length (is V) ∧ Below gs w wr ∧ Row wr gs 104 [.int .i64 k2, .int .i64 e2, .int .i64 i2, .int .u32 (uz ct)]) (fun y _ => Ll.length - (intOf y).toNat)
      case atStart => exact ⟨0, [], none, 0, Nat.zero_le _, rfl, Lib.hid (by simp), hn2, World.ownsRow_nil _ _ _ _, hb2, hs2⟩
      case round =>
        obtain ⟨j, V, A, c, hj, rfl, HV, hn, ho, hb, hst⟩ := hrel
        have hb' : Below w.heap.size w wr := by rw [hgs']; exact hb
        by_cases hlt : j < Ll.length
        · obtain ⟨ad, hA, had, c0, c1⟩ := (hL.later hb').lf_cells hlt
          subst hA
          have b1 : (0 : Int) ≤ j := by omega
          have b2 : (j : Int) < Ll.length := by omega
          have hsz : gs ≤ wr.heap.size := by rw [← hgs']; exact hb.size
          by_cases hex : (lft Ll j).1 = x.1
          · have hjm : j = m := hs.lft_inj hlt hm (by rw [hmx]; exact hex)
            subst hjm
            rw [hmx] at c0 c1
            have s3 : wr.cell? ⟨gs, 3, none⟩ = some (.int .u32 (uz ct)) := hst.cell 3
            have HLE := Lib.hid (fun w => r14less_any x.2 ct w)
            have HLI := Lib.hid (fun w => r18list_any (x.2 &&& ~~~ct) w)
            have HVN : Hid (lst (x.2 &&& ~~~ct) = if j < j + 1 then lst (x.2 &&& ~~~ct) else []) := Lib.hid (if_pos (Nat.lt_succ_self _)).symm
            clear HV hex hmx hm
            generalize lst (x.2 &&& ~~~ct) = W at HLI HVN
            generalize x.2 &&& ~~~ct = y at HLE HLI
            go_upto_region 10 with fail
            go_region_law (first
              | (go_simp; go_at_call 86; refine (HLE.out _).mono ?_; rintro en w' ⟨rfl, rfl⟩)
              | (go_simp; go_at_call 40; refine (HLI.out _).mono ?_; rintro en w4 ⟨v, rfl, ho4, hb4⟩; obtain ⟨A4, c4, rfl, _, _, _, _⟩ := Rd.of_own ho4; have hn4 := Row.later hn.drew hb4; have z1 := hn4.cell 2; have z2 := hn4.frozen 2; have z3 := hn4.lt))
            all_goals
              have hn5 := hn4.set_ 2 (.slice A4 W.length c4)
              have ho5 := own_other (g := gn) (k := 2) (u := .slice A4 W.length c4) (own_less ho4 (show gs ≤ _ by simpa using hsz)) (own_row_ne ho4 hn4 (by decide))
              have hb5 : Below gs w (w4.setCell ⟨gn, 2, none⟩ (.slice A4 W.length c4)) := (hb.drew.trans (hb4.mono (by simpa using hsz))).setCell (by omega) _
              have hst5 := (Row.later hst.drew hb4).far (p := ⟨gn, 2, none⟩) hgsn (.slice A4 W.length c4)
              go_wp2_with fail
              go_roundw
              case rel => exact ⟨j + 1, W, A4, c4, by omega, by go_num, HVN, hn5, ho5, hb5, hst5⟩
              case measure => simp [intOf]; omega
          · have hjm : j ≠ m := fun c => hex (by rw [c, hmx])
            have HVN : Hid (V = if m < j + 1 then lst (x.2 &&& ~~~ct) else []) := Lib.hid (by
              rw [HV.out]
              by_cases d : m < j
              · rw [if_pos d, if_pos (by omega)]
              · rw [if_neg d, if_neg (by omega)])
            have g1 : decide ((((lft Ll j).1 : Nat) : Int) = ((x.1 : Nat) : Int)) = false := decide_eq_false (by omega)
            have g2 : ((((lft Ll j).1 : Nat) : Int) == ((x.1 : Nat) : Int)) = false := by rw [beq_eq_false_iff_ne]; omega
            have g3 : decide ((lft Ll j).1 = x.1) = false := decide_eq_false hex
            generalize (lft Ll j).1 = z at c0 g1 g2 g3
            go_wp2_with fail
            go_roundw
            case rel => exact ⟨j + 1, V, A, c, by omega, by go_num, HVN, hn, ho, hb, hst⟩
            case measure => simp [intOf]; omega
        · obtain rfl : j = Ll.length := by omega
          obtain rfl : V = lst (x.2 &&& ~~~ct) := by rw [HV.out, if_pos hm]
          obtain ⟨W, hW⟩ : ∃ W, lst (x.2 &&& ~~~ct) = W := ⟨_, rfl⟩
          rw [hW] at hn ho
          have HW := Lib.hid hW
          clear hW
          have hNr := own_below hN hb'
          have hPr := own_below hP hb'
          have a5 : (0 : Int) ≤ x.1 := by omega
          have a6 : (x.1 : Int) < P.length := by omega
          have p1 := own_cell hPr (k := x.1) (by simp; omega)
          have p2 := own_frozen hPr x.1
          have p3 := (hPr.lt gP rfl).2
          clear HV
          go_upto_region 12 with fail
          have hP5 := own_put hPr (k := x.1) (.int .i64 (L.length : Int))
          have hn5 := hn.far (p := ⟨gP, x.1, none⟩) hgPn (.int .i64 (L.length : Int))
          have hN5 := own_other (g := gP) (k := x.1) (u := .int .i64 (L.length : Int)) hNr (own_own_ne hNr hPr (by decide) _ · rfl)
          have ht5 := (Two.of_below (gb := gP) (r := (Value.slice AN L.length cN).ownBlock) hb').set_ x.1 (.int .i64 (L.length : Int))
          have ho5 := own_other (g := gP) (k := x.1) (u := .int .i64 (L.length : Int)) ho (fun q => by have := (ho.lt gP q).1; omega)
          rw [show (is P).set x.1 (.int .i64 (L.length : Int)) = is (P.set x.1 (L.length : Int)) by simp [is, List.map_set]] at hP5
          clear p1 p2 p3 hPr hNr hn ho hb hst
          have hsz : gs ≤ (wr.setCell ⟨gP, x.1, none⟩ (.int .i64 (L.length : Int))).heap.size := by rw [← hgs']; exact ht5.size
          generalize wr.setCell _ _ = w5 at hP5 hn5 hN5 ht5 ho5 hsz ⊢
          have n0 : w5.cell? ⟨gn, 0, none⟩ = some (.int .i64 kd) := hn5.cell 0
          have n1 : w5.cell? ⟨gn, 1, none⟩ = some (.int .i64 0) := hn5.cell 1
          have n2 := hn5.cell 2
          have n3 : w5.cell? ⟨gn, 3, none⟩ = some (.int .i64 sr) := hn5.cell 3
          have n4 : w5.cell? ⟨gn, 4, none⟩ = some (.int .i64 sd) := hn5.cell 4
          have n5 : w5.cell? ⟨gn, 5, none⟩ = some (.int .i64 0) := hn5.cell 5
          have n6 : w5.cell? ⟨gn, 6, none⟩ = some (.bool false) := hn5.cell 6
          simp only [List.getElem?_cons_succ, List.getElem?_cons_zero] at n2
          go_wp2_with (at_builtin; refine app_rnode rfl (.tmp 64) (.tmp 66) rfl base (.slice AN L.length cN) L L.length ⟨kd, 0, A, _, W, sr, sd, 0, false⟩ rfl rfl hN5 hl (by omega) ?_)
          intro AN' cN' w6 hN6 hg6 hb6
          have hP6 := own_grown hP5 hg6 fun g q c => own_own_ne hN5 hP5 (by decide) g q c
          have ho6 := own_grown ho5 hg6 fun g q c => own_own_ne hN5 ho5 (by decide) g q c
          have ht6 := ht5.grown hg6
          go_wp2_with fail
          go_ret
          rw [HW.out, hgs']
          exact ⟨AN', cN', A, _, rfl, hN6, hP6, ho6, ht6⟩
end Go.Proofs.YtbgbjodehbcgiaaGreatDoor

/- osierref18.Make, plain: the removal's steps one by one, the nodes that they make, and how their tops and parents are told. No program in sight. -/
namespace Go.Proofs.YtbgbjodehbcgiaaGreatDoor

theorem run_at (keep : BitVec 32) (L : Lt) : ∀ m k, k < (runN keep L m).1.length → (stepsE (mkTo L (runN keep L m).1 k) keep).head? = some (stp (runN keep L m).1 k)
  | 0, k, h => by simp [runN] at h
  | m + 1, k, h => by
    cases hh : (stepsE (runN keep L m).2 keep).head? with
    | none =>
      rw [runN_none hh (m + 1) (by omega)] at h ⊢
      exact run_at keep L m k h
    | some s =>
      rw [runN_some hh] at h ⊢
      simp only [List.length_append, List.length_singleton] at h
      have e : ∀ i, i < (runN keep L m).1.length → stp ((runN keep L m).1 ++ [s]) i = stp (runN keep L m).1 i := fun i hi => by simp [stp, List.getElem?_append_left hi]
      simp only
      rcases Nat.lt_or_ge k (runN keep L m).1.length with c | c
      · rw [mkTo_congr (tt := (runN keep L m).1) fun i hi => e i (by omega), e k c]
        exact run_at keep L m k c
      · obtain rfl : k = (runN keep L m).1.length := by omega
        rw [mkTo_congr (tt := (runN keep L m).1) fun i hi => e i hi, (runN_rch keep L m).end_, hh]
        congr 1
        simp [stp]
theorem stp_zero {ss : List Stp} {s : Stp} (h : ss.head? = some s) : 0 < ss.length ∧ stp ss 0 = s := by
  cases ss with
  | nil => cases h
  | cons a l =>
    injection h with h
    exact ⟨by simp, h⟩
theorem runE_at {E : List (BitVec 32)} {keep : BitVec 32} {k : Nat} (h : k < (runE E keep).1.length) :
    0 < (stepsE (mkTo (beginE E) (runE E keep).1 k) keep).length ∧ stp (stepsE (mkTo (beginE E) (runE E keep).1 k) keep) 0 = stp (runE E keep).1 k := stp_zero (run_at keep (beginE E) 232 k h)
theorem runE_end {E : List (BitVec 32)} {keep : BitVec 32} (h : E.length ≤ 7) : stepsE (mkTo (beginE E) (runE E keep).1 (runE E keep).1.length) keep = [] := by
  rw [(runE_rch E keep).end_]
  have := runE_stuck keep h
  cases c : stepsE (runE E keep).2 keep with
  | nil => rfl
  | cons a l => rw [c] at this; cases this

/-- A node before the parents are told. -/
def zp (n : PNd) : PNd := { n with parent := 0 }
theorem ref_step {L : Lt} {b : PB} {g : Gr} {keep : BitVec 32} {s : Stp} (hs : Srt L) (h : Fit L b g) (st : IsStp L keep s) :
    ∃ (e i : Nat) (x : Nat × BitVec 32), s.edge = e ∧ s.into = i ∧ e < b.pres.length ∧ i < b.pres.length ∧ x ∈ L ∧ x.1 = (if s.kind = 1 then e else i) ∧
      (stepPB b s).nodes.map zp = b.nodes.map zp ++ [⟨if s.kind = 1 then 2 else 3, 0, lst (x.2 &&& ~~~s.cut), if s.kind = 1 then pz b.pres e else pz b.pres i, if s.kind = 1 then 0 else pz b.pres e, 0, false⟩] ∧ (stepPB b s).pres = b.pres.set x.1 b.nodes.length := by
  rcases st.cases hs with ⟨x, hx, hc, rfl⟩ | ⟨x, hx, y, hy, k, hne, hk, hsub, rfl⟩
  · have hk := h.key x hx
    have hse := h.set x hx
    refine ⟨x.1, 0, x, rfl, rfl, hk.2, by omega, hx, by simp, ?_, ?_⟩
    · simp [stepPB, zp, hse]
    · simp [stepPB]
  · have kx := h.key x hx
    have ky := h.key y hy
    have hse := h.set y hy
    refine ⟨x.1, y.1, y, rfl, rfl, kx.2, ky.2, hy, by simp [hk], ?_, ?_⟩
    · simp [stepPB, hk, zp, hse]
      exact congrArg lst (by rw [show (4294967295#32 : BitVec 32) = BitVec.allOnes 32 from rfl, BitVec.and_allOnes])
    · simp [stepPB, hk]

/-! ### Nodes told by a function -/
def tabN (n : Nat) (f : Nat → PNd) : List PNd := (List.range n).map f
@[simp] theorem tabN_length (n : Nat) (f : Nat → PNd) : (tabN n f).length = n := by simp [tabN]
theorem tabN_at {n : Nat} (f : Nat → PNd) {i : Nat} (h : i < n) : nd (tabN n f) i = f i := nd_map f h
theorem tabN_ext {n : Nat} {f g : Nat → PNd} (h : ∀ i, i < n → f i = g i) : tabN n f = tabN n g := List.map_congr_left fun i hi => h i (List.mem_range.1 hi)
theorem tabN_self (N : List PNd) : tabN N.length (nd N) = N := by
  apply List.ext_getElem
  · simp
  · intro i h1 h2
    simp only [tabN, List.getElem_map, List.getElem_range]
    exact (nd_eq N i h2).symm
theorem tabN_set {n : Nat} {f g : Nat → PNd} {t : Nat} {x : PNd} (ht : g t = x) (h : ∀ i, i < n → i ≠ t → g i = f i) : (tabN n f).set t x = tabN n g := by
  apply List.ext_getElem
  · simp
  · intro i h1 h2
    have hi : i < n := by simpa using h2
    rw [List.getElem_set]
    by_cases e : t = i
    · subst e; rw [if_pos rfl]; simp [tabN, ht]
    · rw [if_neg e]; simp [tabN, h i hi (Ne.symm e)]
theorem tabN_snoc (n : Nat) (f : Nat → PNd) : tabN (n + 1) f = tabN n f ++ [f n] := by simp [tabN, List.range_succ]
theorem nd_append_old {N : List PNd} {m : PNd} {i : Nat} (h : i < N.length) : nd (N ++ [m]) i = nd N i := by simp [nd, List.getElem?_append_left h]
theorem nd_append_new (N : List PNd) (m : PNd) : nd (N ++ [m]) N.length = m := by simp [nd]
theorem nd_map_zp (N : List PNd) {i : Nat} (h : i < N.length) : nd (N.map zp) i = zp (nd N i) := by simp [nd, h]
/-- The nodes with their tops so far, no parents yet. -/
def topz (N : List PNd) (T : List Int) : List PNd := tabN N.length fun j => { zp (nd N j) with top := decide ((j : Int) ∈ T) }
@[simp] theorem topz_length (N : List PNd) (T : List Int) : (topz N T).length = N.length := by simp [topz]
theorem topz_nil (N : List PNd) (h : ∀ i, i < N.length → (nd N i).top = false) : N.map zp = topz N [] := by
  rw [topz, ← tabN_self (N.map zp), List.length_map]
  refine tabN_ext fun i hi => ?_
  rw [nd_map_zp N hi]
  have := h i hi
  simp [zp, this]
theorem topz_set (N : List PNd) (T : List Int) {t : Nat} (h : t < N.length) : (topz N T).set t { nd (topz N T) t with top := true } = topz N (T ++ [(t : Int)]) := by
  unfold topz
  rw [tabN_at _ h]
  refine tabN_set (by simp) fun i hi hne => ?_
  have : ¬ ((i : Int) = t) := by omega
  simp [this]
theorem topz_snoc (N : List PNd) (T : List Int) {m : PNd} (hm : m.top = false) (hT : ∀ x ∈ T, x < N.length) : topz (N ++ [m]) T = topz N T ++ [zp m] := by
  unfold topz
  rw [List.length_append]
  show tabN (N.length + 1) _ = _
  rw [tabN_snoc]
  congr 1
  · exact tabN_ext fun i hi => by rw [nd_append_old hi]
  · rw [nd_append_new]
    have : ((N.length : Nat) : Int) ∉ T := fun c => by have := hT _ c; omega
    simp [this, zp, hm]
theorem stepPB_snoc (b : PB) (s : Stp) (T : List Int) (hT : ∀ x ∈ T, x < b.nodes.length) {m : PNd} (h : (stepPB b s).nodes.map zp = b.nodes.map zp ++ [m]) : topz (stepPB b s).nodes T = topz b.nodes T ++ [m] := by
  have key : ∀ n : PNd, n.top = false → (b.nodes ++ [n]).map zp = b.nodes.map zp ++ [m] → topz (b.nodes ++ [n]) T = topz b.nodes T ++ [m] := fun n hn e => by
    rw [List.map_append] at e
    have := List.append_cancel_left e
    simp only [List.map_cons, List.map_nil] at this
    injection this with this
    rw [topz_snoc _ _ hn hT, this]
  revert h
  unfold stepPB
  split
  · exact key _ rfl
  · exact key _ rfl

/-! ### The tops and the parents -/
/-- A node when all is told. -/
def finN (N : List PNd) (tp : Nat → Bool) (m : Nat) : PNd := { nd N m with top := tp m, parent := parN N m N.length }
/-- The nodes when the first i have been told all, and the i-th's parent as far as j. -/
def hungTo (N : List PNd) (T : List Int) (tp : Nat → Bool) (i : Nat) : List PNd := tabN N.length fun m => if m < i then finN N tp m else { zp (nd N m) with top := decide ((m : Int) ∈ T) }
def hungAt (N : List PNd) (T : List Int) (tp : Nat → Bool) (i j : Nat) : List PNd := tabN N.length fun m => if m < i then finN N tp m else if m = i then { nd N m with top := tp m, parent := parN N m j } else { zp (nd N m) with top := decide ((m : Int) ∈ T) }
@[simp] theorem hungTo_length (N : List PNd) (T : List Int) (tp : Nat → Bool) (i : Nat) : (hungTo N T tp i).length = N.length := by simp [hungTo]
@[simp] theorem hungAt_length (N : List PNd) (T : List Int) (tp : Nat → Bool) (i j : Nat) : (hungAt N T tp i j).length = N.length := by simp [hungAt]
section
variable (N : List PNd) (T : List Int) (tp : Nat → Bool)
theorem hungTo_zero : hungTo N T tp 0 = topz N T := tabN_ext fun i _ => by simp
theorem hungTo_all : hungTo N T tp N.length = tabN N.length (finN N tp) := tabN_ext fun i hi => by simp [hi]
theorem hungTo_start {i : Nat} (hi : i < N.length) {t : Bool} (_ht : tp i = (decide ((i : Int) ∈ T) || t)) :
    (nd (hungTo N T tp i) i).top = decide ((i : Int) ∈ T) ∧ ((hungTo N T tp i).set i { nd (hungTo N T tp i) i with top := tp i }).set i { nd ((hungTo N T tp i).set i { nd (hungTo N T tp i) i with top := tp i }) i with parent := -1 } = hungAt N T tp i 0 := by
  have e : nd (hungTo N T tp i) i = { zp (nd N i) with top := decide ((i : Int) ∈ T) } := by
    unfold hungTo; rw [tabN_at _ hi, if_neg (Nat.lt_irrefl i)]
  refine ⟨by rw [e], ?_⟩
  have e3 : (hungTo N T tp i).set i { nd (hungTo N T tp i) i with top := tp i } = tabN N.length (fun m => if m < i then finN N tp m else if m = i then { zp (nd N m) with top := tp m } else { zp (nd N m) with top := decide ((m : Int) ∈ T) }) := by
    rw [e]
    refine tabN_set (by simp) fun m _ hm => ?_
    simp only
    by_cases c : m < i
    · rw [if_pos c, if_pos c]
    · rw [if_neg c, if_neg c, if_neg hm]
  rw [e3]
  have e4 : nd (tabN N.length (fun m => if m < i then finN N tp m else if m = i then { zp (nd N m) with top := tp m } else { zp (nd N m) with top := decide ((m : Int) ∈ T) })) i = { zp (nd N i) with top := tp i } := by
    rw [tabN_at _ hi, if_neg (Nat.lt_irrefl i), if_pos rfl]
  rw [e4]
  refine tabN_set (by simp [zp, parN]) fun m _ hm => ?_
  simp only
  by_cases c : m < i
  · rw [if_pos c, if_pos c]
  · rw [if_neg c, if_neg c, if_neg hm, if_neg hm]
theorem hungAt_chl (i j : Nat) {k : Nat} (hk : k < N.length) : chl (nd (hungAt N T tp i j) k) = chl (nd N k) := by
  unfold hungAt
  rw [tabN_at _ hk]
  split
  · rfl
  · split <;> rfl
theorem hungAt_yes {i j : Nat} (hi : i < N.length) (h : (i : Int) ∈ chl (nd N j)) : (hungAt N T tp i j).set i { nd (hungAt N T tp i j) i with parent := (j : Int) } = hungAt N T tp i (j + 1) := by
  have e : nd (hungAt N T tp i j) i = { nd N i with top := tp i, parent := parN N i j } := by
    unfold hungAt; rw [tabN_at _ hi, if_neg (Nat.lt_irrefl i), if_pos rfl]
  rw [e]
  refine tabN_set (by simp [parN, h]) fun m _ hm => ?_
  simp only
  by_cases c : m < i
  · rw [if_pos c, if_pos c]
  · rw [if_neg c, if_neg c, if_neg hm, if_neg hm]
theorem hungAt_no {i j : Nat} (h : (i : Int) ∉ chl (nd N j)) : hungAt N T tp i j = hungAt N T tp i (j + 1) := tabN_ext fun m _ => by
  by_cases c : m < i
  · rw [if_pos c, if_pos c]
  · rw [if_neg c, if_neg c]
    by_cases d : m = i
    · subst d; rw [if_pos rfl, if_pos rfl, show parN N m (j + 1) = parN N m j from if_neg h]
    · rw [if_neg d, if_neg d]
theorem hungAt_all (i : Nat) : hungAt N T tp i N.length = hungTo N T tp (i + 1) := tabN_ext fun m _ => by
  by_cases c : m < i
  · rw [if_pos c, if_pos (by omega)]
  · rw [if_neg c]
    by_cases d : m = i
    · subst d; rw [if_pos rfl, if_pos (by omega)]; rfl
    · rw [if_neg d, if_neg (by omega)]
end
theorem parN_congr {N M : List PNd} (hl : ∀ k, chl (nd N k) = chl (nd M k)) (j : Nat) : ∀ k, parN N j k = parN M j k
  | 0 => rfl
  | k + 1 => by
    show (if (j : Int) ∈ chl (nd N k) then (k : Int) else parN N j k) = (if (j : Int) ∈ chl (nd M k) then (k : Int) else parN M j k)
    rw [hl k, parN_congr hl j k]
theorem chl_withTop (N : List PNd) (f : Nat → Bool) (k : Nat) : chl (nd (withTop N f) k) = chl (nd N k) := by
  rcases Nat.lt_or_ge k N.length with h | h
  · rw [withTop_at N f h]; rfl
  · simp [nd, h]
theorem fin_hung (N : List PNd) (tp : Nat → Bool) : tabN N.length (finN N tp) = hung (withTop N tp) := by
  unfold hung
  rw [withTop_length]
  refine tabN_ext fun i hi => ?_
  rw [withTop_at _ _ hi]
  unfold finN
  rw [parN_congr (chl_withTop N tp) i _]
theorem nodes_fin (E : List (BitVec 32)) (head : BitVec 32) (n : Nat) : tabN (endPB E head n).nodes.length (finN (endPB E head n).nodes (topE E head n)) = nodesE E head n := fin_hung _ _
section
variable {E : List (BitVec 32)} {head : BitVec 32} {n : Nat}
theorem mid_pres (hn : n ≤ (runE E head).1.length) {x : Nat × BitVec 32} (hx : x ∈ leftL E head n) : ∃ a : Nat, pz (midPB E head n).pres x.1 = a ∧ a < (midPB E head n).nodes.length ∧ x.1 < (midPB E head n).pres.length := by
  refine ⟨_, (fit1 hn).pres x hx, ?_, ((fit1 hn).key x hx).2⟩
  rw [(fit1 hn).nodes, List.length_map]
  exact (ginv1 hn).pl x hx
theorem sec_pres (hn : n ≤ (runE E head).1.length) : ∀ y ∈ (secPB E head n).pres, y < (midPB E head n).nodes.length := fun y hy => by
  obtain ⟨x, hx, rfl⟩ := List.mem_map.1 hy
  obtain ⟨a, e, h, _⟩ := mid_pres hn hx
  rw [e]; omega
theorem mid_top (hn : n ≤ (runE E head).1.length) : ∀ i, i < (midPB E head n).nodes.length → (nd (midPB E head n).nodes i).top = false := fun i hi => by
  have e := (fit1 hn).nodes
  rw [e] at hi ⊢
  rw [gn_p _ (by simpa using hi)]; rfl
theorem topE_or (i : Nat) : topE E head n i = (decide ((i : Int) ∈ (secPB E head n).pres) || decide (lowE E head n ≤ i)) := Bool.or_comm _ _
theorem steps_few (hE : E ≠ []) (hn : n ≤ (runE E head).1.length) : n ≤ 3 * E.length ∧ (midPB E head n).nodes.length = E.length + n := by
  obtain ⟨h1, _, h3, _, _⟩ := plan_counts hE hn
  exact ⟨by omega, h1⟩
end
theorem start_zp (E : List (BitVec 32)) : (startPB E).nodes.map zp = tabN E.length fun i => ⟨1, i, lst (ed E i), 0, 0, 0, false⟩ := by
  show ((leafG E).map GN.p).map zp = _
  rw [← tabN_self (((leafG E).map GN.p).map zp), List.length_map, List.length_map, leafG_length]
  refine tabN_ext fun i hi => ?_
  rw [nd_map_zp _ (by simp [leafG_length, hi]), gn_p _ (by simpa [leafG_length] using hi), leafG_at hi]; rfl
theorem first_no {V : Int} {E : List (BitVec 32)} {head : BitVec 32} (hv : validB V E = true) (h6 : E.length ≤ 6) (hx : acyB V (extE E head) = false) : ∃ n, FirstOk E head (runE E head).1 n false := by
  have key : ∀ k, k ≤ (runE E head).1.length → allIn (mkTo (beginE E) (runE E head).1 k) head = false := fun k hk => by
    cases c : allIn (mkTo (beginE E) (runE E head).1 k) head with
    | false => rfl
    | true =>
      exfalso
      obtain ⟨p, j⟩ := conn_back ((runE_rch E head).take k hk) ((allIn_iff _ _).1 c)
      have := (acyB_iff (ext_valid (goodB_iff.2 ⟨hv, h6⟩))).2 ⟨p, j⟩
      rw [hx] at this; cases this
  exact ⟨_, Nat.le_refl _, fun m hm => key m (by omega), .inr ⟨rfl, rfl, key _ (Nat.le_refl _)⟩⟩
end Go.Proofs.YtbgbjodehbcgiaaGreatDoor

/- osierref18.Make: its plan in memory, as it grows. -/
namespace Go.Proofs.YtbgbjodehbcgiaaGreatDoor
open Go.RowKit

theorem two_grown {w w' : World} {r : Option Nat} (gb : Nat) (hg : w.grownBy w' r) : Two gb r w w' := (Two.refl gb r w).grown hg
structure RQ (base bP gp : Nat) (H : List Int) (V : List ByteArray) (L : List Nd) (P : List Int) (vv vh : Value) (AN : Option Addr) (cN : Nat) (rt : Int) (vP : Value) (w : World) : Prop where
  row : Row w gp 36 [vv, vh, .slice AN L.length cN, .int .i64 rt, .slice none 0 0]
  strs : w.ownsRow base 9 1 vv V.length (ss V)
  head : w.ownsRow base 3 1 vh H.length (is H)
  nodes : w.ownsRow base 96 7 (.slice AN L.length cN) L.length (nds L)
  pres : w.ownsRow bP 3 1 vP P.length (is P)
  vars : ∀ n ∈ L, w.ownsRow base 3 1 (vb n) n.vars.length (is n.vars)
  apH : ∀ g, vh.ownBlock = some g → vP.ownBlock ≠ some g
  apV : ∀ n ∈ L, ∀ g, (vb n).ownBlock = some g → vP.ownBlock ≠ some g
section
variable {base bP gp : Nat} {H : List Int} {V : List ByteArray} {L : List Nd} {P : List Int} {vv vh : Value} {AN : Option Addr} {cN : Nat} {rt : Int} {vP : Value} {w w' : World}
theorem RQ.later (h : RQ base bP gp H V L P vv vh AN cN rt vP w) (hb : Below w.heap.size w w') : RQ base bP gp H V L P vv vh AN cN rt vP w' :=
  ⟨h.row.later hb, own_below h.strs hb, own_below h.head hb, own_below h.nodes hb, own_below h.pres hb, fun n hn => own_below (h.vars n hn) hb, h.apH, h.apV⟩
theorem RQ.drew (h : RQ base bP gp H V L P vv vh AN cN rt vP w) : RQ base bP gp H V L P vv vh AN cN rt vP w.drew := ⟨h.row, h.strs, h.head, h.nodes, h.pres, h.vars, h.apH, h.apV⟩
/-- One more node. -/
theorem RQ.node (h : RQ base bP gp H V L P vv vh AN cN rt vP w) (n : Nd) {AN' : Option Addr} {cN' : Nat} (hg : w.grownBy w' (Value.slice AN L.length cN).ownBlock)
    (ho : w'.ownsRow base 96 7 (.slice AN' (L.length + 1) cN') (L.length + 1) (nds (L ++ [n]))) (hv : w.ownsRow base 3 1 (vb n) n.vars.length (is n.vars)) (hf : ∀ g, (vb n).ownBlock = some g → vP.ownBlock ≠ some g) :
    RQ base bP gp H V (L ++ [n]) P vv vh AN' cN' rt vP (w'.setCell ⟨gp, 2, none⟩ (.slice AN' (L.length + 1) cN')) := by
  have hr := h.row.grown hg (own_row_ne h.nodes h.row (by decide))
  have t := (two_grown gp hg).set_ 2 (.slice AN' (L.length + 1) cN')
  have key : ∀ {b sz m : Nat} {e : TypeId} {v : Value} {xs : List Value}, w.ownsRow b e sz v m xs → e ≠ 36 → 96 ≠ e → (w'.setCell ⟨gp, 2, none⟩ (.slice AN' (L.length + 1) cN')).ownsRow b e sz v m xs := fun o h1 h2 => own_two o t (own_row_ne o h.row h1) fun g hg => own_own_ne h.nodes o h2 g hg
  refine ⟨by rw [List.length_append]; exact hr.set_ 2 _, key h.strs (by decide) (by decide), key h.head (by decide) (by decide), by rw [List.length_append]; exact own_set ho hr (by decide), key h.pres (by decide) (by decide), fun a ha => ?_, h.apH, fun a ha => ?_⟩
  · rcases List.mem_append.1 ha with ha | ha
    · exact key (h.vars a ha) (by decide) (by decide)
    · obtain rfl := List.mem_singleton.1 ha
      exact key hv (by decide) (by decide)
  · rcases List.mem_append.1 ha with ha | ha
    · exact h.apV a ha
    · obtain rfl := List.mem_singleton.1 ha
      exact hf
/-- A step's node, and the present node. -/
theorem RQ.stepped {gP cP : Nat} (h : RQ base bP gp H V L P vv vh AN cN rt (.slice (some ⟨gP, 0, none⟩) P.length cP) w) (hbw : base ≤ w.heap.size) (n : Nd) {P' : List Int} (hl : P'.length = P.length) {AN' : Option Addr} {cN' : Nat} (t : Two gP (Value.slice AN L.length cN).ownBlock w w')
    (ho : w'.ownsRow base 96 7 (.slice AN' (L.length + 1) cN') (L.length + 1) (nds (L ++ [n]))) (hp : w'.ownsRow bP 3 1 (.slice (some ⟨gP, 0, none⟩) P.length cP) P.length (is P')) (hv : w'.ownsRow w.heap.size 3 1 (vb n) n.vars.length (is n.vars)) :
    RQ base bP gp H V (L ++ [n]) P' vv vh AN' cN' rt (.slice (some ⟨gP, 0, none⟩) P'.length cP) (w'.setCell ⟨gp, 2, none⟩ (.slice AN' (L.length + 1) cN')) := by
  have hne : gp ≠ gP := fun c => own_row_ne h.pres h.row (by decide) (by rw [c]; rfl)
  have hr := h.row.two t hne (own_row_ne h.nodes h.row (by decide))
  have key : ∀ {b sz m : Nat} {e : TypeId} {v : Value} {xs : List Value}, w.ownsRow b e sz v m xs → v.ownBlock ≠ some gP → e ≠ 36 → 96 ≠ e → (w'.setCell ⟨gp, 2, none⟩ (.slice AN' (L.length + 1) cN')).ownsRow b e sz v m xs := fun o h0 h1 h2 => own_set (own_two o t h0 fun g hg => own_own_ne h.nodes o h2 g hg) hr h1
  have hgP := (h.pres.lt gP rfl).2
  refine ⟨by rw [List.length_append]; exact hr.set_ 2 _, key h.strs (fun c => own_own_ne h.strs h.pres (by decide) gP c rfl) (by decide) (by decide), key h.head (fun c => h.apH gP c rfl) (by decide) (by decide), by rw [List.length_append]; exact own_set ho hr (by decide), by rw [hl]; exact own_set hp hr (by decide), fun a ha => ?_, fun g hg => ?_, fun a ha g hg => ?_⟩
  · rcases List.mem_append.1 ha with ha | ha
    · exact key (h.vars a ha) (fun c => h.apV a ha gP c rfl) (by decide) (by decide)
    · obtain rfl := List.mem_singleton.1 ha
      exact own_less (own_set hv hr (by decide)) hbw
  · rw [hl]; exact h.apH g hg
  · rw [hl]
    rcases List.mem_append.1 ha with ha | ha
    · exact h.apV a ha g hg
    · obtain rfl := List.mem_singleton.1 ha
      intro c
      have h1 := (hv.lt g hg).1
      simp only [Value.ownBlock, Option.some.injEq] at c
      omega
theorem RQ.setP {gP cP : Nat} (h : RQ base bP gp H V L P vv vh AN cN rt (.slice (some ⟨gP, 0, none⟩) P.length cP) w) (k : Nat) (x : Int) :
    RQ base bP gp H V L (P.set k x) vv vh AN cN rt (.slice (some ⟨gP, 0, none⟩) (P.set k x).length cP) (w.setCell ⟨gP, k, none⟩ (.int .i64 x)) := by
  have hne : gp ≠ gP := fun c => own_row_ne h.pres h.row (by decide) (by rw [c]; rfl)
  have hp := own_put h.pres (k := k) (.int .i64 x)
  rw [show (is P).set k (.int .i64 x) = is (P.set k x) by simp [is, List.map_set]] at hp
  have hl : (P.set k x).length = P.length := List.length_set
  refine ⟨h.row.far (p := ⟨gP, k, none⟩) hne _, own_other h.strs (fun c => own_own_ne h.strs h.pres (by decide) gP c rfl), own_other h.head (fun c => h.apH gP c rfl), own_other h.nodes (fun c => own_own_ne h.nodes h.pres (by decide) gP c rfl), by rw [hl]; exact hp, fun a ha => own_other (h.vars a ha) (fun c => h.apV a ha gP c rfl), by rw [hl]; exact h.apH, by rw [hl]; exact h.apV⟩
theorem RQ.appP (h : RQ base bP gp H V L P vv vh AN cN rt vP w) {vP' : Value} {x : Int} (hg : w.grownBy w' vP.ownBlock) (ho : w'.ownsRow bP 3 1 vP' (P.length + 1) (is (P ++ [x]))) (hat : vP'.ownBlock = vP.ownBlock ∨ ∃ g, vP'.ownBlock = some g ∧ w.heap.size ≤ g) :
    RQ base bP gp H V L (P ++ [x]) vv vh AN cN rt vP' w' := by
  have hr := h.row.grown hg (own_row_ne h.pres h.row (by decide))
  have ap : ∀ {v : Value} {m : Nat} {xs : List Value}, w.ownsRow base 3 1 v m xs → (∀ g, v.ownBlock = some g → vP.ownBlock ≠ some g) → ∀ g, v.ownBlock = some g → vP'.ownBlock ≠ some g := fun o ha g hg c => by
    rcases hat with e | ⟨z, e, hz⟩
    · rw [e] at c; exact ha g hg c
    · rw [e] at c
      injection c with c
      have := (o.lt g hg).2
      omega
  exact ⟨hr, own_grown h.strs hg fun g e c => own_own_ne h.strs h.pres (by decide) g c e, own_grown h.head hg fun g e c => h.apH g c e, own_grown h.nodes hg fun g e c => own_own_ne h.nodes h.pres (by decide) g c e, by rw [List.length_append]; exact ho, fun a ha => own_grown (h.vars a ha) hg fun g e c => h.apV a ha g c e, ap h.head h.apH, fun a ha => ap (h.vars a ha) (h.apV a ha)⟩
/-- A cell of the nodes. -/
theorem RQ.setN {gN : Nat} (h : RQ base bP gp H V L P vv vh (some ⟨gN, 0, none⟩) cN rt vP w) {L' : List Nd} {c : Nat} {u : Value} (hl : L'.length = L.length) (hs : (nds L).set c u = nds L') (hv : ∀ n ∈ L', ∃ m ∈ L, vb n = vb m ∧ n.vars = m.vars) :
    RQ base bP gp H V L' P vv vh (some ⟨gN, 0, none⟩) cN rt vP (w.setCell ⟨gN, c, none⟩ u) := by
  have hne : gp ≠ gN := fun c => own_row_ne h.nodes h.row (by decide) (by rw [c]; rfl)
  have hp := own_put h.nodes (k := c) u
  rw [hs] at hp
  have key : ∀ {b sz m : Nat} {e : TypeId} {v : Value} {xs : List Value}, w.ownsRow b e sz v m xs → 96 ≠ e → (w.setCell ⟨gN, c, none⟩ u).ownsRow b e sz v m xs := fun o h2 => own_other o fun c => own_own_ne h.nodes o h2 gN rfl c
  refine ⟨by rw [hl]; exact h.row.far (p := ⟨gN, c, none⟩) hne _, key h.strs (by decide), key h.head (by decide), by rw [hl]; exact hp, key h.pres (by decide), fun a ha => ?_, h.apH, fun a ha => ?_⟩
  · obtain ⟨m, hm, e1, e2⟩ := hv a ha
    rw [e1, e2]; exact key (h.vars m hm) (by decide)
  · obtain ⟨m, hm, e1, _⟩ := hv a ha
    rw [e1]; exact h.apV m hm
theorem RQ.setRt (h : RQ base bP gp H V L P vv vh AN cN rt vP w) (r : Int) : RQ base bP gp H V L P vv vh AN cN r vP (w.setCell ⟨gp, 3, none⟩ (.int .i64 r)) :=
  ⟨h.row.set_ 3 _, own_set h.strs h.row (by decide), own_set h.head h.row (by decide), own_set h.nodes h.row (by decide), own_set h.pres h.row (by decide), fun n hn => own_set (h.vars n hn) h.row (by decide), h.apH, h.apV⟩
/-- The present nodes told anew. -/
theorem RQ.pres' (h : RQ base bP gp H V L P vv vh AN cN rt vP w) {bQ : Nat} {Q : List Int} {vQ : Value} (ho : w.ownsRow bQ 3 1 vQ Q.length (is Q)) (h1 : ∀ g, vh.ownBlock = some g → vQ.ownBlock ≠ some g) (h2 : ∀ n ∈ L, ∀ g, (vb n).ownBlock = some g → vQ.ownBlock ≠ some g) :
    RQ base bQ gp H V L Q vv vh AN cN rt vQ w := ⟨h.row, h.strs, h.head, h.nodes, ho, h.vars, h1, h2⟩
theorem RQ.none' (h : RQ base bP gp H V L P vv vh AN cN rt vP w) {bQ : Nat} : RQ base bQ gp H V L [] vv vh AN cN rt (.slice none 0 0) w :=
  h.pres' (World.ownsRow_nil _ _ _ _) (fun _ _ c => by simp [Value.ownBlock] at c) fun _ _ _ _ c => by simp [Value.ownBlock] at c
theorem RQ.nd (h : RQ base bP gp H V L P vv vh AN cN rt vP w) : NdR w w.heap.size AN (L.map pl) := NdR.of_ownE h.nodes h.vars
end
/-- A node's top or parent told anew. -/
def topAt (L : List Nd) (t : Nat) (b : Bool) : List Nd := L.set t { ndx L t with top := b }
def parAt (L : List Nd) (t : Nat) (v : Int) : List Nd := L.set t { ndx L t with parent := v }
@[simp] theorem topAt_length (L : List Nd) (t : Nat) (b : Bool) : (topAt L t b).length = L.length := by simp [topAt]
@[simp] theorem parAt_length (L : List Nd) (t : Nat) (v : Int) : (parAt L t v).length = L.length := by simp [parAt]
theorem mem_ndx {L : List Nd} {t : Nat} (h : t < L.length) : ndx L t ∈ L := by rw [← ndx_eq L t h]; exact List.getElem_mem _
theorem topAt_vb {L : List Nd} {t : Nat} {b : Bool} (h : t < L.length) : ∀ n ∈ topAt L t b, ∃ m ∈ L, vb n = vb m ∧ n.vars = m.vars := fun n hn => by
  rcases List.mem_or_eq_of_mem_set hn with h' | rfl
  · exact ⟨n, h', rfl, rfl⟩
  · exact ⟨_, mem_ndx h, rfl, rfl⟩
theorem parAt_vb {L : List Nd} {t : Nat} {v : Int} (h : t < L.length) : ∀ n ∈ parAt L t v, ∃ m ∈ L, vb n = vb m ∧ n.vars = m.vars := fun n hn => by
  rcases List.mem_or_eq_of_mem_set hn with h' | rfl
  · exact ⟨n, h', rfl, rfl⟩
  · exact ⟨_, mem_ndx h, rfl, rfl⟩
theorem nds_topAt {L : List Nd} {t : Nat} (h : t < L.length) (b : Bool) : (nds L).set (t * 7 + 6) (.bool b) = nds (topAt L t b) := nds_set L t 6 _ _ h (by rw [ndx_eq L t h]; rfl) (by decide)
theorem nds_parAt {L : List Nd} {t : Nat} (h : t < L.length) (v : Int) : (nds L).set (t * 7 + 5) (.int .i64 v) = nds (parAt L t v) := nds_set L t 5 _ _ h (by rw [ndx_eq L t h]; rfl) (by decide)
theorem nd_ndx {L : List Nd} {t : Nat} (h : t < L.length) : nd (L.map pl) t = pl (ndx L t) := by rw [nd_pl L h, ndx_eq L t h]
theorem topAt_pl {L : List Nd} {t : Nat} (h : t < L.length) (b : Bool) : (topAt L t b).map pl = (L.map pl).set t { nd (L.map pl) t with top := b } := by
  rw [nd_ndx h, topAt, List.map_set]; rfl
theorem parAt_pl {L : List Nd} {t : Nat} (h : t < L.length) (v : Int) : (parAt L t v).map pl = (L.map pl).set t { nd (L.map pl) t with parent := v } := by
  rw [nd_ndx h, parAt, List.map_set]; rfl
/-- What is left, its first k with their places for numbers. -/
def renL (M : Lt) (k : Nat) : Lt := (List.range M.length).map fun j => (if j < k then j else (lft M j).1, (lft M j).2)
@[simp] theorem renL_length (M : Lt) (k : Nat) : (renL M k).length = M.length := by simp [renL]
theorem renL_at (M : Lt) (k : Nat) {j : Nat} (h : j < M.length) : lft (renL M k) j = (if j < k then j else (lft M j).1, (lft M j).2) := by simp [lft, renL, h]
theorem renL_zero (M : Lt) : renL M 0 = M := by
  apply List.ext_getElem
  · simp
  · intro j h1 h2
    rw [lft_eq _ j h1, lft_eq _ j h2, renL_at M 0 h2]; simp
theorem renL_all (M : Lt) : renL M M.length = beginE (setsL M) := by
  have hl : (setsL M).length = M.length := by simp [setsL]
  apply List.ext_getElem
  · rw [renL_length, begin_len, hl]
  · intro j h1 h2
    have hj : j < M.length := by simpa using h1
    rw [lft_eq _ j h1, renL_at M _ hj, if_pos hj]
    have e : setsL M = M.map (·.2) := rfl
    simp [beginE, setsL, ed, lft, hj]
theorem lfs_set : ∀ (L : Lt) (c : Nat) (x : Nat × BitVec 32), c < L.length → x.2 = (lft L c).2 → (lfs L).set (c * 2) (.int .i64 (x.1 : Nat)) = lfs (L.set c x)
  | [], c, x, h, _ => absurd h (Nat.not_lt_zero _)
  | a :: l, 0, x, _, e => by
    obtain ⟨i, b⟩ := x
    simp only [lft, List.getD_cons_zero] at e
    subst e
    rfl
  | a :: l, c + 1, x, h, e => by
    have ih := lfs_set l c x (by simpa using h) (by simpa [lft] using e)
    show (lfC a ++ lfs l).set ((c + 1) * 2) _ = lfC a ++ lfs (l.set c x)
    rw [← ih, List.set_append_right _ _ (by simp [lfC]; omega)]
    congr 2
    simp [lfC]; omega
theorem lfs_ren (M : Lt) {k : Nat} (h : k < M.length) : (lfs (renL M k)).set (k * 2) (.int .i64 (k : Nat)) = lfs (renL M (k + 1)) := by
  have e := renL_at M k h
  rw [lfs_set (renL M k) k (k, (lft M k).2) (by simpa using h) (by rw [e])]
  congr 1
  apply List.ext_getElem
  · simp
  · intro j h1 h2
    have hj : j < M.length := by simpa using h2
    rw [lft_eq _ j h2, renL_at M _ hj, List.getElem_set]
    by_cases c : k = j
    · subst c; rw [if_pos rfl, if_pos (Nat.lt_succ_self _)]
    · rw [if_neg c, lft_eq _ j (by simpa using hj), renL_at M _ hj]
      by_cases d : j < k
      · rw [if_pos d, if_pos (by omega)]
      · rw [if_neg d, if_neg (by omega)]
/-- The plan in memory, the reference's. -/
structure PlanR (base : Nat) (vv vh : Value) (AN : Option Addr) (cN : Nat) (vt : Value) (p : PPlan) (L : List Nd) (w : World) : Prop where
  vars : w.ownsRow base 9 1 vv p.vars.length (ss p.vars)
  head : w.ownsRow base 3 1 vh p.head.length (is p.head)
  nodes : w.ownsRow base 96 7 (.slice AN L.length cN) L.length (nds L)
  tops : w.ownsRow base 3 1 vt p.tops.length (is p.tops)
  nv : ∀ n ∈ L, w.ownsRow base 3 1 (vb n) n.vars.length (is n.vars)
def MakeR (base : Nat) (q : Qy) (w : World) (e : Ending) (w' : World) : Prop :=
  ∃ (p : PPlan) (code : Int) (vv vh : Value) (AN : Option Addr) (cN : Nat) (vt : Value) (L : List Nd), e = .returned (.tuple #[.agg #[vv, vh, .slice AN L.length cN, .int .i64 p.root, vt], .int .i64 code]) ∧ Hid (MakeIs q p code) ∧ p.nodes = L.map pl ∧ PlanR base vv vh AN cN vt p L w' ∧ Below w.heap.size w w'
theorem noPlanR (base : Nat) (w : World) : PlanR base (.slice none 0 0) (.slice none 0 0) none 0 (.slice none 0 0) noPlan [] w :=
  ⟨World.ownsRow_nil _ _ _ _, World.ownsRow_nil _ _ _ _, World.ownsRow_nil _ _ _ _, World.ownsRow_nil _ _ _ _, fun n hn => by cases hn⟩
end Go.Proofs.YtbgbjodehbcgiaaGreatDoor

/- osierref18.step at the plan as it grows: a step of the removal makes the builder's next node. -/
namespace Go.Proofs.YtbgbjodehbcgiaaGreatDoor
open Go.RowKit

theorem addr_add0 (g n : Nat) : (⟨g, 0, none⟩ : Addr).add n = ⟨g, n, none⟩ := by
  unfold Addr.add
  split
  · rename_i h; subst h; rfl
  · simp
section
variable {wr : World} {ops : Array Oper} {rest : List Oper} {o : Oper} {a : Act} {Q : Exit → Act → World → Prop}
theorem app_intG (hgd : o.guard = none) (s x : Operand) (ho : o.op = .call { callee := .builtin .append, args := #[s, x], argTypes := #[27, 27] })
    (base : Nat) (v : Value) (n : Nat) (Z : List Int) (u : Int) (hs : a.eval s = v) (hx : a.eval x = .slice (some ⟨wr.heap.size, 0, none⟩) 1 1) (hown : wr.ownsRow base 3 1 v n (is Z))
    (hn : n + 1 ≤ 2199023255552) (hbase : base ≤ wr.heap.size)
    (h : ∀ v' w', w'.ownsRow base 3 1 v' (n + 1) (is (Z ++ [u])) → wr.grownBy w' v.ownBlock → Below base wr w' → (v'.ownBlock = v.ownBlock ∨ ∃ g, v'.ownBlock = some g ∧ wr.heap.size ≤ g) → wpList Tryz.prog ops Q rest (a.put o.dst v') w') : wpList Tryz.prog ops Q (o :: rest) a (wr.alloc (.cells #[.int .i64 u] 3)) :=
  app_row Tryz.underlying27 Tryz.info_int rfl (by decide) (by decide) hgd s x ho base v n (is Z) _ hs hx hown rfl (by simp [Value.oneCell']) hn hbase fun v' w' h1 h2 h3 h4 => h v' w' (by rw [is_snoc]; exact h1) h2 h3 h4
end
section
variable {base bP gp : Nat} {H : List Int} {V : List ByteArray} {L : List Nd} {P : List Int} {vv vh : Value} {AN : Option Addr} {cN : Nat} {rt : Int} {vP : Value} {w w' : World}
/-- A cell of the sets that are left. -/
theorem RQ.farL (h : RQ base bP gp H V L P vv vh AN cN rt vP w) {b n c m g : Nat} {xs : List Value} (ho : w.ownsRow b 106 2 (.slice (some ⟨g, 0, none⟩) n c) m xs) (k : Nat) (u : Value) : RQ base bP gp H V L P vv vh AN cN rt vP (w.setCell ⟨g, k, none⟩ u) := by
  have hne : gp ≠ g := fun c => own_row_ne ho h.row (by decide) (by rw [c]; rfl)
  have key : ∀ {b sz m : Nat} {e : TypeId} {v : Value} {xs : List Value}, w.ownsRow b e sz v m xs → 106 ≠ e → (w.setCell ⟨g, k, none⟩ u).ownsRow b e sz v m xs := fun o h2 => own_other o fun c => own_own_ne ho o h2 g rfl c
  exact ⟨h.row.far (p := ⟨g, k, none⟩) hne _, key h.strs (by decide), key h.head (by decide), key h.nodes (by decide), key h.pres (by decide), fun a ha => key (h.vars a ha) (by decide), h.apH, h.apV⟩
end
theorem step_q (bs gp gW cW nW : Nat) (H : List Int) (V : List ByteArray) (L : List Nd) (b : PB) (g : Gr) (Lk : Lt) (keep : BitVec 32) (s : Stp) (T : List Int) (vv vh : Value) (AN AL : Option Addr) (cN cl : Nat) (rt : Int) (w : World)
    (hs : Srt Lk) (hf : Fit Lk b g) (st : IsStp Lk keep s) (hll : Lk.length ≤ 7) (hT : ∀ x ∈ T, x < b.nodes.length) (HZ : L.map pl = topz b.nodes T) (hP : b.pres.length = nW)
    (h : RQ bs bs gp H V L b.pres vv vh AN cN rt (.slice (some ⟨gW, 0, none⟩) b.pres.length cW) w) (hl : L.length ≤ 1000) (hbs : bs ≤ w.heap.size) (hL : Rd w w.heap.size AL (lfs Lk)) :
    Calls Tryz.prog 44 #[.slice AN L.length cN, .slice (some ⟨gW, 0, none⟩) nW cW, .slice AL Lk.length cl, .agg #[.int .i64 s.kind, .int .i64 s.edge, .int .i64 s.into, .int .u32 (uz s.cut)]] w fun en w' =>
      ∃ (AN' : Option Addr) (cN' : Nat) (L' : List Nd), en = .returned (.slice AN' (L.length + 1) cN') ∧ L'.length = L.length + 1 ∧ Hid (L'.map pl = topz (stepPB b s).nodes T) ∧ (stepPB b s).pres.length = nW ∧
      RQ bs bs gp H V L' (stepPB b s).pres vv vh AN' cN' rt (.slice (some ⟨gW, 0, none⟩) (stepPB b s).pres.length cW) (w'.setCell ⟨gp, 2, none⟩ (.slice AN' (L.length + 1) cN')) ∧
      Two gW (Value.slice AN L.length cN).ownBlock w w' ∧ Row w' gp 36 [vv, vh, .slice AN L.length cN, .int .i64 rt, .slice none 0 0] := by
  obtain ⟨e, i, x, he, hi, hel, hil, hx, hat, hnd, hpr⟩ := ref_step hs hf st
  have hbl : L.length = b.nodes.length := by have := congrArg List.length HZ; simpa using this
  have hST := r18step_any bs L AN cN gW cW b.pres Lk AL cl s.kind e i s.cut x _ _ _ w rfl rfl rfl hbs hll hs hx hat hel hil hl h.nodes h.pres hL
  rw [he, hi, ← hP]
  refine hST.mono ?_
  rintro en w' ⟨AN', cN', adr, cap, rfl, ho, hp, hv, ht⟩
  have hpl : (stepPB b s).pres = b.pres.set x.1 (L.length : Int) := by rw [hpr, hbl]
  have hlen : (b.pres.set x.1 (L.length : Int)).length = b.pres.length := List.length_set
  refine ⟨AN', cN', L ++ [⟨if s.kind = 1 then 2 else 3, 0, adr, cap, lst (x.2 &&& ~~~s.cut), if s.kind = 1 then pz b.pres e else pz b.pres i, if s.kind = 1 then 0 else pz b.pres e, 0, false⟩], rfl, by rw [List.length_append]; rfl, Lib.hid ?_, by rw [hpl, hlen], ?_, ht, h.row.two ht (fun c => own_row_ne h.pres h.row (by decide) (by rw [c]; rfl)) (own_row_ne h.nodes h.row (by decide))⟩
  · rw [List.map_append, HZ]
    exact (stepPB_snoc b s T hT hnd).symm
  · rw [hpl]
    exact h.stepped hbs ⟨if s.kind = 1 then 2 else 3, 0, adr, cap, lst (x.2 &&& ~~~s.cut), if s.kind = 1 then pz b.pres e else pz b.pres i, if s.kind = 1 then 0 else pz b.pres e, 0, false⟩ hlen ht ho hp hv
theorem kinds_E {E : List (BitVec 32)} {head : BitVec 32} {n : Nat} (hn : n ≤ (runE E head).1.length) : ∀ i, i < (nodesE E head n).length → (nd (nodesE E head n) i).kind = 1 ∨ (nd (nodesE E head n) i).kind = 2 ∨ (nd (nodesE E head n) i).kind = 3 := fun i hi => by
  have hi' : i < (endPB E head n).nodes.length := by simpa using hi
  rw [nodesE_at hn hi']
  show ((gn (grow2 E head n).nodes i).kind : Int) = 1 ∨ ((gn (grow2 E head n).nodes i).kind : Int) = 2 ∨ ((gn (grow2 E head n).nodes i).kind : Int) = 3
  rcases Nat.lt_or_ge i E.length with d | d
  · rw [(ginv3 hn).leaf i d]; left; rfl
  · rcases (ginv3 hn).node i d (by rw [← end_len hn]; exact hi') with ⟨a, _⟩ | ⟨a, _⟩ <;> simp [a]
end Go.Proofs.YtbgbjodehbcgiaaGreatDoor

/- osierref18.Child and Order: what hangs right below a node; the Top nodes from a node on. -/
namespace Go.Proofs.YtbgbjodehbcgiaaGreatDoor
open Go.RowKit

/-- A plan's parameter, in memory. -/
def RRow (w : World) (gp : Nat) (AV AH AN AT : Option Addr) (nv cv nh ch n cN nt ct : Nat) (rt : Int) : Prop := Row w gp 36 [.slice AV nv cv, .slice AH nh ch, .slice AN n cN, .int .i64 rt, .slice AT nt ct]
set_option maxRecDepth 100000 in
set_option maxHeartbeats 4000000 in
theorem r18child_any (AV AH AN AT : Option Addr) (nv cv nh ch cN nt ct : Nat) (N : List PNd) (rt : Int) (j : Nat) (i : Int) (w : World) (hj : j < N.length) (hN : NdR w w.heap.size AN N) :
    Calls Tryz.prog 46 #[.agg #[.slice AV nv cv, .slice AH nh ch, .slice AN N.length cN, .int .i64 rt, .slice AT nt ct], .int .i64 j, .int .i64 i] w fun e w' => e = .returned (.bool (decide (i ∈ chl (nd N j)))) ∧ Below w.heap.size w w' := by
  have a1 : (0 : Int) ≤ j := by omega
  have a2 : (j : Int) < N.length := by omega
  obtain ⟨R, hR⟩ : ∃ R, decide (i ∈ chl (nd N j)) = R := ⟨_, rfl⟩
  rw [hR]
  have HR := Lib.hid hR
  clear hR
  go_enter Tryz.func46, Tryz.ntmps46
  go_upto_region 1 with fail
  have hb0 := below_alloc w (.cells #[.slice AV nv cv, .slice AH nh ch, .slice AN N.length cN, .int .i64 rt, .slice AT nt ct] 36)
  have hP0 : Row (w.alloc (.cells #[.slice AV nv cv, .slice AH nh ch, .slice AN N.length cN, .int .i64 rt, .slice AT nt ct] 36)) w.heap.size 36 [.slice AV nv cv, .slice AH nh ch, .slice AN N.length cN, .int .i64 rt, .slice AT nt ct] := Row.new _ _ _
  have hN0 := hN.later hb0
  generalize w.alloc _ = w0 at hb0 hP0 hN0 ⊢
  obtain ⟨ad, hA, _, T, cT, _, c0, c1, c2, c3, c4, c5, c6⟩ := hN0.cells hj
  subst hA
  have q2 : w0.cell? ⟨w.heap.size, 2, none⟩ = some (.slice (some ad) N.length cN) := hP0.cell 2
  have HC : Hid (chl (nd N j) = if (nd N j).kind = 2 then [(nd N j).source] else if (nd N j).kind = 3 then [(nd N j).source, (nd N j).side] else []) := Lib.hid rfl
  generalize chl (nd N j) = C at HC HR
  generalize nd N j = x at c0 c1 c2 c3 c4 c5 c6 HC
  go_upto_region 2 with fail
  have hb1 := below_alloc w0 (.cells #[.int .i64 x.kind, .int .i64 x.atom, .slice T x.vars.length cT, .int .i64 x.source, .int .i64 x.side, .int .i64 x.parent, .bool x.top] 96)
  have hR1 : Row (w0.alloc (.cells #[.int .i64 x.kind, .int .i64 x.atom, .slice T x.vars.length cT, .int .i64 x.source, .int .i64 x.side, .int .i64 x.parent, .bool x.top] 96)) w0.heap.size 96 [.int .i64 x.kind, .int .i64 x.atom, .slice T x.vars.length cT, .int .i64 x.source, .int .i64 x.side, .int .i64 x.parent, .bool x.top] := Row.new _ _ _
  have hB1 := bthen hb0 hb1
  generalize w0.heap.size = g at hR1 ⊢
  generalize w0.alloc _ = w1 at hB1 hR1 ⊢
  have d0 : w1.cell? ⟨g, 0, none⟩ = some (.int .i64 x.kind) := hR1.cell 0
  have d3 : w1.cell? ⟨g, 3, none⟩ = some (.int .i64 x.source) := hR1.cell 3
  have d4 : w1.cell? ⟨g, 4, none⟩ = some (.int .i64 x.side) := hR1.cell 4
  clear c0 c1 c2 c3 c4 c5 c6 hR1 hN hP0 hN0 q2 hb0 hb1
  generalize x.source = a at d3 HC ⊢
  generalize x.side = b at d4 HC ⊢
  generalize x.kind = k at d0 HC ⊢
  by_cases h2 : k = 2
  · have e : C = [a] := by rw [HC.out, if_pos h2]
    have hr : R = decide (a = i) := by rw [← HR.out, e]; simp [eq_comm]
    subst h2
    clear HC HR e
    cases h : decide (a = i)
    · have h' : (a == i) = false := by simpa using h
      rw [h] at hr
      have hne : a ≠ i := by simpa using h
      go_wp2_with fail
      go_ret
      exact ⟨by first | rfl | simp [hr] | (subst hr; simp [hne]), hB1⟩
    · have h' : (a == i) = true := by simpa using h
      rw [h] at hr
      have hne : a = i := by simpa using h
      go_wp2_with fail
      go_ret
      exact ⟨by first | rfl | simp [hr] | (subst hr; simp [hne]), hB1⟩
  · have b2 : (k == 2) = false := by simpa using h2
    have b2' : decide (k = 2) = false := by simpa using h2
    by_cases h3 : k = 3
    · have e : C = [a, b] := by rw [HC.out, if_neg h2, if_pos h3]
      have hr : R = (decide (a = i) || decide (b = i)) := by rw [← HR.out, e]; simp [eq_comm]
      subst h3
      clear HC HR e
      cases h : decide (a = i) <;> cases hh : decide (b = i) <;>
        (first | (have h' : (a == i) = false := by simpa using h) | (have h' : (a == i) = true := by simpa using h)) <;>
        (first | (have hh' : (b == i) = false := by simpa using hh) | (have hh' : (b == i) = true := by simpa using hh)) <;>
        (rw [h, hh] at hr; go_wp2_with fail; go_ret; exact ⟨by first | rfl | simp [hr] | (subst hr; simp_all), hB1⟩)
    · have b3 : (k == 3) = false := by simpa using h3
      have b3' : decide (k = 3) = false := by simpa using h3
      have e : C = [] := by rw [HC.out, if_neg h2, if_neg h3]
      have hr : R = false := by rw [← HR.out, e]; simp
      clear HC HR e h2 h3
      go_wp2_with fail
      go_ret
      exact ⟨by first | rfl | simp [hr], hB1⟩
section
variable {wr : World} {ops : Array Oper} {o : Oper} {a : Act} {K : Act → World → Prop} {Q : Exit → Act → World → Prop} {F : Prop}
set_option maxRecDepth 100000 in
theorem step_own2 (hgd : o.guard = none) (s x : Operand) (ho : o.op = .call { callee := .builtin .append, args := #[s, x], argTypes := #[27, 27] })
    (base base' : Nat) (v u : Value) (X Y : List Int) (hs : a.eval s = v) (hx : a.eval x = u) (hown : wr.ownsRow base 3 1 v X.length (is X)) (hsrc : wr.ownsRow base' 3 1 u Y.length (is Y))
    (hn : X.length + Y.length ≤ 1000) (hbase : base ≤ wr.heap.size)
    (h : ∀ v' w', w'.ownsRow base 3 1 v' (X ++ Y).length (is (X ++ Y)) → wr.grownBy w' v.ownBlock → Below base wr w' → (v'.ownBlock = v.ownBlock ∨ ∃ g, v'.ownBlock = some g ∧ wr.heap.size ≤ g) → K (a.put o.dst v') w') :
    if Region.wanted o (yielded ops a.tmps) = true then Oper.wp Tryz.prog o a wr K Q else F := by
  have hE : is X ++ is Y = is (X ++ Y) := by simp [is]
  obtain ⟨A, c, rfl, _, _, hR, _⟩ := Rd.of_own hsrc
  refine step_app_src Tryz.underlying27 Tryz.info_int rfl (by decide) hgd s x ho base v X.length (is X) A Y.length c (is Y) hs hx hown (by simp [is]) hR (fun z => ?_) (is_one Y) (by omega) (by omega) hbase ?_
  · subst z
    rcases hsrc.2 with ⟨e, _⟩ | ⟨_, _, _, e, _⟩
    · injection e
    · injection e with e; cases e
  · intro v' w' ho' hg hb hat
    exact h v' w' (by rw [List.length_append, ← hE]; exact ho') hg hb hat
end
theorem ref_order (N : List PNd) (f : Nat) (i : Nat) (hk : (nd N i).kind = 1 ∨ (nd N i).kind = 2 ∨ (nd N i).kind = 3) :
    ordF N (f + 1) i = if (nd N i).top = true then (i : Int) :: ((if (nd N i).kind = 1 then [] else ordF N f (nd N i).source) ++ (if (nd N i).kind = 3 then ordF N f (nd N i).side else [])) else [] := by
  show (if (nd N (i : Int).toNat).top = true then _ else _) = _
  rw [Int.toNat_natCast]
  by_cases h : (nd N i).top = true
  · rw [if_pos h, if_pos h]
    rcases hk with h1 | h1 | h1 <;> simp [chl, h1]
  · rw [if_neg h, if_neg h]
set_option maxRecDepth 100000 in
set_option maxHeartbeats 4000000 in
theorem r18order_any (AV AH AN AT : Option Addr) (nv cv nh ch cN nt ct : Nat) (N : List PNd) (rt : Int) (rank : Nat → Nat)
    (HK : ∀ i, i < N.length → (nd N i).kind = 1 ∨ (nd N i).kind = 2 ∨ (nd N i).kind = 3)
    (HW : ∀ i, i < N.length → (nd N i).top = true → ∀ x ∈ chl (nd N i), ∃ k : Nat, x = k ∧ k < N.length ∧ rank k < rank i) (HL : ∀ f i, (ordF N f i).length ≤ 450) :
    ∀ (f i : Nat) (w : World), i < N.length → rank i < f → NdR w w.heap.size AN N →
    Calls Tryz.prog 47 #[.agg #[.slice AV nv cv, .slice AH nh ch, .slice AN N.length cN, .int .i64 rt, .slice AT nt ct], .int .i64 i] w fun e w' => ∃ v, e = .returned v ∧ w'.ownsRow w.heap.size 3 1 v (ordF N f i).length (is (ordF N f i)) ∧ Below w.heap.size w w'
  | 0, i, w, _, hf, _ => absurd hf (Nat.not_lt_zero _)
  | f + 1, i, w, hi, hf, hN => by
    have ih := Lib.hid (r18order_any AV AH AN AT nv cv nh ch cN nt ct N rt rank HK HW HL f)
    have HW2 := Lib.hid (HW i hi)
    have hl2 := HL (f + 1) i
    have HL3 := Lib.hid (HL f)
    have hkd := HK i hi
    have HO := Lib.hid (ref_order N f i hkd)
    have HCH : Hid (((nd N i).kind ≠ 1 → (nd N i).source ∈ chl (nd N i)) ∧ ((nd N i).kind = 3 → (nd N i).side ∈ chl (nd N i))) := Lib.hid (by
      rcases hkd with h | h | h <;> simp [chl, h])
    clear HW HL HK
    generalize ordF N (f + 1) (i : Int) = R at HO hl2 ⊢
    generalize chl (nd N i) = C at HW2 HCH
    go_enter Tryz.func47, Tryz.ntmps47
    go_upto_region 1 with fail
    have hb0 := below_alloc w (.cells #[.slice AV nv cv, .slice AH nh ch, .slice AN N.length cN, .int .i64 rt, .slice AT nt ct] 36)
    have hP0 : RRow (w.alloc (.cells #[.slice AV nv cv, .slice AH nh ch, .slice AN N.length cN, .int .i64 rt, .slice AT nt ct] 36)) w.heap.size AV AH AN AT nv cv nh ch N.length cN nt ct rt := Row.new _ _ _
    have hN0 := hN.later hb0
    generalize w.alloc _ = w0 at hb0 hP0 hN0 ⊢
    obtain ⟨ad, hA, _, T, cT, _, c0, _, _, c3, c4, _, c6⟩ := hN0.cells hi
    subst hA
    have q2 : w0.cell? ⟨w.heap.size, 2, none⟩ = some (.slice (some ad) N.length cN) := Row.cell hP0 2
    have a1 : (0 : Int) ≤ i := by omega
    have a2 : (i : Int) < N.length := by omega
    obtain ⟨t, ht⟩ : ∃ t, (nd N i).top = t := ⟨_, rfl⟩
    rw [ht] at c6 HW2 HO
    clear ht
    cases t
    · have e : R = [] := by rw [HO.out]; rfl
      clear HO HCH HW2
      go_wp2_with fail
      go_ret
      subst e
      exact ⟨_, rfl, World.ownsRow_nil _ _ _ _, hb0⟩
    · have HW3 := Lib.hid (HW2.out rfl)
      have HO2 : Hid (R = (i : Int) :: ((if (nd N i).kind = 1 then [] else ordF N f (nd N i).source) ++ (if (nd N i).kind = 3 then ordF N f (nd N i).side else []))) := Lib.hid (by rw [HO.out, if_pos rfl])
      clear HO HW2
      go_upto_region 3 with fail
      go_upto_region 4 with fail
      have hb1 := below_alloc w0 (.cells #[.int .i64 i] 3)
      have hB1 := bthen hb0 hb1
      have ho1 : (w0.alloc (.cells #[.int .i64 i] 3)).ownsRow w.heap.size 3 1 (.slice (some ⟨w0.heap.size, 0, none⟩) 1 1) [(i : Int)].length (is [(i : Int)]) := Row.own (Row.new_ (xs := is [(i : Int)]) rfl) hb0.size (by simp [maxLen])
      have hP1 : RRow (w0.alloc (.cells #[.int .i64 i] 3)) w.heap.size AV AH (some ad) AT nv cv nh ch N.length cN nt ct rt := Row.later hP0 hb1
      have hN1 := hN0.later hb1
      generalize w0.alloc _ = w1 at hb1 hB1 ho1 hP1 hN1 ⊢
      generalize (⟨w0.heap.size, 0, none⟩ : Addr) = A1 at ho1 ⊢
      clear c0 c3 c4 c6 q2 hN0 hP0 hb1 hb0
      obtain ⟨ad2, hA2, _, T2, cT2, _, c0, _, _, c3, c4, _, c6⟩ := hN1.cells hi
      obtain rfl : ad = ad2 := by injection hA2
      clear hA2
      have q2 : w1.cell? ⟨w.heap.size, 2, none⟩ = some (.slice (some ad) N.length cN) := Row.cell hP1 2
      obtain ⟨K, hK⟩ : ∃ K, (nd N i).kind = K := ⟨_, rfl⟩
      obtain ⟨sr, hsr⟩ : ∃ K, (nd N i).source = K := ⟨_, rfl⟩
      obtain ⟨sd, hsd⟩ : ∃ K, (nd N i).side = K := ⟨_, rfl⟩
      rw [hK] at HO2 HCH c0 hkd
      rw [hsr] at HO2 HCH c3
      rw [hsd] at HO2 HCH c4
      have hK' := hK
      have hsd' := hsd
      clear hK hsr hsd
      by_cases h1 : K = 1
      · have g1 : (K != 1) = false := by simp [h1]
        have g3 : (K == 3) = false := by rw [h1]; rfl
        have e : R = [(i : Int)] := by rw [HO2.out, if_pos h1, if_neg (by omega)]; rfl
        clear HO2 HCH hkd h1
        go_wp2_with fail
        go_ret
        subst e
        exact ⟨_, rfl, ho1, hB1⟩
      · have g1 : (K != 1) = true := by simpa using h1
        obtain ⟨m, hm, hmN, hmr⟩ := HW3.out sr (HCH.out.1 h1)
        subst hm
        have e1 : Hid (R = ((i : Int) :: ordF N f (m : Int)) ++ (if K = 3 then ordF N f sd else [])) := Lib.hid (by rw [HO2.out, if_neg h1]; rfl)
        have hl3 := HL3.out (m : Int)
        clear HO2
        have p0 : w1.drew.cell? ⟨w.heap.size, 0, none⟩ = some (.slice AV nv cv) := Row.cell hP1 0
        have p1 : w1.drew.cell? ⟨w.heap.size, 1, none⟩ = some (.slice AH nh ch) := Row.cell hP1 1
        have p2 : w1.drew.cell? ⟨w.heap.size, 2, none⟩ = some (.slice (some ad) N.length cN) := q2
        have p3 : w1.drew.cell? ⟨w.heap.size, 3, none⟩ = some (.int .i64 rt) := Row.cell hP1 3
        have p4 : w1.drew.cell? ⟨w.heap.size, 4, none⟩ = some (.slice AT nt ct) := Row.cell hP1 4
        have d3 : w1.drew.cell? ⟨(ad.add (i * 7)).block, (ad.add (i * 7)).off + 3, none⟩ = some (.int .i64 (m : Int)) := c3
        have HIH := Lib.hid (ih.out m w1.drew hmN (by omega) (show NdR w1.drew w1.drew.heap.size (some ad) N from hN1))
        have ho1d : w1.drew.ownsRow w.heap.size 3 1 (.slice (some A1) 1 1) [(i : Int)].length (is [(i : Int)]) := ho1
        generalize ordF N f (m : Int) = Y at HIH e1 hl3
        go_upto_region 5 with fail
        go_region_law (first
          | (go_simp; go_at_call 47; refine HIH.out.mono ?_; rintro en w2 ⟨v, rfl, ho2, hb2⟩; have ho1' := own_below ho1d hb2; have hsz2 : w.heap.size ≤ w2.heap.size := Nat.le_trans hB1.size hb2.size)
          | (refine step_own2 (wr := w2) rfl (.tmp 22) (.tmp 30) rfl w.heap.size w1.drew.heap.size _ _ [(i : Int)] Y (by first | rfl | go_simp) (by first | rfl | go_simp) ho1' ho2 (by simp; omega) hsz2 ?_; intro v5 w5 ho5 hg5 hb5 hat5))
        all_goals
          have hP5 : RRow w5 w.heap.size AV AH (some ad) AT nv cv nh ch N.length cN nt ct rt := Row.grown (Row.later (show RRow w1.drew w.heap.size AV AH (some ad) AT nv cv nh ch N.length cN nt ct rt from hP1) hb2) hg5 (own_row_ne ho1' (Row.later (show RRow w1.drew w.heap.size AV AH (some ad) AT nv cv nh ch N.length cN nt ct rt from hP1) hb2) (by decide))
          have hB5 : Below w.heap.size w w5 := (hB1.drew.trans (hb2.mono hB1.size)).trans hb5
          have hN5 := hN.later hB5
          have hl1 : ([(i : Int)] ++ Y).length ≤ 451 := by simp; omega
          have e2 : Hid (R = ([(i : Int)] ++ Y) ++ (if K = 3 then ordF N f sd else [])) := Lib.hid e1.out
          clear e1 HIH ho1 ho1d ho1' ho2 hg5 hb5 hat5 hb2 hsz2 p0 p1 p2 p3 p4 d3 c0 c3 c4 c6 q2 hN1 hP1 hB1
          generalize [(i : Int)] ++ Y = X at ho5 e2 hl1
          obtain ⟨ad3, hA3, _, T3, cT3, _, c0, _, _, c3, c4, _, c6⟩ := hN5.cells hi
          obtain rfl : ad = ad3 := by injection hA3
          clear hA3
          rw [hK'] at c0
          rw [hsd'] at c4
          by_cases h3 : K = 3
          · have g3 : (K == 3) = true := by simp [h3]
            have g3' : decide (K = 3) = true := by simp [h3]
            obtain ⟨m3, hm3, hm3N, hm3r⟩ := HW3.out sd (HCH.out.2 h3)
            subst hm3
            have e3 : R = X ++ ordF N f (m3 : Int) := by rw [e2.out, if_pos h3]
            have hl4 := HL3.out (m3 : Int)
            have q2 : w5.cell? ⟨w.heap.size, 2, none⟩ = some (.slice (some ad) N.length cN) := Row.cell hP5 2
            have p0 : w5.drew.cell? ⟨w.heap.size, 0, none⟩ = some (.slice AV nv cv) := Row.cell hP5 0
            have p1 : w5.drew.cell? ⟨w.heap.size, 1, none⟩ = some (.slice AH nh ch) := Row.cell hP5 1
            have p2 : w5.drew.cell? ⟨w.heap.size, 2, none⟩ = some (.slice (some ad) N.length cN) := q2
            have p3 : w5.drew.cell? ⟨w.heap.size, 3, none⟩ = some (.int .i64 rt) := Row.cell hP5 3
            have p4 : w5.drew.cell? ⟨w.heap.size, 4, none⟩ = some (.slice AT nt ct) := Row.cell hP5 4
            have d4 : w5.drew.cell? ⟨(ad.add (i * 7)).block, (ad.add (i * 7)).off + 4, none⟩ = some (.int .i64 (m3 : Int)) := c4
            have HIH := Lib.hid (ih.out m3 w5.drew hm3N (by omega) (show NdR w5.drew w5.drew.heap.size (some ad) N from hN5))
            have ho5d : w5.drew.ownsRow w.heap.size 3 1 v5 X.length (is X) := ho5
            clear e2 HCH h3
            generalize ordF N f (m3 : Int) = Z at HIH e3 hl4
            go_upto_region 7 with fail
            go_region_law (first
              | (go_simp; go_at_call 47; refine HIH.out.mono ?_; rintro en w6 ⟨v6, rfl, ho6, hb6⟩; have ho5' := own_below ho5d hb6; have hsz6 : w.heap.size ≤ w6.heap.size := Nat.le_trans hB5.size hb6.size)
              | (refine step_own2 (wr := w6) rfl (.tmp 39) (.tmp 47) rfl w.heap.size w5.drew.heap.size _ _ X Z (by first | rfl | go_simp) (by first | rfl | go_simp) ho5' ho6 (by omega) hsz6 ?_; intro v7 w7 ho7 hg7 hb7 hat7))
            all_goals
              have hB7 : Below w.heap.size w w7 := (hB5.drew.trans (hb6.mono hB5.size)).trans hb7
              go_wp2_with fail
              go_ret
              subst e3
              exact ⟨_, rfl, ho7, hB7⟩
          · have g3 : (K == 3) = false := by simpa using h3
            have g3' : decide (K = 3) = false := by simpa using h3
            have e3 : R = X := by rw [e2.out, if_neg h3, List.append_nil]
            have q2 : w5.cell? ⟨w.heap.size, 2, none⟩ = some (.slice (some ad) N.length cN) := Row.cell hP5 2
            clear e2 HCH h3
            go_wp2_with fail
            go_ret
            subst e3
            exact ⟨_, rfl, ho5, hB5⟩
end Go.Proofs.YtbgbjodehbcgiaaGreatDoor
