/- plan.Make, behind its third loop: the plan is put together from the nodes. -/
import Derived.Test.YtdemmjofggemhaaDoorPBq
import Derived.Test.YtdemmjofggemhaaDoorPOrder
import Derived.Test.YtdemmjofggemhaaDoorBE
import Derived.Test.YtdemmjofggemhaaDoorQOf
import Derived.Test.YtdemmjofggemhaaDoorBG
import Derived.Deep.RegionHeld3
import Derived.Deep.CutBlock
import Derived.Deep.DeepCutAuto
set_option linter.unusedSimpArgs false
namespace Go.Proofs.YtdemmjofggemhaaDoor
open Go.RowKit

/-- What follows from a region on. -/
def tailFrom (n : Nat) : Code → Option Code
  | .seq a b => match tailFrom n a with
    | some c => some (.seq c b)
    | none => tailFrom n b
  | .region id ops d => if id = n then some (.region id ops d) else none
  | _ => none
noncomputable def restCode : Code := (Tryd.f6.body.bind (tailFrom 32)).getD .skip
set_option maxRecDepth 1000000 in
set_option maxHeartbeats 16000000 in
theorem plan_tail (q : Qy) (AH : Option Addr) (cH : Nat) (AA : Option Addr) (cA : Nat) (w : World) (hq : SzQ q) (hH : Rd w w.heap.size AH (ss q.head)) (hA : Ats w w.heap.size AA q.atoms)
    (E : List (BitVec 32)) (h : BitVec 32) (n : Nat) (vars : List ByteArray) (M : Lt) (P : List Int) (low gb bs n' r : Nat) (ad : Addr) (T2 : Lt) (c2 x0 : Nat) (L3 : List Nd) (AN3 : Option Addr) (S3 : List (BitVec 32)) (P3 : List Int) (cN3 gS3 cS3 gP3 cP3 : Nat) (w10 : World)
    (HIS2 : Hid (MakeIs q ⟨vars, q.head.map fun h => atI vars h, nodesE E h n, rootE E h n, topsE E h n⟩ 0))
    (HQV : Hid (∀ y : World, Ats y y.heap.size AA q.atoms → Calls Tryd.prog 25 #[.agg #[.string q.name, .slice AH q.head.length cH, .slice AA q.atoms.length cA]] y fun e w' => ∃ v, e = .returned v ∧ w'.ownsRow y.heap.size 9 1 v vars.length (ss vars) ∧ Below y.heap.size y w'))
    (hvl : vars.length ≤ 30) (hRg : w.heap.size + 1 < gb) (hgbw10 : gb ≤ w10.heap.size) (hB10w : Below w.heap.size w w10)
    (hQ10 : Row w10 w.heap.size 25 [.string q.name, .slice AH q.head.length cH, .slice AA q.atoms.length cA])
    (hR10 : Row w10 (w.heap.size + 1) 31 [.slice none 0 0, .slice none 0 0, .slice none 0 0, .int .i64 0, .slice none 0 0])
    (hM10 : OwnsCnt w10 (bs + 1) n' (fun y => (pres2 M P).count y)) (HRR : Hid (rootE E h n = r)) (HZ3 : Hid ((endPB E h n).nodes = L3.map pl)) (hrl3 : r < L3.length) (hL3f : L3.length ≤ 28)
    (HFN : Hid (Forest (nodesE E h n))) (HFR : Hid (Forest (rawE E h n))) (HLOW : Hid (lowE E h n = low)) (HSP : Hid ((secPB E h n).pres = pres2 M P)) (HPAR : Hid (∀ m ∈ L3, m.parent = -1))
    (hx0 : x0 < P3.length) (hl0 : w10.cell? (ad.add (0 * 2)) = some (.int .i64 (x0 : Nat))) (had : ad.block < w10.heap.size) (hp0 : w10.cell? ⟨gP3, x0, none⟩ = some (.int .i64 r)) (hT20 : 0 < T2.length)
    (hBS3 : BS gb bs L3 S3 P3 AN3 cN3 gS3 cS3 gP3 cP3 w10) (c : Code) (hc : c = restCode)
    {fz0 fz3 fz4 fz5 fz6 fz7 fz8 fz9 fz10 fz11 fz12 fz13 fz17 fz18 fz19 fz21 fz22 fz23 fz24 fz25 fz26 fz27 fz28 fz29 fz30 fz31 fz32 fz33 fz34 fz35 fz36 fz37 fz38 fz39 fz40 fz41 fz42 fz43 fz44 fz45 fz46 fz47 fz48 fz49 fz50 fz51 fz52 fz53 fz54 fz55 fz56 fz57 fz58 fz59 fz60 fz61 fz62 fz63 fz64 fz65 fz66 fz67 fz68 fz69 fz70 fz71 fz72 fz73 fz74 fz75 fz76 fz77 fz78 fz79 fz80 fz81 fz82 fz83 fz84 fz85 fz86 fz87 fz88 fz89 fz90 fz91 fz92 fz93 fz94 fz95 fz96 fz97 fz98 fz99 fz100 fz101 fz102 fz103 fz104 fz105 fz106 fz107 fz108 fz109 fz110 fz111 fz112 fz113 fz114 fz115 fz116 fz117 fz118 fz119 fz120 fz121 fz122 fz123 fz124 fz125 fz126 fz127 fz128 fz129 fz130 fz131 fz132 fz133 fz134 fz135 fz136 fz137 fz138 fz139 fz140 fz141 fz142 fz143 fz144 fz145 fz146 fz147 fz148 fz149 fz150 fz151 fz152 fz153 fz154 fz155 fz156 fz157 fz158 fz159 fz160 fz161 fz162 fz163 fz164 fz165 fz166 fz167 fz168 fz169 fz170 fz171 fz172 fz173 fz174 fz175 fz176 fz177 fz178 fz179 fz180 fz181 fz182 fz183 fz184 fz185 fz186 fz187 fz188 fz189 fz190 fz191 fz192 fz193 fz194 fz195 fz196 fz197 fz198 fz199 fz200 fz201 fz202 fz203 fz204 fz205 fz206 fz207 fz208 fz209 fz210 fz211 fz212 fz213 fz214 fz215 fz216 fz217 fz218 fz219 fz220 fz221 fz222 fz223 fz224 fz225 fz226 fz227 fz228 fz229 fz230 fz231 fz232 fz233 : Value} :
    Code.wp Tryd.prog c (bodyPost Tryd.prog Tryd.f6 (MakeM w.heap.size q w)) ⟨List.toArray (fz0 :: (Value.pointer (some ⟨w.heap.size, 0, none⟩)) :: (Value.pointer (some ⟨w.heap.size + 1, 0, none⟩)) :: fz3 :: fz4 :: fz5 :: fz6 :: fz7 :: fz8 :: fz9 :: fz10 :: fz11 :: fz12 :: fz13 :: (Value.int .i64 (low : Nat)) :: (Value.pointer (some ⟨bs, 0, none⟩)) :: (Value.map (some (bs + 1))) :: fz17 :: fz18 :: fz19 :: (Value.slice (some ad) T2.length c2) :: fz21 :: fz22 :: fz23 :: fz24 :: fz25 :: fz26 :: fz27 :: fz28 :: fz29 :: fz30 :: fz31 :: fz32 :: fz33 :: fz34 :: fz35 :: fz36 :: fz37 :: fz38 :: fz39 :: fz40 :: fz41 :: fz42 :: fz43 :: fz44 :: fz45 :: fz46 :: fz47 :: fz48 :: fz49 :: fz50 :: fz51 :: fz52 :: fz53 :: fz54 :: fz55 :: fz56 :: fz57 :: fz58 :: fz59 :: fz60 :: fz61 :: fz62 :: fz63 :: fz64 :: fz65 :: fz66 :: fz67 :: fz68 :: fz69 :: fz70 :: fz71 :: fz72 :: fz73 :: fz74 :: fz75 :: fz76 :: fz77 :: fz78 :: fz79 :: fz80 :: fz81 :: fz82 :: fz83 :: fz84 :: fz85 :: fz86 :: fz87 :: fz88 :: fz89 :: fz90 :: fz91 :: fz92 :: fz93 :: fz94 :: fz95 :: fz96 :: fz97 :: fz98 :: fz99 :: fz100 :: fz101 :: fz102 :: fz103 :: fz104 :: fz105 :: fz106 :: fz107 :: fz108 :: fz109 :: fz110 :: fz111 :: fz112 :: fz113 :: fz114 :: fz115 :: fz116 :: fz117 :: fz118 :: fz119 :: fz120 :: fz121 :: fz122 :: fz123 :: fz124 :: fz125 :: fz126 :: fz127 :: fz128 :: fz129 :: fz130 :: fz131 :: fz132 :: fz133 :: fz134 :: fz135 :: fz136 :: fz137 :: fz138 :: fz139 :: fz140 :: fz141 :: fz142 :: fz143 :: fz144 :: fz145 :: fz146 :: fz147 :: fz148 :: fz149 :: fz150 :: fz151 :: fz152 :: fz153 :: fz154 :: fz155 :: fz156 :: fz157 :: fz158 :: fz159 :: fz160 :: fz161 :: fz162 :: fz163 :: fz164 :: fz165 :: fz166 :: fz167 :: fz168 :: fz169 :: fz170 :: fz171 :: fz172 :: fz173 :: fz174 :: fz175 :: fz176 :: fz177 :: fz178 :: fz179 :: fz180 :: fz181 :: fz182 :: fz183 :: fz184 :: fz185 :: fz186 :: fz187 :: fz188 :: fz189 :: fz190 :: fz191 :: fz192 :: fz193 :: fz194 :: fz195 :: fz196 :: fz197 :: fz198 :: fz199 :: fz200 :: fz201 :: fz202 :: fz203 :: fz204 :: fz205 :: fz206 :: fz207 :: fz208 :: fz209 :: fz210 :: fz211 :: fz212 :: fz213 :: fz214 :: fz215 :: fz216 :: fz217 :: fz218 :: fz219 :: fz220 :: fz221 :: fz222 :: fz223 :: fz224 :: fz225 :: fz226 :: fz227 :: fz228 :: fz229 :: fz230 :: fz231 :: fz232 :: fz233 :: []), []⟩ w10 := by
  subst hc
  conv => arg 2; whnf
  go_upto_region 32 with fail
  have hBSd := hBS3.drew
  have s0 : w10.drew.cell? ⟨w.heap.size, 0, none⟩ = some (.string q.name) := hQ10.drew.cell 0
  have s1 : w10.drew.cell? ⟨w.heap.size, 1, none⟩ = some (.slice AH q.head.length cH) := hQ10.drew.cell 1
  have s2 : w10.drew.cell? ⟨w.heap.size, 2, none⟩ = some (.slice AA q.atoms.length cA) := hQ10.drew.cell 2
  have s3 : w10.drew.cell? ⟨bs, 0, none⟩ = some (.slice AN3 L3.length cN3) := hBSd.row.cell 0
  have s4 : w10.drew.cell? ⟨bs, 2, none⟩ = some (.slice (some ⟨gP3, 0, none⟩) P3.length cP3) := hBSd.row.cell 2
  have s5 : w10.drew.cell? (ad.add 0) = some (.int .i64 (x0 : Nat)) := hl0
  have s6 : w10.drew.cell? ad = some (.int .i64 (x0 : Nat)) := s5
  have s7 : w10.drew.cell? ⟨gP3, x0, none⟩ = some (.int .i64 r) := hp0
  have a1 : (0 : Int) ≤ (x0 : Nat) := by omega
  have a2 : ((x0 : Nat) : Int) < P3.length := by omega
  have a3 : (0 : Int) < T2.length := by omega
  have a4 : 0 < T2.length := hT20
  have HAw : Hid (∀ y, Below w10.drew.heap.size w10.drew y → Ats y y.heap.size AA q.atoms) := Lib.hid fun y hy => (show Ats w10.drew w10.drew.heap.size AA q.atoms from hA.later hB10w.drew).later hy
  have HKK : Hid (∀ y, Below w10.drew.heap.size w10.drew y → y.cell? ⟨w.heap.size, 0, none⟩ = some (.string q.name) ∧ y.cell? ⟨w.heap.size, 1, none⟩ = some (.slice AH q.head.length cH) ∧ y.cell? ⟨w.heap.size, 2, none⟩ = some (.slice AA q.atoms.length cA) ∧ y.cell? ⟨bs, 0, none⟩ = some (.slice AN3 L3.length cN3) ∧ y.cell? ⟨bs, 2, none⟩ = some (.slice (some ⟨gP3, 0, none⟩) P3.length cP3) ∧ y.cell? (ad.add 0) = some (.int .i64 (x0 : Nat)) ∧ y.cell? ad = some (.int .i64 (x0 : Nat)) ∧ y.cell? ⟨gP3, x0, none⟩ = some (.int .i64 r)) := Lib.hid fun y hy => by
    have hk11 := fun (p : Addr) (hp : p.block < w10.drew.heap.size) => hy.cell (p := p) hp
    exact ⟨(hk11 _ (hQ10.lt)).trans s0, (hk11 _ (hQ10.lt)).trans s1, (hk11 _ (hQ10.lt)).trans s2, (hk11 _ (hBS3.row.lt)).trans s3, (hk11 _ (hBS3.row.lt)).trans s4, (hk11 _ (by rw [block_add]; exact had)).trans s5, (hk11 _ had).trans s6, (hk11 _ (hBS3.base_p.2)).trans s7⟩
  have hb10r : Below w10.heap.size w10 w10 := Below.refl _ _
  go_cut [24] (fun x wx => ∃ (gp : Nat) (AV : Option Addr) (cV : Nat), x = .pointer (some ⟨gp, 0, none⟩) ∧ w10.heap.size ≤ gp ∧ Row wx gp 31 [.slice AV vars.length cV, .slice none 0 0, .slice AN3 L3.length cN3, .int .i64 r, .slice none 0 0] ∧ wx.ownsRow w10.heap.size 9 1 (.slice AV vars.length cV) vars.length (ss vars) ∧ Below w10.heap.size w10 wx)
  case first =>
    refine wp_region_until 18 (fun y : World => y.cell? ⟨w.heap.size, 0, none⟩ = some (.string q.name) ∧ y.cell? ⟨w.heap.size, 1, none⟩ = some (.slice AH q.head.length cH) ∧ y.cell? ⟨w.heap.size, 2, none⟩ = some (.slice AA q.atoms.length cA) ∧ y.cell? ⟨bs, 0, none⟩ = some (.slice AN3 L3.length cN3) ∧ y.cell? ⟨bs, 2, none⟩ = some (.slice (some ⟨gP3, 0, none⟩) P3.length cP3) ∧ y.cell? (ad.add 0) = some (.int .i64 (x0 : Nat)) ∧ y.cell? ad = some (.int .i64 (x0 : Nat)) ∧ y.cell? ⟨gP3, x0, none⟩ = some (.int .i64 r)) (by kernel_rfl) ⟨s0, s1, s2, s3, s4, s5, s6, s7⟩ (fun hHeld => ?_)
    refine uL 0 [0] hHeld ?_
    try simp only [Act.put, uA, u0, u1]
    refine uN 2 hHeld ?_
    try simp only [Act.put, uA, u0, u1]
    refine uN 3 hHeld ?_
    try simp only [Act.put, uA, u0, u1]
    refine uN 4 hHeld ?_
    try simp only [Act.put, uA, u0, u1]
    refine uL 5 [5] hHeld ?_
    try simp only [Act.put, uA, u0, u1]
    refine uN 6 hHeld ?_
    try simp only [Act.put, uA, u0, u1]
    refine uN 7 hHeld ?_
    try simp only [Act.put, uA, u0, u1]
    refine uN 8 hHeld ?_
    try simp only [Act.put, uA, u0, u1]
    refine uL 9 [9] hHeld ?_
    try simp only [Act.put, uA, u0, u1]
    refine uN 10 hHeld ?_
    try simp only [Act.put, uA, u0, u1]
    refine uN 11 hHeld ?_
    try simp only [Act.put, uA, u0, u1]
    refine uN 12 hHeld ?_
    try simp only [Act.put, uA, u0, u1]
    refine uL 13 [13] hHeld ?_
    try simp only [Act.put, uA, u0, u1]
    refine uN 14 hHeld ?_
    try simp only [Act.put, uA, u0, u1]
    refine uL 15 [15] hHeld ?_
    try simp only [Act.put, uA, u0, u1]
    refine wpAnyU_two (i := 1) (j := 17) (by kernel_rfl) rfl rfl (fun K hK => ?_) (fun K hK => ?_)
    · go_simp
      go_at_call 25
      refine (HQV.out w10.drew (HAw.out _ (Below.refl _ _))).mono ?_
      rintro e w11 ⟨v, rfl, hov, hb11⟩
      obtain ⟨AV, cV, rfl, _, _, _, _⟩ := Rd.of_own hov
      refine hK.out _ _ (HKK.out _ hb11) (fun hNew => ?_)
      clear hK K hHeld
      have hHeld := hNew
      clear hNew
      try simp only [Act.put, uA, u0, u1]
      refine uN 16 hHeld ?_
      try simp only [Act.put, uA, u0, u1]
      refine wpAnyU_one (i := 17) (by kernel_rfl) rfl (fun K hK => ?_)
      go_simp
      refine hK.out _ _ (HKK.out _ (hb11.alloc hb11.size _)) (fun hNew => ?_)
      clear hK K hHeld
      have hHeld := hNew
      clear hNew
      try simp only [Act.put, uA, u0, u1]
      refine wpAnyU_last (i := 18) (by kernel_rfl) rfl (by kernel_rfl) (fun K hK => ?_)
      go_simp
      refine hK.out _ _ ?_
      clear hK K hHeld
      try simp only [Act.put]
      refine wpAnyU_done (by kernel_rfl) ?_ _
      have hbA : Below w10.heap.size w10 w11 := ⟨hb11.os, hb11.tape, hb11.output, hb11.size, hb11.block⟩
      go_wp2_with fail
      go_meet
      exact ⟨w11.heap.size, AV, cV, rfl, hb11.size, Row.new w11 _ _, hov.alloc _, hbA.alloc hbA.size _⟩
    · go_simp
      refine hK.out _ _ (HKK.out _ ((Below.refl _ _).alloc (Nat.le_refl _) _)) (fun hNew => ?_)
      clear hK K hHeld
      have hHeld := hNew
      clear hNew
      try simp only [Act.put, uA, u0, u1]
      refine wpAnyU_one (i := 1) (by kernel_rfl) rfl (fun K hK => ?_)
      go_simp
      go_at_call 25
      refine (HQV.out (w10.drew.alloc (.cells #[.slice none 0 0, .slice none 0 0, .slice none 0 0, .int .i64 0, .slice none 0 0] 31)) (HAw.out _ ((Below.refl _ _).alloc (Nat.le_refl _) _))).mono ?_
      rintro e w11 ⟨v, rfl, hov, hb11⟩
      obtain ⟨AV, cV, rfl, _, _, _, _⟩ := Rd.of_own hov
      have hrw : Row w11 w10.heap.size 31 [.slice none 0 0, .slice none 0 0, .slice none 0 0, .int .i64 0, .slice none 0 0] := Row.later (Row.new w10.drew _ _) hb11
      have hb12 : Below w10.drew.heap.size w10.drew w11 := bthen (below_alloc _ _) hb11
      have r0 : w11.cell? ⟨w10.heap.size, 0, none⟩ = some (.slice none 0 0) := hrw.cell 0
      have r1 : w11.cell? ⟨w10.heap.size, 1, none⟩ = some (.slice none 0 0) := hrw.cell 1
      have r2 : w11.cell? ⟨w10.heap.size, 2, none⟩ = some (.slice none 0 0) := hrw.cell 2
      have r3 : w11.cell? ⟨w10.heap.size, 3, none⟩ = some (.int .i64 0) := hrw.cell 3
      have r4 : w11.cell? ⟨w10.heap.size, 4, none⟩ = some (.slice none 0 0) := hrw.cell 4
      have f0 := hrw.frozen 0
      have f1 := hrw.frozen 1
      have f2 := hrw.frozen 2
      have f3 := hrw.frozen 3
      have f4 := hrw.frozen 4
      have rl := hrw.lt
      refine hK.out _ _ (HKK.out _ hb12) (fun hNew => ?_)
      clear hK K hHeld
      have hHeld := hNew
      clear hNew
      try simp only [Act.put, uA, u0, u1]
      refine uN 16 hHeld ?_
      try simp only [Act.put, uA, u0, u1]
      refine wpAnyU_last (i := 18) (by kernel_rfl) rfl (by kernel_rfl) (fun K hK => ?_)
      go_simp
      refine hK.out _ _ ?_
      clear hK K hHeld
      try simp only [Act.put]
      refine wpAnyU_done (by kernel_rfl) ?_ _
      have hbB : Below w10.heap.size w10 w11 := ⟨hb12.os, hb12.tape, hb12.output, hb12.size, hb12.block⟩
      have h0 := hrw.set_ 0 (.slice AV vars.length cV)
      have h1 := h0.set_ 1 (.slice none 0 0)
      have h2 := h1.set_ 2 (.slice AN3 L3.length cN3)
      have h3 := h2.set_ 3 (.int .i64 r)
      have h4 := h3.set_ 4 (.slice none 0 0)
      have o4 := own_set (i := 4) (u := .slice none 0 0) (own_set (i := 3) (u := .int .i64 r) (own_set (i := 2) (u := .slice AN3 L3.length cN3) (own_set (i := 1) (u := .slice none 0 0) (own_set (i := 0) (u := .slice AV vars.length cV) (own_less hov (show w10.heap.size ≤ _ by simp)) hrw (by decide)) h0 (by decide)) h1 (by decide)) h2 (by decide)) h3 (by decide)
      have hb4 := ((((hbB.setCell (p := ⟨w10.heap.size, 0, none⟩) (Nat.le_refl _) (.slice AV vars.length cV)).setCell (p := ⟨w10.heap.size, 1, none⟩) (Nat.le_refl _) (.slice none 0 0)).setCell (p := ⟨w10.heap.size, 2, none⟩) (Nat.le_refl _) (.slice AN3 L3.length cN3)).setCell (p := ⟨w10.heap.size, 3, none⟩) (Nat.le_refl _) (.int .i64 r)).setCell (p := ⟨w10.heap.size, 4, none⟩) (Nat.le_refl _) (.slice none 0 0)
      go_wp2_with fail
      go_meet
      exact ⟨w10.heap.size, AV, cV, rfl, Nat.le_refl _, h4, o4, hb4⟩
  case rest =>
    obtain ⟨gp, AV, cV, rfl, hgp, hP11, hov, hb11⟩ := hcut
    obtain ⟨w11, hw11⟩ : ∃ wo, wo = wc := ⟨_, rfl⟩
    subst hw11
    have hQ11 := hQ10.later hb11
    have hB11w : Below w.heap.size w w11 := hB10w.trans (hb11.mono hB10w.size)
    have hb11w : Below w10.heap.size w10 w11 := hb11
    have hgpl := hP11.lt
    have hfh := hq.few
    clear hb11 hBSd s0 s1 s2 s3 s4 s5 s6 s7 HAw HKK hQ10
    have q1 : w11.cell? ⟨w.heap.size, 1, none⟩ = some (.slice AH q.head.length cH) := hQ11.cell 1
    go_upto_block 6 with fail
    go_cut [26] (fun _ wx => ∃ vh, Row wx gp 31 [.slice AV vars.length cV, vh, .slice AN3 L3.length cN3, .int .i64 r, .slice none 0 0] ∧ wx.ownsRow w10.heap.size 3 1 vh q.head.length (is (q.head.map fun x => atI vars x)) ∧ wx.ownsRow w10.heap.size 9 1 (.slice AV vars.length cV) vars.length (ss vars) ∧ Below w10.heap.size w10 wx)
    case first =>
      clear HIS2 HPAR HSP HLOW HFR HFN HZ3 HRR hR10 hM10
      go_wp2_with fail
      go_loopw [26, 193] (fun _ x wr => ∃ (k : Nat) (vh : Value), k ≤ q.head.length ∧ x = .int .i64 k ∧ Row wr gp 31 [.slice AV vars.length cV, vh, .slice AN3 L3.length cN3, .int .i64 r, .slice none 0 0] ∧ wr.ownsRow w10.heap.size 3 1 vh k (is ((q.head.take k).map fun x => atI vars x)) ∧ wr.ownsRow w10.heap.size 9 1 (.slice AV vars.length cV) vars.length (ss vars) ∧ Below w10.heap.size w10 wr) (fun _ x _ => q.head.length - (intOf x).toNat)
      case atStart => exact ⟨0, .slice none 0 0, Nat.zero_le _, rfl, hP11, World.ownsRow_nil _ _ _ _, hov, hb11w⟩
      case round =>
        obtain ⟨k, vh, hk, rfl, hP, hoh, hov, hb⟩ := hrel
        by_cases hlt : k < q.head.length
        · have hHr : Rd wr wr.heap.size AH (ss q.head) := hH.later (hB10w.trans (hb.mono hB10w.size))
          obtain ⟨ad', hA', _, hc⟩ := hHr.s_at hlt
          subst hA'
          have HNX := Lib.hid (heads_next vars q.head hlt)
          have b1 : (0 : Int) ≤ k := by omega
          have b2 : (k : Int) < q.head.length := by omega
          generalize nm q.head k = s at hc HNX
          generalize (q.head.take k).map (fun x => atI vars x) = Z at hoh HNX
          go_upto_region 36 with fail
          have hPd := hP.drew
          have hbd := hb.drew
          have hovd : wr.drew.ownsRow w10.heap.size 9 1 (.slice AV vars.length cV) vars.length (ss vars) := hov
          have hohd : wr.drew.ownsRow w10.heap.size 3 1 vh k (is Z) := hoh
          have hsz : w10.heap.size ≤ wr.drew.heap.size := hb.size
          have s0 : wr.drew.cell? ⟨gp, 0, none⟩ = some (.slice AV vars.length cV) := hPd.cell 0
          have s1 : wr.drew.cell? ⟨gp, 1, none⟩ = some vh := hPd.cell 1
          refine wp_region_until 9 (fun wx : World => wx.cell? ⟨gp, 0, none⟩ = some (.slice AV vars.length cV) ∧ wx.cell? ⟨gp, 1, none⟩ = some vh) (by kernel_rfl) ⟨s0, s1⟩ (fun hHeld => ?_)
          refine uN 0 hHeld ?_
          try simp only [Act.put, uA, u0, u1]
          refine uL 1 [1] hHeld ?_
          try simp only [Act.put, uA, u0, u1]
          refine uN 2 hHeld ?_
          try simp only [Act.put, uA, u0, u1]
          refine uL 3 [3] hHeld ?_
          try simp only [Act.put, uA, u0, u1]
          refine uN 4 hHeld ?_
          try simp only [Act.put, uA, u0, u1]
          refine wpAnyU_one (i := 5) (by kernel_rfl) rfl (fun K hK => ?_)
          go_simp
          go_at_call 26
          refine (index_any AV vars cV s wr.drew (by omega) (Rd.of_own' hovd)).mono ?_
          rintro e w12 ⟨rfl, rfl⟩
          refine hK.out _ _ ⟨s0, s1⟩ (fun hNew => ?_)
          clear hK K hHeld
          have hHeld := hNew
          clear hNew
          try simp only [Act.put, uA, u0, u1]
          refine wpAnyU_one (i := 6) (by kernel_rfl) rfl (fun K hK => ?_)
          go_simp
          refine hK.out _ _ ⟨(hPd.alloc _).cell 0, (hPd.alloc _).cell 1⟩ (fun hNew => ?_)
          clear hK K hHeld
          have hHeld := hNew
          clear hNew
          try simp only [Act.put, uA, u0, u1]
          refine wpAnyU_one (i := 7) (by kernel_rfl) rfl (fun K hK => ?_)
          refine step_intG (wr := wr.drew) rfl (.tmp 198) (.tmp 203) rfl w10.heap.size vh k Z (atI vars s) (by first | rfl | go_simp) (by first | rfl | go_simp) hohd (by omega) hsz ?_
          intro vh' w13 ho13 hg13 hb13 _
          obtain ⟨Ah', ch', rfl, -⟩ := Rd.of_own ho13
          have hP13 := Row.grown hPd hg13 (own_row_ne hohd hPd (by decide))
          have z1 : w13.cell? ⟨gp, 1, none⟩ = some vh := hP13.cell 1
          have z2 := hP13.frozen 1
          refine hK.out _ _ ⟨hP13.cell 0, hP13.cell 1⟩ (fun hNew => ?_)
          clear hK K hHeld
          have hHeld := hNew
          clear hNew
          try simp only [Act.put, uA, u0, u1]
          refine uN 8 hHeld ?_
          try simp only [Act.put, uA, u0, u1]
          refine wpAnyU_last (i := 9) (by kernel_rfl) rfl (by kernel_rfl) (fun K hK => ?_)
          go_simp
          refine hK.out _ _ ?_
          clear hK K hHeld
          try simp only [Act.put]
          refine wpAnyU_done (by kernel_rfl) ?_ _
          have hP14 := hP13.set_ 1 (.slice Ah' (k + 1) ch')
          have hov14 := own_set (i := 1) (u := .slice Ah' (k + 1) ch') (own_grown hovd hg13 fun g e c => own_own_ne hovd hohd (by decide) g c e) hP13 (by decide)
          have hoh14 := own_set (i := 1) (u := .slice Ah' (k + 1) ch') ho13 hP13 (by decide)
          have hb14 : Below w10.heap.size w10 (w13.setCell ⟨gp, 1, none⟩ (.slice Ah' (k + 1) ch')) := (hbd.trans hb13).setCell hgp _
          clear hP13 z1 z2 ho13 hg13 hb13 hPd hbd hovd hohd s0 s1 hP hoh hov hb hc
          go_wp2_with fail
          go_roundw
          case rel => exact ⟨k + 1, _, by omega, by go_num, hP14, by rw [HNX.out]; exact hoh14, hov14, hb14⟩
          case measure => simp [intOf]; omega
        · obtain rfl : k = q.head.length := by omega
          rw [List.take_length] at hoh
          go_wp2_with fail
          go_meet
          exact ⟨vh, hP, hoh, hov, hb⟩
    case rest =>
      obtain ⟨vh, hP12, hoh, hov2, hb12⟩ := hcut
      clear q1 hQ11
      obtain ⟨Ah, ch, rfl, _, _, _, _⟩ := Rd.of_own hoh
      obtain ⟨w12, hw12⟩ : ∃ wo, wo = wc := ⟨_, rfl⟩
      subst hw12
      have hBS12 := hBS3.later hb12
      have hM12 := hM10.later hb12
      have hR12 := hR10.later hb12
      have hB12w : Below w.heap.size w w12 := hB10w.trans (hb12.mono hB10w.size)
      obtain ⟨gN, cN', eN⟩ := own_some hBS12.nodes (by omega)
      injection eN with eN _ eC
      subst eN
      subst eC
      have hgN := own_row_ne hBS12.nodes hP12 (by decide)
      have hgM := own_not_map hM12 hBS12.nodes
      have p2 : w12.cell? ⟨gp, 2, none⟩ = some (.slice (some ⟨gN, 0, none⟩) L3.length cN3) := hP12.cell 2
      have HTE : Hid (∀ i, topE E h n i = (decide (low ≤ i) || decide ((i : Int) ∈ pres2 M P))) := Lib.hid fun i => by unfold topE; rw [HLOW.out, HSP.out]
      obtain ⟨f, hfe⟩ : ∃ f, topE E h n = f := ⟨_, rfl⟩
      rw [hfe] at HTE
      clear HLOW HSP hov hP11 hb12 hBS3 hM10 hR10 hB10w hb11w hp0 hgpl
      go_upto_block 8 with fail
      go_cut [27] (fun _ wx => wx.ownsRow gb 58 7 (.slice (some ⟨gN, 0, none⟩) L3.length cN3) L3.length (nds (topTo L3 f L3.length)) ∧ w12.grownBy wx (some gN))
      case first =>
        have hno := hBS12.nodes
        have HTP := Lib.hid (fun k hk => nds_top L3 f (k := k) hk)
        have HT0 := Lib.hid (topTo_zero L3 f)
        clear HIS2 HPAR HFR HFN HZ3 HRR hR12 hoh hov2 hBS12 hfe
        go_wp2_with fail
        go_loopw [27, 210] (fun _ x wr => ∃ k : Nat, k ≤ L3.length ∧ x = .int .i64 k ∧ wr.ownsRow gb 58 7 (.slice (some ⟨gN, 0, none⟩) L3.length cN3) L3.length (nds (topTo L3 f k)) ∧ w12.grownBy wr (some gN)) (fun _ x _ => L3.length - (intOf x).toNat)
        case atStart => exact ⟨0, Nat.zero_le _, rfl, by rw [HT0.out]; exact hno, rfl, rfl, rfl, Nat.le_refl _, fun _ _ _ => rfl⟩
        case round =>
          obtain ⟨k, hk, rfl, hoi, hgi⟩ := hrel
          by_cases hlt : k < L3.length
          · have r2 : wr.cell? ⟨gp, 2, none⟩ = some (.slice (some ⟨gN, 0, none⟩) L3.length cN3) := (Row.grown hP12 hgi hgN).cell 2
            have hMr := hM12.kept hgi hgM
            have b1 : (0 : Int) ≤ k := by omega
            have b2 : (k : Int) < L3.length := by omega
            have hlk := hMr.look (k : Int) (WalkArith.wf_i64 (by omega))
            have f1 := own_frozen hoi (k * 7 + 6)
            obtain ⟨u, f2⟩ := own_cellS hoi (k := k * 7 + 6) (by rw [nds_length, topTo_length]; omega)
            have hpo := own_put hoi (k := k * 7 + 6) (.bool (f k))
            rw [HTP.out k hlt, HTE.out k] at hpo
            have hgo : w12.grownBy (wr.setCell ⟨gN, k * 7 + 6, none⟩ (.bool (decide (low ≤ k) || decide ((k : Int) ∈ pres2 M P)))) (some gN) := grown_put hgi
            clear HTP HTE HT0
            by_cases hlow : low ≤ k
            · have g1 : decide ((low : Int) ≤ k) = true := decide_eq_true (by omega)
              have g1n : decide (low ≤ k) = true := decide_eq_true hlow
              rw [decide_eq_true hlow, Bool.true_or] at hpo hgo
              clear hlow
              go_wp2_with fail
              go_roundw
              case rel => exact ⟨k + 1, by omega, by go_num, hpo, hgo⟩
              case measure => simp [intOf]; omega
            · have g1 : decide ((low : Int) ≤ k) = false := decide_eq_false (by omega)
              have g1n : decide (low ≤ k) = false := decide_eq_false hlow
              rw [decide_eq_false hlow, Bool.false_or] at hpo hgo
              by_cases hm : (k : Int) ∈ pres2 M P
              · have hc0 := List.count_pos_iff.2 hm
                rw [decide_eq_true hm] at hpo hgo
                generalize (pres2 M P).count (k : Int) = z at hlk hc0
                have g2 : decide ((0 : Int) < z) = true := decide_eq_true (by omega)
                have g3 : decide (0 < z) = true := decide_eq_true hc0
                clear hm hlow
                go_wp2_with fail
                go_roundw
                case rel => exact ⟨k + 1, by omega, by go_num, hpo, hgo⟩
                case measure => simp [intOf]; omega
              · have hc0 := List.count_eq_zero.2 hm
                rw [decide_eq_false hm] at hpo hgo
                rw [hc0] at hlk
                clear hm hlow hc0
                go_wp2_with fail
                go_roundw
                case rel => exact ⟨k + 1, by omega, by go_num, hpo, hgo⟩
                case measure => simp [intOf]; omega
          · obtain rfl : k = L3.length := by omega
            go_wp2_with fail
            go_meet
            exact ⟨hoi, hgi⟩
      case rest =>
        obtain ⟨hoN, hgr⟩ := hcut
        obtain ⟨w13, hw13⟩ : ∃ wo, wo = wc := ⟨_, rfl⟩
        subst hw13
        have hnv : ∀ m ∈ L3, w13.ownsRow gb 3 1 (vb m) m.vars.length (is m.vars) := fun m hm => own_grown (hBS12.vars m hm) hgr fun g e c => own_own_ne (hBS12.vars m hm) hBS12.nodes (by decide) g c e
        have hP13 := Row.grown hP12 hgr hgN
        have hR13 := Row.grown hR12 hgr (own_row_ne hBS12.nodes hR12 (by decide))
        have hov13 := own_grown hov2 hgr fun g e c => own_own_ne hov2 hBS12.nodes (by decide) g c e
        have hoh13 := own_grown hoh hgr fun g e c => own_own_ne hoh hBS12.nodes (by decide) g c e
        have hgNb : gb ≤ gN := (hBS12.nodes.lt gN rfl).1
        have hB13w : Below w.heap.size w w13 := hB12w.grown hgr hB12w.size fun j hj => by injection hj with hj; omega
        have hbg10 : gb ≤ w10.heap.size := hgbw10
        have hdist := hBS12.dist
        have HRAW : Hid (rawE E h n = (topTo L3 f L3.length).map pl) := Lib.hid (by rw [topTo_pl, ← HZ3.out, ← hfe]; rfl)
        have hL4l : (topTo L3 f L3.length).length = L3.length := topTo_length _ _ _
        have hnv4 : ∀ m ∈ topTo L3 f L3.length, w13.ownsRow gb 3 1 (vb m) m.vars.length (is m.vars) := fun m hm => by
          obtain ⟨m', hm', e1, e2, _⟩ := topTo_vb hm
          rw [e1, e2]; exact hnv m' hm'
        have hp4 : ∀ m ∈ topTo L3 f L3.length, m.parent = -1 := fun m hm => by
          obtain ⟨m', hm', _, _, e3⟩ := topTo_vb hm
          rw [e3]; exact HPAR.out m' hm'
        have hdist4 := dist_of (L := L3) (M := topTo L3 f L3.length) hL4l (fun j hj => by rw [topTo_at L3 f L3.length hj, ndx_eq L3 j hj]; rfl) hdist
        have hrl4 : r < (topTo L3 f L3.length).length := by omega
        have hL4f : (topTo L3 f L3.length).length ≤ 28 := by omega
        rw [← hL4l] at hP13
        have hoN4 : w13.ownsRow gb 58 7 (.slice (some ⟨gN, 0, none⟩) (topTo L3 f L3.length).length cN3) (topTo L3 f L3.length).length (nds (topTo L3 f L3.length)) := by rw [hL4l]; exact hoN
        clear hoN
        clear hBS12 hP12 hR12 hov2 hoh hB12w hgr hgN hgM p2 hdist hfe HTE hM12 HPAR HZ3 hnv hL4l hrl3 hL3f
        generalize topTo L3 f L3.length = L4 at hP13 hoN4 hnv4 hp4 hdist4 HRAW hrl4 hL4f
        have hHA := hang_any gp gb gb (.slice AV vars.length cV) (.slice Ah q.head.length ch) (some ⟨gN, 0, none⟩) L4 cN3 r (.slice none 0 0) w13 (by omega) (by omega) hP13 hoN4 hnv4 hp4 (fun i hi x hx => by
          rw [← HRAW.out] at hx
          obtain ⟨k, rfl, hk⟩ := HFR.out.below i (by rw [HRAW.out, List.length_map]; exact hi) x hx
          exact ⟨k, rfl, by omega⟩)
        have HHA := Lib.hid hHA
        clear hHA
        have s2 : w13.cell? ⟨gp, 2, none⟩ = some (.slice (some ⟨gN, 0, none⟩) L4.length cN3) := hP13.cell 2
        go_upto_region 43 with fail
        go_wp2_with fail
        refine HHA.out.mono ?_
        rintro e w14 ⟨rfl, hoN14, hgr14⟩
        have hg14 : w13.grownBy w14 (some gN) := hgr14
        have hgN13 := own_row_ne hoN4 hP13 (by decide)
        have hP14 := Row.grown hP13 hg14 hgN13
        have hR14 := Row.grown hR13 hg14 (own_row_ne hoN4 hR13 (by decide))
        have hov14 := own_grown hov13 hg14 fun g e c => own_own_ne hov13 hoN4 (by decide) g c e
        have hoh14 := own_grown hoh13 hg14 fun g e c => own_own_ne hoh13 hoN4 (by decide) g c e
        have hnv14 : ∀ m ∈ L4, w14.ownsRow gb 3 1 (vb m) m.vars.length (is m.vars) := fun m hm => own_grown (hnv4 m hm) hg14 fun g e c => own_own_ne (hnv4 m hm) hoN4 (by decide) g c e
        have hB14w : Below w.heap.size w w14 := hB13w.grown hg14 hB13w.size fun j hj => by injection hj with hj; omega
        have HNE : Hid (nodesE E h n = (withPar L4 fun j => parN (L4.map pl) j L4.length).map pl) := Lib.hid (by rw [withPar_pl, ← HRAW.out]; rfl)
        have hL5l : (withPar L4 fun j => parN (L4.map pl) j L4.length).length = L4.length := withPar_length _ _
        have hnv5 : ∀ m ∈ (withPar L4 fun j => parN (L4.map pl) j L4.length), w14.ownsRow gb 3 1 (vb m) m.vars.length (is m.vars) := fun m hm => by
          obtain ⟨m', hm', e1, e2⟩ := withPar_vb hm
          rw [e1, e2]; exact hnv14 m' hm'
        have hdist5 := dist_of (L := L4) (M := withPar L4 fun j => parN (L4.map pl) j L4.length) hL5l (fun j hj => by rw [withPar_at L4 _ hj, ndx_eq L4 j hj]; rfl) hdist4
        have hrl5 : r < (withPar L4 fun j => parN (L4.map pl) j L4.length).length := by omega
        have hL5f : (withPar L4 fun j => parN (L4.map pl) j L4.length).length ≤ 28 := by omega
        rw [← hL5l] at hP14
        have hoN5 : w14.ownsRow gb 58 7 (.slice (some ⟨gN, 0, none⟩) (withPar L4 fun j => parN (L4.map pl) j L4.length).length cN3) (withPar L4 fun j => parN (L4.map pl) j L4.length).length (nds (withPar L4 fun j => parN (L4.map pl) j L4.length)) := by rw [hL5l]; exact hoN14
        clear HHA hoN14 hgr14 hP13 hR13 hov13 hoh13 hnv14 hnv4 hp4 hdist4 hrl4 hL4f hB13w hoN4 hL5l hgN13 s2 HFR HRAW
        generalize (withPar L4 fun j => parN (L4.map pl) j L4.length) = L5 at hP14 hoN5 hnv5 hdist5 hrl5 hL5f HNE
        have hNR : NdR w14 w14.heap.size (some ⟨gN, 0, none⟩) (L5.map pl) := NdR.of_own hoN5 hnv5
        have hOA := plan_order_any gp (.slice AV vars.length cV) (.slice Ah q.head.length ch) (some ⟨gN, 0, none⟩) (L5.map pl) cN3 r (.slice none 0 0) id (fun i hi _ x hx => by
          rw [← HNE.out] at hi hx
          obtain ⟨k, rfl, hk⟩ := HFN.out.below i hi x hx
          exact ⟨k, rfl, by rw [← HNE.out]; omega, hk⟩) (fun g i => Nat.le_trans (ordF_any _ (by rw [← HNE.out]; exact HFN.out) g i) (by rw [List.length_map]; omega)) (L5.map pl).length r w14 (by rw [List.length_map]; exact hrl5) (by rw [List.length_map]; exact hrl5) (by rw [List.length_map]; exact hP14) hNR
        have HTO : Hid (ordF (L5.map pl) (L5.map pl).length (r : Int) = topsE E h n) := Lib.hid (by unfold topsE; rw [HNE.out, HRR.out])
        rw [HTO.out] at hOA
        have HOA := Lib.hid hOA
        clear hOA HTO hNR HFN
        generalize topsE E h n = TT at HOA HIS2
        generalize nodesE E h n = NN at HNE HIS2
        generalize rootE E h n = RR at HRR HIS2
        have s3 : w14.cell? ⟨gp, 3, none⟩ = some (.int .i64 r) := hP14.cell 3
        go_wp2_with fail
        refine HOA.out.mono ?_
        rintro e w15 ⟨vt, rfl, hot, hb15⟩
        obtain ⟨At, ct, rfl, _, _, _, _⟩ := Rd.of_own hot
        have hP15 := Row.later hP14 hb15
        have hR15 := Row.later hR14 hb15
        have hB15w : Below w.heap.size w w15 := hB14w.trans (hb15.mono hB14w.size)
        have c4 : w15.cell? ⟨gp, 4, none⟩ = some (.slice none 0 0) := hP15.cell 4
        have f4 := hP15.frozen 4
        go_upto_region 45 with fail
        have hP16 := hP15.set_ 4 (.slice At (TT).length ct)
        have hR16 := hR15.far (p := ⟨gp, 4, none⟩) (show w.heap.size + 1 ≠ gp by omega) (.slice At (TT).length ct)
        have hoN16 := own_set (i := 4) (u := .slice At (TT).length ct) (own_below hoN5 hb15) hP15 (by decide)
        have hov16 := own_set (i := 4) (u := .slice At (TT).length ct) (own_below hov14 hb15) hP15 (by decide)
        have hoh16 := own_set (i := 4) (u := .slice At (TT).length ct) (own_below hoh14 hb15) hP15 (by decide)
        have hot16 := own_set (i := 4) (u := .slice At (TT).length ct) hot hP15 (by decide)
        have hnv16 := fun m hm => own_set (i := 4) (u := .slice At (TT).length ct) (own_below (hnv5 m hm) hb15) hP15 (by decide)
        have hB16w : Below w.heap.size w (w15.setCell ⟨gp, 4, none⟩ (.slice At (TT).length ct)) := hB15w.setCell (show w.heap.size ≤ gp by omega) _
        have hw14 : w.heap.size ≤ w14.heap.size := hB14w.size
        clear hP15 hR15 hB15w c4 f4 hot hb15 hoN5 hov14 hoh14 hnv5 hP14 hR14 hB14w HOA s3
        generalize w15.setCell _ _ = w16 at hP16 hR16 hoN16 hov16 hoh16 hot16 hnv16 hB16w ⊢
        have p0 : w16.cell? ⟨gp, 0, none⟩ = some (.slice AV vars.length cV) := hP16.cell 0
        have p1 : w16.cell? ⟨gp, 1, none⟩ = some (.slice Ah q.head.length ch) := hP16.cell 1
        have p2 : w16.cell? ⟨gp, 2, none⟩ = some (.slice (some ⟨gN, 0, none⟩) L5.length cN3) := hP16.cell 2
        have p3 : w16.cell? ⟨gp, 3, none⟩ = some (.int .i64 r) := hP16.cell 3
        have p4 : w16.cell? ⟨gp, 4, none⟩ = some (.slice At (TT).length ct) := hP16.cell 4
        have r0 : w16.cell? ⟨w.heap.size + 1, 0, none⟩ = some (.slice none 0 0) := hR16.cell 0
        have r1 : w16.cell? ⟨w.heap.size + 1, 1, none⟩ = some (.slice none 0 0) := hR16.cell 1
        have r2 : w16.cell? ⟨w.heap.size + 1, 2, none⟩ = some (.slice none 0 0) := hR16.cell 2
        have r3 : w16.cell? ⟨w.heap.size + 1, 3, none⟩ = some (.int .i64 0) := hR16.cell 3
        have r4 : w16.cell? ⟨w.heap.size + 1, 4, none⟩ = some (.slice none 0 0) := hR16.cell 4
        have f0 := hR16.frozen 0
        have f1 := hR16.frozen 1
        have f2 := hR16.frozen 2
        have f3 := hR16.frozen 3
        have f4 := hR16.frozen 4
        have hF := ((((hR16.set_ 0 (.slice AV vars.length cV)).set_ 1 (.slice Ah q.head.length ch)).set_ 2 (.slice (some ⟨gN, 0, none⟩) L5.length cN3)).set_ 3 (.int .i64 r)).set_ 4 (.slice At (TT).length ct)
        have hBF : Below w.heap.size w (((((w16.setCell ⟨w.heap.size + 1, 0, none⟩ (.slice AV vars.length cV)).setCell ⟨w.heap.size + 1, 1, none⟩ (.slice Ah q.head.length ch)).setCell ⟨w.heap.size + 1, 2, none⟩ (.slice (some ⟨gN, 0, none⟩) L5.length cN3)).setCell ⟨w.heap.size + 1, 3, none⟩ (.int .i64 r)).setCell ⟨w.heap.size + 1, 4, none⟩ (.slice At (TT).length ct)) := ((((hB16w.setCell (by simp) _).setCell (by simp) _).setCell (by simp) _).setCell (by simp) _).setCell (by simp) _
        have hoNF := own_set5 hoN16 hR16 (by decide) (.slice AV vars.length cV) (.slice Ah q.head.length ch) (.slice (some ⟨gN, 0, none⟩) L5.length cN3) (.int .i64 r) (.slice At (TT).length ct)
        have hovF := own_set5 hov16 hR16 (by decide) (.slice AV vars.length cV) (.slice Ah q.head.length ch) (.slice (some ⟨gN, 0, none⟩) L5.length cN3) (.int .i64 r) (.slice At (TT).length ct)
        have hohF := own_set5 hoh16 hR16 (by decide) (.slice AV vars.length cV) (.slice Ah q.head.length ch) (.slice (some ⟨gN, 0, none⟩) L5.length cN3) (.int .i64 r) (.slice At (TT).length ct)
        have hotF := own_set5 hot16 hR16 (by decide) (.slice AV vars.length cV) (.slice Ah q.head.length ch) (.slice (some ⟨gN, 0, none⟩) L5.length cN3) (.int .i64 r) (.slice At (TT).length ct)
        have hnvF := fun m hm => own_set5 (hnv16 m hm) hR16 (by decide) (.slice AV vars.length cV) (.slice Ah q.head.length ch) (.slice (some ⟨gN, 0, none⟩) L5.length cN3) (.int .i64 r) (.slice At (TT).length ct)
        clear hoN16 hov16 hoh16 hot16 hnv16 hP16 hR16 hB16w
        go_wp2_with fail
        generalize (((((w16.setCell _ _).setCell _ _).setCell _ _).setCell _ _).setCell _ _) = wf at hF hBF hoNF hovF hohF hotF hnvF ⊢
        have z0 : wf.cell? ⟨w.heap.size + 1, 0, none⟩ = some (.slice AV vars.length cV) := hF.cell 0
        have z1 : wf.cell? ⟨w.heap.size + 1, 1, none⟩ = some (.slice Ah q.head.length ch) := hF.cell 1
        have z2 : wf.cell? ⟨w.heap.size + 1, 2, none⟩ = some (.slice (some ⟨gN, 0, none⟩) L5.length cN3) := hF.cell 2
        have z3 : wf.cell? ⟨w.heap.size + 1, 3, none⟩ = some (.int .i64 r) := hF.cell 3
        have z4 : wf.cell? ⟨w.heap.size + 1, 4, none⟩ = some (.slice At (TT).length ct) := hF.cell 4
        refine bodyPost_ret (v := .tuple #[.agg #[.slice AV vars.length cV, .slice Ah q.head.length ch, .slice (some ⟨gN, 0, none⟩) L5.length cN3, .int .i64 r, .slice At (TT).length ct], .int .i64 0]) (by simp [results, Tryd.results6, go_sem, z0, z1, z2, z3, z4]) rfl ?_
        have hwb : w.heap.size ≤ gb := by omega
        have hw10 : w.heap.size ≤ w10.heap.size := by omega
        have hohG : wf.ownsRow w.heap.size 3 1 (.slice Ah q.head.length ch) (q.head.map fun x => atI vars x).length (is (q.head.map fun x => atI vars x)) := by rw [List.length_map]; exact own_less hohF hw10
        exact ⟨⟨vars, q.head.map fun x => atI vars x, NN, RR, TT⟩, 0, .slice AV vars.length cV, .slice Ah q.head.length ch, some ⟨gN, 0, none⟩, cN3, .slice At TT.length ct, L5, by rw [HRR.out], HIS2, HNE.out, ⟨own_less hovF hw10, hohG, own_less hoNF hwb, own_less hotF hw14, fun m hm => own_less (hnvF m hm) hwb, hdist5⟩, hBF⟩


end Go.Proofs.YtdemmjofggemhaaDoor
