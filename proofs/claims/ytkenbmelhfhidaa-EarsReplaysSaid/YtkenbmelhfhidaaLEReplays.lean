/- The walk of osierlaw15.EarsReplays. -/
import Derived.Test.YtkenbmelhfhidaaReplay2
import Derived.Test.YtkenbmelhfhidaaSameL
namespace Go.Proofs.Ytkenbmelhfhidaa
open Go.RowKit
attribute [local go_sem ↓] uz_and uz_or uz_andNot uz_and_one uz_shr uz_shl_one uz_shl uz_sub uz_sub_one uz_add uz_beq_zero uz_bne_zero uz_beq uz_bne uz_beq_one

/-! ### A row of steps, told by a function -/
def zst : Stp := ⟨0, 0, 0, 0#32⟩
def srw (n : Nat) (f : Nat → Stp) : List Value := sts ((List.range n).map f)
def updF (f : Nat → Stp) (k : Nat) (s : Stp) : Nat → Stp := fun i => if i = k then s else f i
theorem srw_length (n : Nat) (f : Nat → Stp) : (srw n f).length = n * 4 := by unfold srw; rw [sts_length]; simp
theorem srw_get (n : Nat) (f : Nat → Stp) {i : Nat} (h : i < n * 4) : (srw n f)[i]? = (stC (f (i / 4)))[i % 4]? := by
  have h1 : i / 4 < n := by omega
  have e := flat_at (f := stC) (m := 4) (fun _ => rfl) ((List.range n).map f) (i / 4) (i % 4) (by simpa using h1) (by omega)
  rw [show i / 4 * 4 + i % 4 = i by omega] at e
  unfold srw sts
  rw [e]; simp
theorem stC_get (s : Stp) : (stC s)[0]? = some (.int .i64 s.kind) ∧ (stC s)[1]? = some (.int .i64 s.edge) ∧ (stC s)[2]? = some (.int .i64 s.into) ∧ (stC s)[3]? = some (.int .u32 (uz s.cut)) := ⟨rfl, rfl, rfl, rfl⟩
theorem srw_set (n : Nat) (f : Nat → Stp) (k : Nat) (s : Stp) :
    ((((srw n f).set (k * 4) (.int .i64 s.kind)).set (k * 4 + 1) (.int .i64 s.edge)).set (k * 4 + 2) (.int .i64 s.into)).set (k * 4 + 3) (.int .u32 (uz s.cut)) = srw n (updF f k s) := by
  obtain ⟨e0, e1, e2, e3⟩ := stC_get s
  apply List.ext_getElem?
  intro i
  by_cases hi : i < n * 4
  · rw [srw_get n _ hi, List.getElem?_set, List.getElem?_set, List.getElem?_set, List.getElem?_set, srw_get n f hi]
    simp only [List.length_set, srw_length]
    unfold updF
    by_cases c : i / 4 = k
    · rw [if_pos c]
      have hm : i = k * 4 + i % 4 := by omega
      have h4 : i % 4 < 4 := by omega
      rcases (show i % 4 = 0 ∨ i % 4 = 1 ∨ i % 4 = 2 ∨ i % 4 = 3 by omega) with d | d | d | d
      · rw [d, e0, if_neg (by omega), if_neg (by omega), if_neg (by omega), if_pos (by omega), if_pos (by omega)]
      · rw [d, e1, if_neg (by omega), if_neg (by omega), if_pos (by omega), if_pos (by omega)]
      · rw [d, e2, if_neg (by omega), if_pos (by omega), if_pos (by omega)]
      · rw [d, e3, if_pos (by omega), if_pos (by omega)]
    · rw [if_neg c, if_neg (by omega), if_neg (by omega), if_neg (by omega), if_neg (by omega)]
  · rw [List.getElem?_eq_none (by simp [srw_length]; omega), List.getElem?_eq_none (by rw [srw_length]; omega)]
theorem srw_made (n : Nat) : (madeCells #[.int .i64 0, .int .i64 0, .int .i64 0, .int .u32 0] (n * 4)).toList = srw n fun _ => zst := by
  apply List.ext_getElem?
  intro i
  by_cases hi : i < n * 4
  · rw [srw_get n _ hi]
    have h4 : i % 4 < 4 := by omega
    unfold madeCells
    simp only [Array.toList_map, Array.toList_range, List.getElem?_map]
    rw [List.getElem?_range hi]
    rcases (show i % 4 = 0 ∨ i % 4 = 1 ∨ i % 4 = 2 ∨ i % 4 = 3 by omega) with d | d | d | d <;> simp [d, stC, zst, uz]
  · rw [List.getElem?_eq_none (by simp [madeCells]; omega), List.getElem?_eq_none (by rw [srw_length]; omega)]
theorem row_st {w : World} {g : Nat} {t : TypeId} {ss : List Stp} (h : Row w g t (sts ss)) {k : Nat} (hk : k < ss.length) : w.cell? ⟨g, k * 4, none⟩ = some (.int .i64 (stp ss k).kind) ∧ w.cell? ⟨g, k * 4 + 1, none⟩ = some (.int .i64 (stp ss k).edge) ∧
    w.cell? ⟨g, k * 4 + 2, none⟩ = some (.int .i64 (stp ss k).into) ∧ w.cell? ⟨g, k * 4 + 3, none⟩ = some (.int .u32 (uz (stp ss k).cut)) := by
  have key : ∀ j, j < 4 → w.cell? ⟨g, k * 4 + j, none⟩ = (stC (stp ss k))[j]? := fun j hj => by
    rw [h.cell, ← stp_eq ss k hk]
    exact flat_at (f := stC) (m := 4) (fun _ => rfl) ss k j hk hj
  exact ⟨key 0 (by omega), key 1 (by omega), key 2 (by omega), key 3 (by omega)⟩
def cpTo (ss : List Stp) (k i : Nat) : Stp := if i < k then stp ss i else zst
theorem cpTo_zero (ss : List Stp) : cpTo ss 0 = fun _ => zst := by funext i; simp [cpTo]
theorem cpTo_next (ss : List Stp) (k : Nat) : updF (cpTo ss k) k (stp ss k) = cpTo ss (k + 1) := by
  funext i
  unfold updF cpTo
  by_cases c : i = k
  · subst c; simp
  · rw [if_neg c]
    by_cases d : i < k
    · rw [if_pos d, if_pos (by omega)]
    · rw [if_neg d, if_neg (by omega)]
theorem cpTo_all (ss : List Stp) : srw ss.length (cpTo ss ss.length) = sts ss := by
  unfold srw
  congr 1
  apply List.ext_getElem (by simp)
  intro i h1 h2
  rw [stp_eq ss i h2]
  simp [cpTo, h2]
theorem mk_step (n : Nat) (h : n ≤ 4398046511104) (w : World) : (Instr.makeSlice 54 (.int .i64 (n : Int)) (.int .i64 (n : Int))).run Try.prog w = .ok (.slice (some ⟨w.heap.size, 0, none⟩) n n) (w.alloc (.cells (madeCells #[.int .i64 0, .int .i64 0, .int .i64 0, .int .u32 0] (n * 4)) 66)) := by
  obtain ⟨i, hi, hz, hs1, hb1⟩ := info_parts Try.info_Step
  have hr := run_make (P := Try.prog) w 54 66 i _ Try.underlying54 hi hz .i64 .i64 n n (by omega) (Int.le_refl _) (by rw [hb1]; omega) (by omega)
  simp only [Int.toNat_natCast, hs1] at hr
  exact hr
section
variable {wr : World} {ops : Array Oper} {rest : List Oper} {o : Oper} {a : Act} {Q : Exit → Act → World → Prop}
theorem app_rstep32 (hgd : o.guard = none) (s x : Operand) (ho : o.op = .call { callee := .builtin .append, args := #[s, x], argTypes := #[58, 58] })
    (base : Nat) (v : Value) (ss : List Stp) (y : Stp) (hs : a.eval s = v) (hx : a.eval x = .slice (some ⟨wr.heap.size, 0, none⟩) 1 1) (hown : wr.ownsRow base 68 4 v ss.length (sts ss))
    (hn : ss.length + 1 ≤ 4398046511104) (hbase : base ≤ wr.heap.size)
    (h : ∀ v' w', w'.ownsRow base 68 4 v' (ss ++ [y]).length (sts (ss ++ [y])) → wr.grownBy w' v.ownBlock → Below base wr w' → wpList Try.prog ops Q rest (a.put o.dst v') w') : wpList Try.prog ops Q (o :: rest) a (wr.alloc (.cells #[.int .i64 y.kind, .int .i64 y.edge, .int .i64 y.into, .int .u32 (uz y.cut)] 68)) := by
  obtain ⟨i, hi, hz, hs1, hb1⟩ := info_parts Try.info_rStep
  refine wpList_append_own_at _ hgd s x 58 ho base 68 i _ 4 32 Try.underlying58 hi hz hs1 hb1 rfl (by decide) v ss.length (sts ss) hs (hown.alloc _) ⟨wr.heap.size, 0, none⟩ 1 1 (stC y) hx rfl (World.news_of_block (heap_alloc_new wr _)) (by simp [stC, Value.oneCell']) (by unfold maxLen; omega) (by omega) (by simp; omega) ?_
  intro v' w' hown' hg _ _
  have hb : Below base wr w' := ((Below.refl _ _).alloc hbase _).grown hg (by simp; omega) fun k hk => (hown.lt k hk).1
  exact h v' w' (by rw [sts_snoc, List.length_append]; exact hown') ⟨hg.os, hg.tape, hg.output, by have := hg.size; simp at this; omega, fun k hk hne => (hg.block k (by simp; omega) hne).trans (Below.heap_alloc wr _ k hk)⟩ hb
end

set_option maxHeartbeats 40000000 in
set_option maxRecDepth 100000 in
theorem law_ereplays (V : Int) (A : Option Addr) (E : List (BitVec 32)) (c : Nat) (keep : BitVec 32) (A' : Option Addr) (ss : List Stp) (c' : Nat) (w : World) (hl : E.length ≤ 35184372087808) (hE : Rd w w.heap.size A (us E)) (hl' : ss.length ≤ 4398046511104) (hS : Rd w w.heap.size A' (sts ss)) :
    Calls Try.prog 17 #[.agg #[.int .i64 V, .slice A E.length c], .int .u32 (uz keep), .slice A' ss.length c'] w fun e w' => e = .returned (.bool true) ∧ Below w.heap.size w w' := by
  have hmk := mk_step ss.length hl'
  go_enter Try.func17, Try.ntmps17
  go_upto_region 3 with fail
  have hb1 : Below w.heap.size w ((w.alloc (.cells #[.int .i64 V, .slice A E.length c] 24)).alloc (.cells (madeCells #[.int .i64 0, .int .i64 0, .int .i64 0, .int .u32 0] (ss.length * 4)) 66)) := (below_alloc w _).alloc (by simp) _
  have hG1 : Row ((w.alloc (.cells #[.int .i64 V, .slice A E.length c] 24)).alloc (.cells (madeCells #[.int .i64 0, .int .i64 0, .int .i64 0, .int .u32 0] (ss.length * 4)) 66)) w.heap.size 24 [.int .i64 V, .slice A E.length c] := (Row.new w _ _).alloc _
  have hH1 : Row ((w.alloc (.cells #[.int .i64 V, .slice A E.length c] 24)).alloc (.cells (madeCells #[.int .i64 0, .int .i64 0, .int .i64 0, .int .u32 0] (ss.length * 4)) 66)) (w.heap.size + 1) 66 (srw ss.length (cpTo ss 0)) := by
    rw [cpTo_zero, ← srw_made]
    have h := heap_alloc_new (w.alloc (.cells #[.int .i64 V, .slice A E.length c] 24)) (.cells (madeCells #[.int .i64 0, .int .i64 0, .int .i64 0, .int .u32 0] (ss.length * 4)) 66)
    unfold Row
    rw [show (w.alloc (.cells #[.int .i64 V, .slice A E.length c] 24)).heap.size = w.heap.size + 1 by simp] at h
    rw [h]
  clear hmk
  generalize hhe : w.heap.size + 1 = h at hH1 ⊢
  generalize (w.alloc (.cells #[.int .i64 V, .slice A E.length c] 24)).alloc _ = w1 at hb1 hG1 hH1 ⊢
  have hhw : w.heap.size ≤ h := by omega
  have hwh : w.heap.size ≠ h := by omega
  go_wp2_with fail
  go_loopw [8, 24] (fun v i wr => ∃ k : Nat, k ≤ ss.length ∧ i = .int .i64 k ∧ Row wr h 66 (srw ss.length (cpTo ss k)) ∧ Row wr w.heap.size 24 [.int .i64 V, .slice A E.length c] ∧ wr.ownsRow w.heap.size 68 4 v k (sts (ss.take k)) ∧ Below w.heap.size w wr) (fun _ i _ => ss.length - (intOf i).toNat)
  case atStart => exact ⟨0, Nat.zero_le _, rfl, hH1, hG1, ⟨rfl, .inl ⟨rfl, rfl⟩⟩, hb1⟩
  clear hH1 hG1 hb1
  case round =>
    obtain ⟨k, hk, rfl, hH, hG, hown, hB⟩ := hrel
    obtain ⟨wr, ewr, hB⟩ : ∃ wr : World, wr = _ ∧ Below w.heap.size w wr := ⟨_, rfl, hB⟩
    subst ewr
    by_cases hlt : k < ss.length
    · obtain ⟨ad, hA, _, c0, c1, c2, c3⟩ := (hS.below hB).st_cells hlt
      subst hA
      have b1 : (0 : Int) ≤ k := by omega
      have b2 : (k : Int) < ss.length := by omega
      have htk : ss.take (k + 1) = ss.take k ++ [stp ss k] := by rw [List.take_succ_eq_append_getElem hlt, stp_eq ss k hlt]
      have hnx := srw_set ss.length (cpTo ss k) k (stp ss k)
      rw [cpTo_next] at hnx
      have htl : (ss.take k).length = k := by rw [List.length_take]; omega
      have HTK := Lib.hid htk
      have HNX := Lib.hid hnx
      have HTL := Lib.hid htl
      clear htk hnx htl
      generalize ss.take k = P at hown HTK HTL
      generalize stp ss k = s at c0 c1 c2 c3 HTK HNX
      go_upto_region 6 with fail
      have hb3 := below_alloc wr (.cells #[.int .i64 s.kind, .int .i64 s.edge, .int .i64 s.into, .int .u32 (uz s.cut)] 66)
      have hQ3 : Row (wr.alloc (.cells #[.int .i64 s.kind, .int .i64 s.edge, .int .i64 s.into, .int .u32 (uz s.cut)] 66)) wr.heap.size 66 [.int .i64 s.kind, .int .i64 s.edge, .int .i64 s.into, .int .u32 (uz s.cut)] := Row.new _ _ _
      have hH3 := hH.later hb3
      have hG3 := hG.later hb3
      have hO3 := own_below hown hb3
      have hB3 := bthen hB hb3
      have hhl := hH.lt
      generalize hqe : wr.heap.size = q at hQ3 hhl ⊢
      generalize wr.alloc _ = w3 at hb3 hQ3 hH3 hG3 hO3 hB3 ⊢
      have hqh : q ≠ h := by omega
      have hqw : w.heap.size ≤ q := by omega
      have z0 : w3.cell? ⟨q, 0, none⟩ = some (.int .i64 s.kind) := hQ3.cell 0
      have z1 : w3.cell? ⟨q, 1, none⟩ = some (.int .i64 s.edge) := hQ3.cell 1
      have z2 : w3.cell? ⟨q, 2, none⟩ = some (.int .i64 s.into) := hQ3.cell 2
      have z3 : w3.cell? ⟨q, 3, none⟩ = some (.int .u32 (uz s.cut)) := hQ3.cell 3
      have y0 : w3.cell? ⟨h, k * 4, none⟩ = some ((srw ss.length (cpTo ss k))[k * 4]'(by rw [srw_length]; omega)) := by rw [hH3.cell]; exact List.getElem?_eq_getElem _
      have y1 : w3.cell? ⟨h, k * 4 + 1, none⟩ = some ((srw ss.length (cpTo ss k))[k * 4 + 1]'(by rw [srw_length]; omega)) := by rw [hH3.cell]; exact List.getElem?_eq_getElem _
      have y2 : w3.cell? ⟨h, k * 4 + 2, none⟩ = some ((srw ss.length (cpTo ss k))[k * 4 + 2]'(by rw [srw_length]; omega)) := by rw [hH3.cell]; exact List.getElem?_eq_getElem _
      have y3 : w3.cell? ⟨h, k * 4 + 3, none⟩ = some ((srw ss.length (cpTo ss k))[k * 4 + 3]'(by rw [srw_length]; omega)) := by rw [hH3.cell]; exact List.getElem?_eq_getElem _
      have f0 := hH3.frozen (k * 4)
      have f1 := hH3.frozen (k * 4 + 1)
      have f2 := hH3.frozen (k * 4 + 2)
      have f3 := hH3.frozen (k * 4 + 3)
      have hl3 := hH3.lt
      generalize (srw ss.length (cpTo ss k))[k * 4]'(by rw [srw_length]; omega) = v0 at y0
      generalize (srw ss.length (cpTo ss k))[k * 4 + 1]'(by rw [srw_length]; omega) = v1 at y1
      generalize (srw ss.length (cpTo ss k))[k * 4 + 2]'(by rw [srw_length]; omega) = v2 at y2
      generalize (srw ss.length (cpTo ss k))[k * 4 + 3]'(by rw [srw_length]; omega) = v3 at y3
      clear c0 c1 c2 c3 hb3 hH hG hown hB
      go_upto_region 7 with fail
      have hH4 := (((hH3.set_ (k * 4) (.int .i64 s.kind)).set_ (k * 4 + 1) (.int .i64 s.edge)).set_ (k * 4 + 2) (.int .i64 s.into)).set_ (k * 4 + 3) (.int .u32 (uz s.cut))
      rw [HNX.out] at hH4
      have hG4 := (((hG3.far (p := ⟨h, k * 4, none⟩) hwh (.int .i64 s.kind)).far (p := ⟨h, k * 4 + 1, none⟩) hwh (.int .i64 s.edge)).far (p := ⟨h, k * 4 + 2, none⟩) hwh (.int .i64 s.into)).far (p := ⟨h, k * 4 + 3, none⟩) hwh (.int .u32 (uz s.cut))
      have hQ4 := (((hQ3.far (p := ⟨h, k * 4, none⟩) hqh (.int .i64 s.kind)).far (p := ⟨h, k * 4 + 1, none⟩) hqh (.int .i64 s.edge)).far (p := ⟨h, k * 4 + 2, none⟩) hqh (.int .i64 s.into)).far (p := ⟨h, k * 4 + 3, none⟩) hqh (.int .u32 (uz s.cut))
      have hB4 := (((hB3.setCell (p := ⟨h, k * 4, none⟩) hhw (.int .i64 s.kind)).setCell (p := ⟨h, k * 4 + 1, none⟩) hhw (.int .i64 s.edge)).setCell (p := ⟨h, k * 4 + 2, none⟩) hhw (.int .i64 s.into)).setCell (p := ⟨h, k * 4 + 3, none⟩) hhw (.int .u32 (uz s.cut))
      have hO4 := own_grown hO3 (grown_set (grown_set (grown_set (grown_set (grown_below (Below.refl w3.heap.size w3) (some h)) (k * 4) (.int .i64 s.kind)) (k * 4 + 1) (.int .i64 s.edge)) (k * 4 + 2) (.int .i64 s.into)) (k * 4 + 3) (.int .u32 (uz s.cut))) fun x hx => by
        injection hx with hx
        subst hx
        exact own_row_ne hO3 hH3 (by decide)
      clear z0 z1 z2 z3 y0 y1 y2 y3 f0 f1 f2 f3 hl3 hH3 hG3 hQ3 hB3 hO3 HNX
      generalize (((w3.setCell _ _).setCell _ _).setCell _ _).setCell _ _ = w4 at hH4 hG4 hQ4 hB4 hO4 ⊢
      have z0 : w4.cell? ⟨q, 0, none⟩ = some (.int .i64 s.kind) := hQ4.cell 0
      have z1 : w4.cell? ⟨q, 1, none⟩ = some (.int .i64 s.edge) := hQ4.cell 1
      have z2 : w4.cell? ⟨q, 2, none⟩ = some (.int .i64 s.into) := hQ4.cell 2
      have z3 : w4.cell? ⟨q, 3, none⟩ = some (.int .u32 (uz s.cut)) := hQ4.cell 3
      have hPl := HTL.out
      have hO4' := hO4
      rw [← hPl] at hO4'
      go_wp2_with ((with_reducible show wpList _ _ _ _ _ _); refine app_rstep32 rfl (.tmp 33) (.tmp 43) rfl w.heap.size _ P s rfl rfl hO4' (by omega) hB4.size ?_)
      intro v' w5 hown5 hg5 hb5
      have hH5 := hH4.grown hg5 (own_row_ne hO4 hH4 (by decide))
      have hG5 := hG4.grown hg5 (own_row_ne hO4 hG4 (by decide))
      have hB5 := hB4.trans hb5
      rw [← HTK.out] at hown5
      clear z0 z1 z2 z3 hH4 hG4 hQ4 hO4 hO4' hg5 hb5 hPl
      go_wp2_with fail
      go_roundw
      case measure => simp [intOf]; omega
      case rel => exact ⟨k + 1, by omega, by go_num, hH5, hG5, hown5, hB5⟩
    · obtain rfl : k = ss.length := by omega
      rw [List.take_length] at hown
      rw [cpTo_all] at hH
      obtain ⟨A2, c2, rfl, _, _, _, _⟩ := Rd.of_ownS hown
      have d0 : wr.cell? ⟨w.heap.size, 0, none⟩ = some (.int .i64 V) := hG.cell 0
      have d1 : wr.cell? ⟨w.heap.size, 1, none⟩ = some (.slice A E.length c) := hG.cell 1
      have hE1 := hE.later hB
      clear hlt hk
      go_wp2_with fail
      refine (copy_any V A E c wr hl hE1).mono ?_
      rintro e w2 ⟨g, rfl, hg, hRg, hb2⟩
      have hB2 := bthen hB hb2
      have hH2 := hH.later hb2
      have hG2 := hG.later hb2
      have hO2 := own_below hown hb2
      clear d0 d1 hB hH hG hown hb2 hE1 hg
      go_wp2_with fail
      refine (replay_any V (some ⟨g, 0, none⟩) E E.length keep (some ⟨h, 0, none⟩) ss ss.length w2 hl hRg.rd (by omega) hH2.rd).mono ?_
      rintro e w3 ⟨v1, L, n, code, rfl, hown1, hR1, hb3⟩
      have hB3 := bthen hB2 hb3
      have hH3 := hH2.later hb3
      have hG3 := hG2.later hb3
      have hO3 := own_below hO2 hb3
      have h7 := repl_len hR1.out
      obtain ⟨A3, c3, rfl, _, _, hL3, _⟩ := Rd.of_ownS hown1
      obtain ⟨A4, c4, e4, _, _, hD3, _⟩ := Rd.of_ownS hO3
      injection e4 with e4 _ e5
      subst e4 e5
      have d0 : w3.cell? ⟨w.heap.size, 0, none⟩ = some (.int .i64 V) := hG3.cell 0
      have d1 : w3.cell? ⟨w.heap.size, 1, none⟩ = some (.slice A E.length c) := hG3.cell 1
      have hE3 := hE.later hB3
      clear hB2 hH2 hG2 hO2 hb3 hRg hown1 hO3
      go_wp2_with fail
      refine (r15replay_any V A E c keep A2 ss c2 w3 hl hE3 (by omega) hD3).mono ?_
      rintro e w4 ⟨v2, L', n', code', rfl, hown2, hR2, hb4⟩
      obtain ⟨e1, e2, e3⟩ := repl_uniq hR1.out hR2.out
      subst e1 e2 e3
      have hB4 := bthen hB3 hb4
      have hH4 := hH3.later hb4
      have hL4 := hL3.later hb4
      obtain ⟨A5, c5, rfl, _, _, hM4, _⟩ := Rd.of_ownS hown2
      clear d0 d1 hE3 hB3 hH3 hG3 hL3 hD3 hb4 hown2 hR1 hR2
      go_wp2_with fail
      go_loopw [65] (fun i wr => ∃ k : Nat, k ≤ ss.length ∧ i = .int .i64 k ∧ Below w4.heap.size w4 wr) (fun i _ => ss.length - (intOf i).toNat)
      case atStart => exact ⟨0, Nat.zero_le _, rfl, Below.refl _ _⟩
      case round =>
        obtain ⟨k, hk, rfl, hb⟩ := hrel
        by_cases hlt : k < ss.length
        · obtain ⟨ad, hA, _, c0, c1, c2', c3'⟩ := (hS.below (bthen hB4 hb)).st_cells hlt
          subst hA
          have b1 : (0 : Int) ≤ k := by omega
          have b2 : (k : Int) < ss.length := by omega
          obtain ⟨s, hst⟩ : ∃ s, stp ss k = s := ⟨_, rfl⟩
          rw [hst] at c0 c1 c2' c3'
          have HSQ := Lib.hid hst
          clear hst
          obtain ⟨k1, x1, y1, u1⟩ := s
          simp only at c0 c1 c2' c3'
          have e1 : (k1 == k1) = true := by simp
          have e2 : (x1 == x1) = true := by simp
          have e3 : (y1 == y1) = true := by simp
          have e4 : (u1 == u1) = true := by simp
          go_upto_region 14 with fail
          have hb5 := below_alloc wr (.cells #[.int .i64 k1, .int .i64 x1, .int .i64 y1, .int .u32 (uz u1)] 66)
          have hQ5 : Row (wr.alloc (.cells #[.int .i64 k1, .int .i64 x1, .int .i64 y1, .int .u32 (uz u1)] 66)) wr.heap.size 66 [.int .i64 k1, .int .i64 x1, .int .i64 y1, .int .u32 (uz u1)] := Row.new _ _ _
          have hB5 := bthen hb hb5
          have hH5 := hH4.later hB5
          generalize wr.heap.size = q at hQ5 ⊢
          generalize wr.alloc _ = w5 at hQ5 hB5 hH5 ⊢
          obtain ⟨r0, r1, r2, r3⟩ := row_st hH5 hlt
          rw [HSQ.out] at r0 r1 r2 r3
          simp only at r0 r1 r2 r3
          have z0 : w5.cell? ⟨q, 0, none⟩ = some (.int .i64 k1) := hQ5.cell 0
          have z1 : w5.cell? ⟨q, 1, none⟩ = some (.int .i64 x1) := hQ5.cell 1
          have z2 : w5.cell? ⟨q, 2, none⟩ = some (.int .i64 y1) := hQ5.cell 2
          have z3 : w5.cell? ⟨q, 3, none⟩ = some (.int .u32 (uz u1)) := hQ5.cell 3
          clear c0 c1 c2' c3' hb5 hb hQ5 hH5
          go_wp2_with fail
          go_quiet (fail)
          go_wp2_with fail
          go_roundw
          case rel => exact ⟨k + 1, by omega, by go_num, below_drewN hB5 _⟩
          case measure => simp [intOf]; omega
        · obtain rfl : k = ss.length := by omega
          have hBr := bthen hB4 hb
          have hL5 := hL4.later hb
          have hM5 := hM4.later hb
          go_wp2_with fail
          refine (awake15_any _).mono ?_
          rintro e w6 ⟨rfl, hb6⟩
          have hB6 := bthen hBr hb6
          have HSL := Lib.hid (sameLeft_any A3 A5 L c3 c5 w6 h7 (hL5.later hb6) (hM5.later hb6))
          clear hL5 hM5 hb6 hBr
          go_wp2_with fail
          refine HSL.out.mono ?_
          rintro e w7 ⟨rfl, m, rfl⟩
          go_wp2_with fail
          go_ret
          exact ⟨rfl, below_drewN hB6 _⟩
end Go.Proofs.Ytkenbmelhfhidaa
