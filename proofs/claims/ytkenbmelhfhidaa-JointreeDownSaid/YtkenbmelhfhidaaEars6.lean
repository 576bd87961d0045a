/- The contract of ears.Run. -/
import Derived.Test.YtkenbmelhfhidaaEars5
namespace Go.Proofs.Ytkenbmelhfhidaa
open Go.RowKit

attribute [local go_sem ↓] uz_and uz_or uz_andNot uz_and_one uz_shr uz_shl_one uz_shl uz_sub uz_sub_one uz_add uz_beq_zero uz_bne_zero uz_beq uz_bne uz_beq_one

/-- What Run answers: steps, what is left, a number. -/
def RunIs (V : Int) (E : List (BitVec 32)) (keep : BitVec 32) (ss : List Stp) (L : Lt) (code : Int) : Prop :=
  (validB V E = false ∧ ss = [] ∧ L = [] ∧ code = 140) ∨ (validB V E = true ∧ ss = (runE E keep).1 ∧ L = (runE E keep).2 ∧ code = 0)
theorem runIs_uniq {V : Int} {E : List (BitVec 32)} {keep : BitVec 32} {ss tt : List Stp} {L M : Lt} {a b : Int} (h : RunIs V E keep ss L a) (k : RunIs V E keep tt M b) : ss = tt ∧ L = M ∧ a = b := by
  rcases h with ⟨a1, a2, a3, a4⟩ | ⟨a1, a2, a3, a4⟩ <;> rcases k with ⟨b1, b2, b3, b4⟩ | ⟨b1, b2, b3, b4⟩
  · exact ⟨a2.trans b2.symm, a3.trans b3.symm, a4.trans b4.symm⟩
  · rw [a1] at b1; cases b1
  · rw [a1] at b1; cases b1
  · exact ⟨a2.trans b2.symm, a3.trans b3.symm, a4.trans b4.symm⟩
def RunPost (V : Int) (E : List (BitVec 32)) (keep : BitVec 32) (w : World) (e : Ending) (w' : World) : Prop :=
  ∃ v1 v2 ss L code, e = .returned (.tuple #[v1, v2, .int .i64 code]) ∧ w'.ownsRow w.heap.size 66 4 v1 ss.length (sts ss) ∧ w'.ownsRow w.heap.size 118 2 v2 L.length (lfs L) ∧ Hid (RunIs V E keep ss L code) ∧ Below w.heap.size w w'
/-- The state of a removal behind k steps. -/
def At (E : List (BitVec 32)) (keep : BitVec 32) (k : Nat) (S : Nat → BitVec 32) (T : Nat → Bool) : Prop := (runN keep (beginE E) k).2 = lefts S T E.length
theorem At.start (E : List (BitVec 32)) (keep : BitVec 32) : At E keep 0 (ed E) (begT E.length) := begin_lefts E

theorem row_ne {w : World} {g h : Nat} {e t : TypeId} {xs ys : List Value} (a : Row w g e xs) (b : Row w h t ys) (hne : e ≠ t) : g ≠ h := by
  rintro rfl
  unfold Row at a b
  rw [a] at b
  injection b with b
  injection b with _ ht
  exact hne ht
theorem grown_to_below {w w' : World} {g B : Nat} (h : w.grownBy w' (some g)) (hB : B ≤ g) (hs : B ≤ w.heap.size) : Below B w w' :=
  ⟨h.os, h.tape, h.output, h.size, fun k hk => h.block k (by omega) (by intro e; injection e with e; omega)⟩
theorem runN_count {keep : BitVec 32} {E : List (BitVec 32)} {k : Nat} {s : Stp} (h7 : E.length ≤ 7) (h : (stepsE (runN keep (beginE E) k).2 keep).head? = some s) : k ≤ 231 := by
  rcases runN_mu (keep := keep) (srt_begin E) k with c | c
  · rw [h] at c; cases c
  · have := mu_begin E h7; omega

set_option maxHeartbeats 4000000 in
set_option maxRecDepth 100000 in
theorem run_any (V : Int) (A : Option Addr) (E : List (BitVec 32)) (c : Nat) (keep : BitVec 32) (w : World) (hl : E.length ≤ 35184372087808) (hE : Rd w w.heap.size A (us E)) :
    Calls Try.prog 49 #[.agg #[.int .i64 V, .slice A E.length c], .int .u32 (uz keep)] w (RunPost V E keep w) := by
  go_enter Try.func49, Try.ntmps49
  go_wp2_with fail
  have hb0 := below_alloc w (.cells #[.int .i64 V, .slice A E.length c] 24)
  have hG0 : Row (w.alloc (.cells #[.int .i64 V, .slice A E.length c] 24)) w.heap.size 24 [.int .i64 V, .slice A E.length c] := Row.new _ _ _
  generalize w.alloc _ = W0 at hb0 hG0 ⊢
  refine (valid_any V A E c _ hl (hE.later hb0)).mono ?_
  rintro e w1 ⟨rfl, hb1⟩
  have hB1 := bthen hb0 hb1
  cases hv : validB V E
  · have HP : Hid (RunIs V E keep [] [] 140) := Lib.hid (.inl ⟨hv, rfl, rfl, rfl⟩)
    go_wp2_with fail
    refine bodyPost_ret (v := .tuple #[.slice none 0 0, .slice none 0 0, .int .i64 140]) (by simp [results, Try.results49, go_sem]) rfl ?_
    exact ⟨_, _, [], [], _, rfl, ⟨rfl, .inl ⟨rfl, rfl⟩⟩, ⟨rfl, .inl ⟨rfl, rfl⟩⟩, HP, hB1⟩
  · have h7 := (validB_of hv).2.2.1
    have HV := Lib.hid hv
    have hG1 := hG0.later hb1
    have d0 : w1.cell? ⟨w.heap.size, 0, none⟩ = some (.int .i64 V) := hG1.cell 0
    have d1 : w1.cell? ⟨w.heap.size, 1, none⟩ = some (.slice A E.length c) := hG1.cell 1
    clear hv
    go_wp2_with fail
    refine (begin_any V A E c keep w1 h7 (hE.later hB1)).mono ?_
    rintro e w2 ⟨g, rfl, hg, hR, hb2⟩
    have hB2 := bthen hB1 hb2
    go_wp2_with fail
    refine (next_any w2 g E.length _ _ keep hR h7).mono ?_
    rintro e w3 ⟨s, b, rfl, HS, hb3⟩
    have hR3 := hR.later hb3
    have hB3 := bthen hB2 hb3
    have hgw : w.heap.size ≤ g := by have := hb0.size; have := hb1.size; omega
    go_upto_region 5 with fail
    have hb4 := below_alloc w3 (.cells #[.int .i64 s.kind, .int .i64 s.edge, .int .i64 s.into, .int .u32 (uz s.cut)] 66)
    have hH4 : Row (w3.alloc (.cells #[.int .i64 s.kind, .int .i64 s.edge, .int .i64 s.into, .int .u32 (uz s.cut)] 66)) w3.heap.size 66 (stC s) := Row.new _ _ _
    have hR4 := hR3.later hb4
    have hB4 := bthen hB3 hb4
    have hwh := hB3.size
    generalize w3.alloc _ = w4 at hb4 hH4 hR4 hB4 ⊢
    generalize w3.heap.size = h at hH4 hwh ⊢
    go_loopg [4, 8, 9] 400 (fun gk v p ok wr => ∃ (k : Nat) (h : Nat) (s : Stp) (b : Bool) (S : Nat → BitVec 32) (T : Nat → Bool), gk = 400 - k ∧ p = .pointer (some ⟨h, 0, none⟩) ∧ ok = .bool b ∧ w.heap.size ≤ h ∧ v.ownBlock ≠ some h ∧ k < 400 ∧
      Row wr h 66 (stC s) ∧ Rem wr g S T E.length keep ∧ Hid (At E keep k S T) ∧ Hid (nextS S T E.length keep = if b = true then some s else none) ∧
      wr.ownsRow w.heap.size 66 4 v (runN keep (beginE E) k).1.length (sts (runN keep (beginE E) k).1) ∧ Below w.heap.size w wr)
    case atStart => exact ⟨0, h, s, b, _, _, rfl, rfl, rfl, hwh, by simp [Value.ownBlock], by omega, hH4, hR4, Lib.hid (At.start E keep), HS, ⟨rfl, .inl ⟨rfl, rfl⟩⟩, hB4⟩
    case round =>
      obtain ⟨k, h', s', b', S, T, rfl, rfl, rfl, hwh', hvh, hk4, hH, hRk, HA, HS', hown, hBk⟩ := hrel
      clear HS hb4 hH4 hR4 hB4 hwh hR3 hB3 hb3 hR hb2 hB2 d0 d1 hG1 hb1 hB1 hb0 hG0
      cases b'
      · have HP : Hid (RunIs V E keep (runN keep (beginE E) k).1 (lefts S T E.length) 0) := Lib.hid (by
          have hst : (stepsE (runN keep (beginE E) k).2 keep).head? = none := by rw [HA.out]; exact HS'.out
          have e := runE_eq h7 hst
          exact .inr ⟨HV.out, by rw [e], by rw [← HA.out, e], rfl⟩)
        generalize (runN keep (beginE E) k).1 = ss at hown HP
        obtain ⟨v, ev, hown⟩ : ∃ v, v = _ ∧ wr.ownsRow w.heap.size 66 4 v ss.length (sts ss) := ⟨_, rfl, hown⟩
        subst ev
        go_wp2_with fail
        refine (left_any wr g E.length S T keep hRk h7).mono ?_
        rintro e w5 ⟨v2, rfl, hown2, hb5⟩
        have hown5 := own_below hown hb5
        have hB5 := bthen hBk hb5
        go_wp2_with fail
        refine bodyPost_ret (v := .tuple #[v, v2, .int .i64 0]) (by simp [results, Try.results49, go_sem]) rfl ?_
        exact ⟨_, _, ss, _, _, rfl, hown5, own_less hown2 hBk.size, HP, hB5⟩
      · have hst : (stepsE (runN keep (beginE E) k).2 keep).head? = some s' := by rw [HA.out]; exact HS'.out
        have hcount := runN_count h7 hst
        have HN := Lib.hid (runN_some hst)
        have HI : Hid (isB S T E.length keep s' = true) := Lib.hid (by unfold isB; rw [decide_eq_true_eq]; exact head_mem HS'.out)
        have hsl := runN_len keep (beginE E) k
        generalize hss : (runN keep (beginE E) k).1 = ss at hown HN hsl
        have HSS := Lib.hid hss
        clear hst hss
        have z0 : wr.cell? ⟨h', 0, none⟩ = some (.int .i64 s'.kind) := hH.cell 0
        have z1 : wr.cell? ⟨h', 1, none⟩ = some (.int .i64 s'.edge) := hH.cell 1
        have z2 : wr.cell? ⟨h', 2, none⟩ = some (.int .i64 s'.into) := hH.cell 2
        have z3 : wr.cell? ⟨h', 3, none⟩ = some (.int .u32 (uz s'.cut)) := hH.cell 3
        go_wp2_with fail
        refine (make_any wr g E.length S T keep hRk h7 s').mono ?_
        rintro e w5 ⟨S2, T2, rfl, hR5, hg5, HL⟩
        have hgh : g ≠ h' := row_ne hRk hH (by decide)
        have hH5 := Row.grown hH hg5 (by intro e; injection e with e; exact hgh e)
        have hown5 := own_grown hown hg5 fun x e => by injection e with e; subst e; exact own_row_ne hown hRk (by decide)
        have hB5 := hBk.trans (grown_to_below hg5 (by omega) hBk.size)
        have HA5 : Hid (At E keep (k + 1) S2 T2) := Lib.hid (by
          show (runN keep (beginE E) (k + 1)).2 = _
          rw [HN.out, HL.out, if_pos HI.out, HA.out])
        have HN5 : Hid ((runN keep (beginE E) (k + 1)).1 = ss ++ [s']) := Lib.hid (by rw [HN.out])
        clear HS' HL HN HA hH hown hRk z0 z1 z2 z3 hg5 hBk HSS
        have z0 : w5.cell? ⟨h', 0, none⟩ = some (.int .i64 s'.kind) := hH5.cell 0
        have z1 : w5.cell? ⟨h', 1, none⟩ = some (.int .i64 s'.edge) := hH5.cell 1
        have z2 : w5.cell? ⟨h', 2, none⟩ = some (.int .i64 s'.into) := hH5.cell 2
        have z3 : w5.cell? ⟨h', 3, none⟩ = some (.int .u32 (uz s'.cut)) := hH5.cell 3
        go_wp2_with ((with_reducible show wpList _ _ _ _ _ _); refine app_step rfl (.tmp 30) (.tmp 32) rfl w.heap.size _ ss s' rfl rfl hown5 (by omega) hB5.size ?_)
        intro v' w6 hown6 hg6 hb6
        have hH6 := Row.grown hH5 hg6 hvh
        have hR6 := hR5.grown hg6 (own_row_ne hown5 hR5 (by decide))
        have hB6 := hB5.trans hb6
        clear hH5 hR5 hown5 hg6 hb6 hvh z0 z1 z2 z3
        have z0 : w6.cell? ⟨h', 0, none⟩ = some (.int .i64 s'.kind) := hH6.cell 0
        have z1 : w6.cell? ⟨h', 1, none⟩ = some (.int .i64 s'.edge) := hH6.cell 1
        have z2 : w6.cell? ⟨h', 2, none⟩ = some (.int .i64 s'.into) := hH6.cell 2
        have z3 : w6.cell? ⟨h', 3, none⟩ = some (.int .u32 (uz s'.cut)) := hH6.cell 3
        have hs6 := Row.lt hR6
        have hb7 := below_alloc w6 (.cells #[.int .i64 s'.kind, .int .i64 s'.edge, .int .i64 s'.into, .int .u32 (uz s'.cut)] 66)
        have hH7 : Row (w6.alloc (.cells #[.int .i64 s'.kind, .int .i64 s'.edge, .int .i64 s'.into, .int .u32 (uz s'.cut)] 66)) w6.heap.size 66 (stC s') := Row.new _ _ _
        have hR7 := hR6.later hb7
        have hown7 := own_below hown6 hb7
        have hB7 := bthen hB6 hb7
        have hv7 : v'.ownBlock ≠ some w6.heap.size := fun e => by have := (hown6.lt _ e).2; omega
        have hwh7 := hB6.size
        go_upto_region 6 with fail
        generalize w6.alloc _ = w7 at hb7 hH7 hR7 hown7 hB7 ⊢
        generalize w6.heap.size = h2 at hH7 hv7 hwh7 ⊢
        clear hb7 hH6 hR6 hown6 hB6 z0 z1 z2 z3 hs6
        go_wp2_with fail
        refine (next_any w7 g E.length S2 T2 keep hR7 h7).mono ?_
        rintro e w8 ⟨s2, b2, rfl, HS2, hb8⟩
        have hH8 := hH7.later hb8
        have hR8 := hR7.later hb8
        have hown8 := own_below hown7 hb8
        have hB8 := bthen hB7 hb8
        have hgh8 : g ≠ h2 := row_ne hR8 hH8 (by decide)
        clear hH7 hR7 hown7 hB7 hb8
        have z0 : w8.cell? ⟨h2, 0, none⟩ = some (.int .i64 s'.kind) := hH8.cell 0
        have z1 : w8.cell? ⟨h2, 1, none⟩ = some (.int .i64 s'.edge) := hH8.cell 1
        have z2 : w8.cell? ⟨h2, 2, none⟩ = some (.int .i64 s'.into) := hH8.cell 2
        have z3 : w8.cell? ⟨h2, 3, none⟩ = some (.int .u32 (uz s'.cut)) := hH8.cell 3
        have f0 := hH8.frozen 0
        have f1 := hH8.frozen 1
        have f2 := hH8.frozen 2
        have f3 := hH8.frozen 3
        have hfin : ∀ a b c d, Row ((((w8.setCell ⟨h2, 0, none⟩ a).setCell ⟨h2, 1, none⟩ b).setCell ⟨h2, 2, none⟩ c).setCell ⟨h2, 3, none⟩ d) h2 66 [a, b, c, d] := fun a b c d =>
          (((hH8.set_ 0 a).set_ 1 b).set_ 2 c).set_ 3 d
        have hgfin : ∀ a b c d, w8.grownBy ((((w8.setCell ⟨h2, 0, none⟩ a).setCell ⟨h2, 1, none⟩ b).setCell ⟨h2, 2, none⟩ c).setCell ⟨h2, 3, none⟩ d) (some h2) := fun a b c d =>
          grown_set (grown_set (grown_set (grown_set (grown_below (Below.refl _ _) _) 0 a) 1 b) 2 c) 3 d
        have HF := Lib.hid hfin
        have HG := Lib.hid hgfin
        clear hfin hgfin
        go_wp2_with fail
        go_roundg (400 - (k + 1))
        case measure => omega
        case rel =>
          have hg9 := HG.out (.int .i64 s2.kind) (.int .i64 s2.edge) (.int .i64 s2.into) (.int .u32 (uz s2.cut))
          refine ⟨k + 1, h2, s2, b2, S2, T2, rfl, rfl, rfl, hwh7, hv7, by omega, HF.out _ _ _ _, hR8.grown hg9 (by intro e; injection e with e; exact hgh8 e.symm), HA5, HS2, ?_, hB8.trans (grown_to_below hg9 hwh7 hB8.size)⟩
          rw [HN5.out]
          have := own_grown hown8 hg9 fun x e => by injection e with e; subst e; exact hv7
          rw [List.length_append]
          exact this
end Go.Proofs.Ytkenbmelhfhidaa
