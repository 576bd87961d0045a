/- The walk of osierlaw15.EarsParts. -/
import Derived.Test.YtkenbmelhfhidaaStepApp2
import Derived.Test.YtkenbmelhfhidaaParts15
import Derived.Test.YtkenbmelhfhidaaCuts
import Derived.Deep.RegionHeld3
namespace Go.Proofs.Ytkenbmelhfhidaa
open Go.RowKit

attribute [local go_sem ↓] uz_and uz_or uz_andNot uz_and_one uz_shr uz_shl_one uz_shl uz_sub uz_sub_one uz_add uz_beq_zero uz_bne_zero uz_beq uz_bne uz_beq_one

theorem step_u32_eq {wr W : World} {ops : Array Oper} {o : Oper} {a : Act} {K : Act → World → Prop} {Q : Exit → Act → World → Prop} {F : Prop} (y : BitVec 32) (hW : wr.alloc (.cells #[.int .u32 (uz y)] 39) = W) (hgd : o.guard = none) (s x : Operand) (ho : o.op = .call { callee := .builtin .append, args := #[s, x], argTypes := #[22, 22] })
    (base : Nat) (v : Value) (E : List (BitVec 32)) (hs : a.eval s = v) (hx : a.eval x = .slice (some ⟨wr.heap.size, 0, none⟩) 1 1) (hown : wr.ownsRow base 39 1 v E.length (us E))
    (hn : E.length + 1 ≤ 2199023255552) (hbase : base ≤ wr.heap.size)
    (h : ∀ g cap w', w'.ownsRow base 39 1 (.slice (some ⟨g, 0, none⟩) (E.length + 1) cap) (E.length + 1) (us (E ++ [y])) → wr.grownBy w' v.ownBlock → Below base wr w' → g < w'.heap.size → K (a.put o.dst (.slice (some ⟨g, 0, none⟩) (E.length + 1) cap)) w') :
    if Region.wanted o (yielded ops a.tmps) = true then Oper.wp Try.prog o a W K Q else F := by
  subst hW
  exact step_u32 hgd s x ho base v E y hs hx hown hn hbase h
theorem uint_mod (x : Int) (n : Nat) (h0 : 0 < n) (h : n ≤ 7) : ∃ k : Nat, k < n ∧ (IntKind.u64.wrap x).tmod (n : Int) = k := by
  rw [IntKind.wrap_u64]
  have h1 : 0 ≤ x % 18446744073709551616 := by omega
  rw [Int.tmod_eq_emod_of_nonneg h1]
  have h2 := Int.emod_nonneg (x % 18446744073709551616) (show (n : Int) ≠ 0 by omega)
  have h3 := Int.emod_lt_of_pos (x % 18446744073709551616) (show (0 : Int) < n by omega)
  exact ⟨(x % 18446744073709551616 % n).toNat, by omega, by omega⟩
theorem u64_small (n : Nat) (h : n ≤ 7) : IntKind.u64.wrap (n : Int) = n := by
  rw [IntKind.wrap_u64]; omega

set_option maxHeartbeats 8000000 in
set_option maxRecDepth 100000 in
theorem law_eparts (V : Int) (A : Option Addr) (E : List (BitVec 32)) (c : Nat) (set part : BitVec 32) (of : Int) (w : World) (hl : E.length ≤ 35184372087808) (hE : Rd w w.heap.size A (us E)) :
    Calls Try.prog 15 #[.agg #[.int .i64 V, .slice A E.length c, .int .u32 (uz set), .int .u32 (uz part), .int .i64 of]] w fun e w' => e = .returned (.bool true) ∧ Below w.heap.size w w' := by
  go_enter Try.func15, Try.ntmps15
  go_upto_region 1 with fail
  have hb0 := below_alloc w (.cells #[.int .i64 V, .slice A E.length c, .int .u32 (uz set), .int .u32 (uz part), .int .i64 of] 77)
  have hG0 : Row (w.alloc (.cells #[.int .i64 V, .slice A E.length c, .int .u32 (uz set), .int .u32 (uz part), .int .i64 of] 77)) w.heap.size 77 [.int .i64 V, .slice A E.length c, .int .u32 (uz set), .int .u32 (uz part), .int .i64 of] := Row.new _ _ _
  have hlt0 := hG0.lt
  generalize w.alloc _ = w0 at hb0 hG0 hlt0 ⊢
  have c0 : w0.cell? ⟨w.heap.size, 0, none⟩ = some (.int .i64 V) := hG0.cell 0
  have c1 : w0.cell? ⟨w.heap.size, 1, none⟩ = some (.slice A E.length c) := hG0.cell 1
  have c2 : w0.cell? ⟨w.heap.size, 2, none⟩ = some (.int .u32 (uz set)) := hG0.cell 2
  have c3 : w0.cell? ⟨w.heap.size, 3, none⟩ = some (.int .u32 (uz part)) := hG0.cell 3
  have c4 : w0.cell? ⟨w.heap.size, 4, none⟩ = some (.int .i64 of) := hG0.cell 4
  go_cut [3, 4, 5, 6] (fun p x y z wx => ∃ g, p = .pointer (some ⟨g, 0, none⟩) ∧ x = .int .u32 (uz set) ∧ y = .int .u32 (uz part) ∧ z = .int .i64 of ∧ Row wx g 24 [.int .i64 V, .slice A E.length c] ∧ Below w.heap.size w wx)
  case first =>
    have q0 := fun o => Lib.hid (Tab_cell (below_alloc w0 o) c0)
    have q1 := fun o => Lib.hid (Tab_cell (below_alloc w0 o) c1)
    have q2 := fun o => Lib.hid (Tab_cell (below_alloc w0 o) c2)
    have q3 := fun o => Lib.hid (Tab_cell (below_alloc w0 o) c3)
    have q4 := fun o => Lib.hid (Tab_cell (below_alloc w0 o) c4)
    go_region_held3 (fun wx : World => wx.cell? ⟨w.heap.size, 0, none⟩ = some (.int .i64 V) ∧ wx.cell? ⟨w.heap.size, 1, none⟩ = some (.slice A E.length c) ∧ wx.cell? ⟨w.heap.size, 2, none⟩ = some (.int .u32 (uz set)) ∧ wx.cell? ⟨w.heap.size, 3, none⟩ = some (.int .u32 (uz part)) ∧ wx.cell? ⟨w.heap.size, 4, none⟩ = some (.int .i64 of)) (first | exact ⟨c0, c1, c2, c3, c4⟩ | exact ⟨(q0 _).out, (q1 _).out, (q2 _).out, (q3 _).out, (q4 _).out⟩) (first | fail)
    all_goals
      go_wp2_with fail
      go_meet
      exact ⟨_, rfl, rfl, rfl, rfl, Row.new _ _ _, (hb0.alloc hb0.size _).drew⟩
  case rest =>
    obtain ⟨g, rfl, rfl, rfl, rfl, hG, hB⟩ := hcut
    have d0 : wc.cell? ⟨g, 0, none⟩ = some (.int .i64 V) := hG.cell 0
    have d1 : wc.cell? ⟨g, 1, none⟩ = some (.slice A E.length c) := hG.cell 1
    have hEc := hE.later hB
    clear hE
    go_wp2_with fail
    refine (copy_any V A E c wc hl hEc).mono ?_
    rintro e w2 ⟨h, rfl, _, hRh, hb2⟩
    have hB2 := bthen hB hb2
    have hG2 := hG.later hb2
    have hE2 := hEc.later hb2
    clear d0 d1
    go_wp2_with fail
    refine (acyclic_any V _ E _ w2 hl hRh.rd).mono ?_
    rintro e w3 ⟨rfl, hb3⟩
    have hB3 := bthen hB2 hb3
    have hG3 := hG2.later hb3
    have hE3 := hE2.later hb3
    have d0 : w3.cell? ⟨g, 0, none⟩ = some (.int .i64 V) := hG3.cell 0
    have d1 : w3.cell? ⟨g, 1, none⟩ = some (.slice A E.length c) := hG3.cell 1
    have hglt := hG3.lt
    clear hRh hb2 hb3 hB hB2 hG2 hE2 hG hEc
    cases ha : acyB V E
    · have HK : Hid (Calls Try.prog 53 #[] w3 fun e w' => e = .returned (.bool true) ∧ Below w3.heap.size w3 w') := Lib.hid (awake15_any w3)
      obtain ⟨k, hk⟩ : ∃ k, codeB V E = k := ⟨_, rfl⟩
      rw [hk]
      clear ha hk
      cases hk0 : (k != 0)
      all_goals
        go_wp2_with fail
        refine HK.out.mono ?_
        rintro e w5 ⟨rfl, hb5⟩
        go_wp2_with fail
        go_ret
        exact ⟨rfl, bthen hB3 hb5⟩
    · have hv := acyB_valid ha
      obtain ⟨v0, v1, v2, _⟩ := validB_of hv
      have hcode : codeB V E = 0 := by unfold codeB; rw [hv]; rfl
      have HCU := Lib.hid (cut_acy set ha)
      have HPA := Lib.hid (fun k h6 hk => part_acy (k := k) (s := part) ha h6 hk)
      rw [hcode]
      have HV := Lib.hid hv
      clear ha hcode hv
      go_wp2_with fail
      refine (r14induced_any V A E c set w3 hl hE3).mono ?_
      rintro e w4 ⟨V', v, F, code, rfl, hown, HI, hb4⟩
      obtain ⟨rfl, rfl, rfl⟩ : V' = V ∧ F = cutAll E set ∧ code = 0 := by
        rcases HI.out with ⟨h, _⟩ | ⟨_, h1, h2, h3⟩
        · rw [HV.out] at h; cases h
        · exact ⟨h1, h2, h3⟩
      obtain ⟨Av, cv, rfl, _, _, hF, _⟩ := Rd.of_own hown
      have hB4 := bthen hB3 hb4
      have hG4 := hG3.later hb4
      have hE4 := hE3.later hb4
      clear d0 d1 hown HI hb4 hB3 hE3 hG3
      go_upto_region 6 with fail
      have hb5 := below_alloc w4 (.cells #[.int .i64 V', .slice Av (cutAll E set).length cv] 24)
      have hI5 : Row (w4.alloc (.cells #[.int .i64 V', .slice Av (cutAll E set).length cv] 24)) w4.heap.size 24 [.int .i64 V', .slice Av (cutAll E set).length cv] := Row.new _ _ _
      have hF5 := hF.later hb5
      have hB5 := bthen hB4 hb5
      have hG5 := hG4.later hb5
      have hE5 := hE4.later hb5
      generalize w4.heap.size = q at hI5 ⊢
      generalize w4.alloc _ = w5 at hI5 hF5 hB5 hG5 hE5 ⊢
      have d0 : w5.cell? ⟨q, 0, none⟩ = some (.int .i64 V') := hI5.cell 0
      have d1 : w5.cell? ⟨q, 1, none⟩ = some (.slice Av (cutAll E set).length cv) := hI5.cell 1
      have hT := acyclic_any V' Av (cutAll E set) cv w5 (by rw [cutAll_length]; omega) hF5
      rw [HCU.out.1, HCU.out.2] at hT
      have HT := Lib.hid hT
      clear hF hB4 hG4 hE4 hb5 hF5 hT HCU
      go_wp2_with fail
      refine HT.out.mono ?_
      rintro e w6 ⟨rfl, hb6⟩
      have hB6 := bthen hB5 hb6
      have hG6 := hG5.later hb6
      have hE6 := hE5.later hb6
      have d0 : w6.cell? ⟨g, 0, none⟩ = some (.int .i64 V') := hG6.cell 0
      have d1 : w6.cell? ⟨g, 1, none⟩ = some (.slice A E.length c) := hG6.cell 1
      clear hI5 HT hB5 hG5 hE5 hb6
      have HK : Hid (∀ w, Calls Try.prog 53 #[] w fun e w' => e = .returned (.bool true) ∧ Below w.heap.size w w') := Lib.hid awake15_any
      by_cases h0 : E.length = 0
      · have e0 : ((E.length : Int) == 0) = true := by simp [h0]
        clear h0
        go_wp2_with fail
        refine (HK.out _).mono ?_
        rintro e w7 ⟨rfl, hb7⟩
        go_wp2_with fail
        go_ret
        exact ⟨rfl, bthen hB6 hb7⟩
      · have e0 : ((E.length : Int) == 0) = false := by rw [beq_eq_false_iff_ne]; omega
        by_cases h6 : E.length ≤ 6
        · have e1 : decide ((6 : Int) < (E.length : Int)) = false := decide_eq_false (by omega)
          have hpos : 0 < E.length := by omega
          clear h0
          go_wp2_with fail
          refine (copy_any V' A E c w6 hl hE6).mono ?_
          rintro e w7 ⟨h7, rfl, hh7, hRh, hb7⟩
          have hB7 := bthen hB6 hb7
          have hG7 := hG6.later hb7
          have hE7 := hE6.later hb7
          go_upto_region 12 with fail
          have hb8 := below_alloc w7 (.cells #[.int .i64 V', .slice (some ⟨h7, 0, none⟩) E.length E.length] 24)
          have hI8 : Row (w7.alloc (.cells #[.int .i64 V', .slice (some ⟨h7, 0, none⟩) E.length E.length] 24)) w7.heap.size 24 [.int .i64 V', .slice (some ⟨h7, 0, none⟩) E.length E.length] := Row.new _ _ _
          have hB8 := bthen hB7 hb8
          have hG8 := hG7.later hb8
          have hE8 := hE7.later hb8
          have hR8 := hRh.later hb8
          have hqw : w.heap.size ≤ w7.heap.size := hB7.size
          have hh8 : w.heap.size ≤ h7 := Nat.le_trans hB6.size hh7
          generalize w7.heap.size = r at hI8 hqw ⊢
          generalize w7.alloc _ = w8 at hI8 hB8 hG8 hE8 hR8 ⊢
          clear hb8 hE7 hG7 hB7 hb7 hRh hE6 hG6 hB6 d0 d1
          have d1 : w8.cell? ⟨g, 1, none⟩ = some (.slice A E.length c) := hG8.cell 1
          have d2 : w8.cell? ⟨r, 1, none⟩ = some (.slice (some ⟨h7, 0, none⟩) E.length E.length) := hI8.cell 1
          have f2 := hI8.frozen 1
          have hO8 : w8.ownsRow w.heap.size 39 1 (.slice (some ⟨h7, 0, none⟩) E.length E.length) E.length (us E) := by
            have h0 := hR8.own (base := w.heap.size) hh8 (by unfold maxLen; simp; omega)
            rwa [us_length] at h0
          have hgq : h7 ≠ r := row_ne hR8 hI8 (by decide)
          have hBO : ∀ x y w, Calls Try.prog 41 #[.int .u32 (uz x), .int .u32 (uz y)] w fun e w' => e = .returned (.int .u32 (uz (x &&& y))) ∧ w = w' := fun x y w => both_any x y w
          have HBO := Lib.hid hBO
          clear hBO
          obtain ⟨k, hk, hkm⟩ := uint_mod of E.length hpos (by omega)
          have hul := u64_small E.length (by omega)
          have hkw : IntKind.i64.wrap (k : Int) = k := IntWalk.i64_in _ (by omega)
          have hne : ¬ E.length = 0 := by omega
          have hne2 : ¬ E = [] := fun h => by rw [h] at hpos; simp at hpos
          have hne3 : ¬ (E.length : Int) = 0 := by omega
          have hr8 : r < w8.heap.size := hI8.lt
          have hg8 : g < w8.heap.size := hG8.lt
          obtain ⟨ad, hA, had, hc⟩ := hE8.e_at hk
          subst hA
          have HP := Lib.hid (HPA.out k h6 hk)
          have b1 : (0 : Int) ≤ k := by omega
          have b2 : (k : Int) < E.length := by omega
          generalize ed E k = x at hc HP
          have hO9 : w8.drew.ownsRow w.heap.size 39 1 (.slice (some ⟨h7, 0, none⟩) E.length E.length) E.length (us E) := hO8
          clear HPA
          go_region_law (first | (refine step_u32_eq (wr := w8.drew) (part &&& x) (by first | rfl | simp) rfl (.tmp 74) (.tmp 89) rfl w.heap.size (.slice (some ⟨h7, 0, none⟩) E.length E.length) E rfl rfl hO9 (by omega) hB8.size ?_; intro g' c' w' hown' hgr' hb9 hg'; have hI9 := hI8.grown (grown_undrew hgr') (by simpa [Value.ownBlock] using hgq); have k1 : w'.cell? ⟨r, 1, none⟩ = some (.slice (some ⟨h7, 0, none⟩) E.length E.length) := hI9.cell 1; have k2 := hI9.frozen 1) | (go_simp; go_at_call 41; refine (HBO.out _ _ _).mono ?_; rintro e w' ⟨rfl, rfl⟩))
          all_goals
            have hB9 := (hB8.trans (below_undrew2 hb9)).setCell (p := ⟨r, 1, none⟩) hqw (.slice (some ⟨g', 0, none⟩) (E.length + 1) c')
            have hI10 := hI9.set_ 1 (.slice (some ⟨g', 0, none⟩) (E.length + 1) c')
            have hg10 := grown_set (grown_below (Below.refl w'.heap.size w') (some r)) 1 (.slice (some ⟨g', 0, none⟩) (E.length + 1) c')
            have hown10 := own_grown hown' hg10 fun x hx => by injection hx with hx; subst hx; exact own_row_ne hown' hI9 (by decide)
            clear hown' hgr' hb9 hI9 k1 k2 hg10 hO9 hkm hul hkw
            generalize w'.setCell _ _ = w10 at hB9 hI10 hown10 ⊢
            have k0 : w10.cell? ⟨r, 0, none⟩ = some (.int .i64 V') := hI10.cell 0
            have k1 : w10.cell? ⟨r, 1, none⟩ = some (.slice (some ⟨g', 0, none⟩) (E.length + 1) c') := hI10.cell 1
            obtain ⟨A', c3, eA, _, _, hrd, _⟩ := Rd.of_own hown10
            injection eA with eA1 eA2 eA3
            subst eA1
            clear eA2
            subst eA3
            have hT := acyclic_any V' (some ⟨g', 0, none⟩) (E ++ [part &&& x]) c' w10 (by simp; omega) hrd
            rw [HP.out.1, HP.out.2, List.length_append, List.length_singleton] at hT
            have HT := Lib.hid hT
            clear hT hown10 hrd hI10 HP
            go_wp2_with fail
            refine HT.out.mono ?_
            rintro e w11 ⟨rfl, hb11⟩
            have hB11 := bthen hB9 hb11
            clear HT
            go_wp2_with fail
            refine (HK.out _).mono ?_
            rintro e w12 ⟨rfl, hb12⟩
            go_wp2_with fail
            go_ret
            exact ⟨rfl, bthen hB11 hb12⟩
        · have e1 : decide ((6 : Int) < (E.length : Int)) = true := decide_eq_true (by omega)
          clear h0
          go_wp2_with fail
          refine (HK.out _).mono ?_
          rintro e w7 ⟨rfl, hb7⟩
          go_wp2_with fail
          go_ret
          exact ⟨rfl, bthen hB6 hb7⟩
end Go.Proofs.Ytkenbmelhfhidaa
