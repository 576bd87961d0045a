/- The contract of osierref14.Of. -/
import Derived.Test.YtbgbjodehbcgiaaDoorRShape
import Derived.Test.YtbgbjodehbcgiaaDoorQVars2
import Derived.Deep.RegionHeld3
namespace Go.Proofs.YtbgbjodehbcgiaaDoor
open Go.RowKit
attribute [local go_sem ↓] uz_and uz_or uz_andNot uz_and_one uz_shr uz_shl_one uz_shl uz_sub uz_sub_one uz_add uz_beq_zero uz_bne_zero uz_beq uz_bne uz_beq_one

theorem inB_set {vars : List ByteArray} (names : List ByteArray) (h : vars.length ≤ 32) {k : Nat} (hk : k < vars.length) : inB (setOf vars names) k = decide (nm vars k ∈ names) := by
  rw [inB_nat, getLsbD_setOf _ h, decide_eq_true hk, Bool.true_and]
def ofR (vars : List ByteArray) (xs : List Am) (k : Nat) : List (BitVec 32) := (xs.take k).map fun a => setOf vars (avars a.terms)
theorem ofR_next (vars : List ByteArray) (xs : List Am) (k : Nat) (hk : k < xs.length) : ofR vars xs (k + 1) = ofR vars xs k ++ [setOf vars (avars (am xs k).terms)] := by
  unfold ofR
  rw [take_snoc xs k hk, List.map_append, am_eq xs k hk]; rfl

set_option maxHeartbeats 16000000 in
set_option maxRecDepth 100000 in
theorem r14of_any (q : Qy) (AH : Option Addr) (cH : Nat) (AA : Option Addr) (cA : Nat) (w : World) (hq : SzQ q) (hH : Rd w w.heap.size AH (ss q.head)) (hA : Ats w w.heap.size AA q.atoms) :
    Calls Tryd.prog 11 #[.agg #[.string q.name, .slice AH q.head.length cH, .slice AA q.atoms.length cA]] w fun e w' => ∃ V v E h code, e = .returned (.tuple #[.agg #[.int .i64 V, v], .int .u32 (uz h), .int .i64 code]) ∧ w'.ownsRow w.heap.size 29 1 v E.length (us E) ∧ Hid (OfIs q V E h code) ∧ Below w.heap.size w w' := by
  go_enter Tryd.func11, Tryd.ntmps11
  go_wp2_with fail
  have hb0 : Below w.heap.size w ((w.alloc (.cells #[.string q.name, .slice AH q.head.length cH, .slice AA q.atoms.length cA] 25)).alloc (.cells #[.int .i64 0, .slice none 0 0] 28)) := (below_alloc w _).alloc (by simp) _
  have hQ0 : Row ((w.alloc (.cells #[.string q.name, .slice AH q.head.length cH, .slice AA q.atoms.length cA] 25)).alloc (.cells #[.int .i64 0, .slice none 0 0] 28)) w.heap.size 25 [.string q.name, .slice AH q.head.length cH, .slice AA q.atoms.length cA] := (Row.new w _ _).alloc _
  have hR0 : Row ((w.alloc (.cells #[.string q.name, .slice AH q.head.length cH, .slice AA q.atoms.length cA] 25)).alloc (.cells #[.int .i64 0, .slice none 0 0] 28)) (w.heap.size + 1) 28 [.int .i64 0, .slice none 0 0] := Row.new_ (by simp)
  generalize (w.alloc _).alloc _ = w0 at hb0 hQ0 hR0 ⊢
  refine (r09shape_any q AH cH AA cA w0 hq (hH.later hb0) (hA.later hb0)).mono ?_
  rintro e w1 ⟨rfl, hb1⟩
  have hB1 := bthen hb0 hb1
  have hQ1 := hQ0.later hb1
  have hR1 := hR0.later hb1
  clear hb0 hb1 hQ0 hR0
  have d0 : w1.cell? ⟨w.heap.size + 1, 0, none⟩ = some (.int .i64 0) := hR1.cell 0
  have d1 : w1.cell? ⟨w.heap.size + 1, 1, none⟩ = some (.slice none 0 0) := hR1.cell 1
  have f0 := hR1.frozen 0
  have f1 := hR1.frozen 1
  have hlt1 := hR1.lt
  by_cases hs : shapeC q = 0
  · have HG := Lib.hid (shapeC_iff.1 hs)
    have e0 : (shapeC q != 0) = false := by simp [hs]
    have HOK : Hid (∀ V E h, V = ((qvars q.atoms).length : Int) → E = ofE q → h = headW q → OfIs q V E h 0) := Lib.hid fun V E h h1 h2 h3 => .inr ⟨hs, h1, h2, h3, rfl⟩
    have h6 := HG.out.few
    have h5 := HG.out.narrow
    have hfh := hq.few
    have hvl := qvars_length h5 h6
    have HE : Hid (ofE q = ofR (qvars q.atoms) q.atoms q.atoms.length) := Lib.hid (by unfold ofE ofR; rw [List.take_length])
    have HW : Hid (headW q = setOf (qvars q.atoms) q.head) := Lib.hid rfl
    obtain ⟨vars, hvars⟩ : ∃ vars, qvars q.atoms = vars := ⟨_, rfl⟩
    have HQV := Lib.hid (r09vars_any q.name AH q.head.length cH AA q.atoms cA w1 h6 h5 (hA.later hB1))
    rw [hvars] at HOK hvl HE HW HQV
    clear hvars hs HG
    have q0 : w1.cell? ⟨w.heap.size, 0, none⟩ = some (.string q.name) := hQ1.cell 0
    have q1 : w1.cell? ⟨w.heap.size, 1, none⟩ = some (.slice AH q.head.length cH) := hQ1.cell 1
    have q2 : w1.cell? ⟨w.heap.size, 2, none⟩ = some (.slice AA q.atoms.length cA) := hQ1.cell 2
    go_wp2_with fail
    refine HQV.out.mono ?_
    rintro e w2 ⟨v2, rfl, hown2, hb2⟩
    obtain ⟨AV, cV, rfl, _, _, hV2, _⟩ := Rd.of_own hown2
    have hB2 := bthen hB1 hb2
    have hQ2 := hQ1.later hb2
    have hR2 := hR1.later hb2
    clear q0 q1 q2 HQV d0 d1 f0 f1 hlt1 hown2 hb2 hB1 hQ1 hR1
    go_upto_region 6 with fail
    have hb3 := below_alloc w2 (.cells #[.int .i64 (vars.length : Int), .slice none 0 0] 28)
    have hG3 : Row (w2.alloc (.cells #[.int .i64 (vars.length : Int), .slice none 0 0] 28)) w2.heap.size 28 [.int .i64 (vars.length : Int), .slice none 0 0] := Row.new _ _ _
    have hB3 := bthen hB2 hb3
    have hQ3 := hQ2.later hb3
    have hR3 := hR2.later hb3
    have hV3 : Rd (w2.alloc (.cells #[.int .i64 (vars.length : Int), .slice none 0 0] 28)) w2.heap.size AV (ss vars) := hV2.below hb3
    have hgv : w.heap.size + 1 < w2.heap.size := hR2.lt
    generalize w2.heap.size = g7 at hG3 hV3 hgv ⊢
    generalize w2.alloc _ = w3 at hG3 hB3 hQ3 hR3 hV3 ⊢
    clear hb3 hB2 hQ2 hR2 hV2
    have hg3 := hG3.lt
    go_wp2_with fail
    go_loopw [9] (fun i wr => ∃ (k : Nat) (A : Option Addr) (c : Nat), k ≤ q.atoms.length ∧ i = .int .i64 k ∧ Row wr g7 28 [.int .i64 (vars.length : Int), .slice A k c] ∧ wr.ownsRow (g7 + 1) 29 1 (.slice A k c) k (us (ofR vars q.atoms k)) ∧ Below g7 w3 wr) (fun i _ => q.atoms.length - (intOf i).toNat)
    case atStart => exact ⟨0, none, 0, Nat.zero_le _, rfl, hG3, World.ownsRow_nil _ _ _ _, Below.refl _ _⟩
    case round =>
      obtain ⟨k, A, c, hk, rfl, hG, hoE, hBg⟩ := hrel
      have hQ : Row wr w.heap.size 25 [.string q.name, .slice AH q.head.length cH, .slice AA q.atoms.length cA] := hQ3.below hBg (by omega)
      have hR : Row wr (w.heap.size + 1) 28 [.int .i64 0, .slice none 0 0] := hR3.below hBg (by omega)
      have hV : Rd wr g7 AV (ss vars) := hV3.below hBg
      have hB : Below w.heap.size w wr := hB3.trans (hBg.mono (by omega))
      have q2 : wr.cell? ⟨w.heap.size, 2, none⟩ = some (.slice AA q.atoms.length cA) := hQ.cell 2
      have hgw := hG.lt
      by_cases hlt : k < q.atoms.length
      · obtain ⟨ad, hAd, _, hc, T, cT, hc1, hT, _⟩ := (hA.later hB) k hlt
        subst hAd
        have b1 : (0 : Int) ≤ k := by omega
        have b2 : (k : Int) < q.atoms.length := by omega
        have hfew := h5 _ (am_mem q.atoms k hlt)
        have HNX := Lib.hid (ofR_next vars q.atoms k hlt)
        generalize am q.atoms k = a at hc hc1 hT hfew HNX
        generalize ofR vars q.atoms k = E at hoE HNX
        have HVC := Lib.hid (r09atomVars_any a.rel T a.terms cT wr (by omega) hT)
        have hml := avars_length a.terms
        generalize avars a.terms = M at HVC HNX hml
        go_wp2_with fail
        refine HVC.out.mono ?_
        rintro e w5 ⟨v5, rfl, hown5, hb5⟩
        obtain ⟨AM, cM, rfl, _, _, hM5, _⟩ := Rd.of_own hown5
        have hG5 := hG.later hb5
        have hoE5 := own_below hoE hb5
        have hBg5 := hBg.trans (hb5.mono (by omega))
        have hV5 : Rd w5 w5.heap.size AV (ss vars) := (hV.below (hb5.mono (by omega))).mono (by have := hG5.lt; omega)
        clear hown5 hb5 HVC hG hoE hQ hR hV hB hT hc hc1 q2 hBg hgw
        have HIN : Hid (∀ x, Calls Tryd.prog 47 #[.slice AM M.length cM, .string x] w5 fun e w' => e = .returned (.bool (decide (x ∈ M))) ∧ w5 = w') := Lib.hid fun x => in9_any AM M cM x w5 (by omega) hM5
        have HLW := Lib.hid (lows_setOf (vars := vars) M (by omega))
        have HBS : Hid (∀ m, m < vars.length → inB (setOf vars M) m = decide (nm vars m ∈ M)) := Lib.hid fun m hm => inB_set M (by omega) hm
        generalize hS : setOf vars M = S at HNX HLW HBS
        clear hS
        go_wp2_with fail
        go_loopg [11, 12] vars.length (fun g s i wi => ∃ m : Nat, m ≤ vars.length ∧ g = vars.length - m ∧ i = .int .i64 m ∧ s = .int .u32 (uz (lows S m)) ∧ w5 = wi)
        case atStart => exact ⟨0, Nat.zero_le _, rfl, rfl, rfl, rfl⟩
        case round =>
          obtain ⟨m, hm, rfl, rfl, rfl, rfl⟩ := hrel
          by_cases hmlt : m < vars.length
          · obtain ⟨ad2, hAd2, _, hc2⟩ := hV5.s_at hmlt
            subst hAd2
            have b3 : (0 : Int) ≤ m := by omega
            have b4 : (m : Int) < vars.length := by omega
            have HI := Lib.hid (HIN.out (nm vars m))
            have hbs := HBS.out m hmlt
            generalize decide (nm vars m ∈ M) = ib at HI hbs
            generalize nm vars m = y at hc2 HI
            cases ib
            · have HL := Lib.hid (lows_f S m hbs)
              clear hbs
              go_wp2_with fail
              refine HI.out.mono ?_
              rintro e w6 ⟨rfl, rfl⟩
              go_wp2_with fail
              go_roundg (vars.length - (m + 1))
              case measure => omega
              case rel => exact ⟨m + 1, by omega, rfl, by go_num, by rw [HL.out], by first | rfl | trivial⟩
            · have HL := Lib.hid (lows_t S m hbs)
              clear hbs
              go_wp2_with fail
              refine HI.out.mono ?_
              rintro e w6 ⟨rfl, rfl⟩
              go_wp2_with fail
              go_roundg (vars.length - (m + 1))
              case measure => omega
              case rel => exact ⟨m + 1, by omega, rfl, by go_num, by rw [HL.out], by first | rfl | trivial⟩
          · obtain rfl : m = vars.length := by omega
            have c1 : w5.cell? ⟨g7, 1, none⟩ = some (.slice A k c) := hG5.cell 1
            have c2 := hG5.frozen 1
            have c3 := hG5.lt
            rw [HLW.out]
            go_wp2_with ((with_reducible show wpList _ _ _ _ _ _); refine app_u32 rfl (.tmp 56) (.tmp 58) rfl (g7 + 1) _ _ E S rfl rfl hoE5 (by omega) (by omega) ?_)
            intro v' w7 hown' hb7
            obtain ⟨A', c', rfl, -⟩ := Rd.of_own hown'
            have hG7 := hG5.below hb7 (by omega)
            have s1 : w7.cell? ⟨g7, 1, none⟩ = some (.slice A k c) := hG7.cell 1
            have s2 := hG7.frozen 1
            have s3 := hG7.lt
            have hG8 := hG7.set_ 1 (.slice A' (k + 1) c')
            have hoE8 := own_grown hown' (grown_set9 (grown_below9 (Below.refl w7.heap.size w7) (some g7)) 1 (.slice A' (k + 1) c')) fun x hx => by
              injection hx with hx
              subst hx
              exact own_row_ne hown' hG7 (by decide)
            have hBg8 : Below g7 w3 (w7.setCell ⟨g7, 1, none⟩ (.slice A' (k + 1) c')) := (hBg5.trans (hb7.mono (by omega))).setCell (by simp) _
            rw [← HNX.out] at hoE8
            clear hG5 hoE5 hBg5 hV5 HIN HBS hown' hb7
            go_wp2_with fail
            clear s1 s2 s3 hG7 c1 c2 c3
            generalize w7.setCell _ _ = w8 at hG8 hoE8 hBg8 ⊢
            go_roundw
            case rel => exact ⟨k + 1, A', c', by omega, by go_num, hG8, hoE8, hBg8⟩
            case measure => simp [intOf]; omega
      · obtain rfl : k = q.atoms.length := by omega
        have hHw := hH.later hB
        have hVw : Rd wr wr.heap.size AV (ss vars) := hV.mono (by omega)
        have HLW := Lib.hid (lows_setOf (vars := vars) q.head (by omega))
        have HBS : Hid (∀ m, m < vars.length → inB (setOf vars q.head) m = decide (nm vars m ∈ q.head)) := Lib.hid fun m hm => inB_set q.head (by omega) hm
        have HX : Hid (OfIs q (vars.length : Int) (ofR vars q.atoms q.atoms.length) (setOf vars q.head) 0) := Lib.hid (HOK.out _ _ _ rfl HE.out.symm HW.out.symm)
        generalize hS : setOf vars q.head = S at HLW HBS HX
        clear hS HOK HE HW
        obtain ⟨wo, hwo⟩ : ∃ wo : World, wo = wr := ⟨_, rfl⟩
        subst hwo
        go_wp2_with fail
        clear q2
        go_loopw [8, 13] (fun s i wi => ∃ m : Nat, m ≤ vars.length ∧ i = .int .i64 m ∧ s = .int .u32 (uz (lows S m)) ∧ Below wo.heap.size wo wi) (fun _ i _ => vars.length - (intOf i).toNat)
        case atStart => exact ⟨0, Nat.zero_le _, rfl, rfl, Below.refl _ _⟩
        case round =>
          obtain ⟨m, hm, rfl, rfl, hbi⟩ := hrel
          by_cases hmlt : m < vars.length
          · obtain ⟨ad2, hAd2, _, hc2⟩ := (hVw.later hbi).s_at hmlt
            subst hAd2
            have b3 : (0 : Int) ≤ m := by omega
            have b4 : (m : Int) < vars.length := by omega
            have hbs := HBS.out m hmlt
            have q1 : wr.cell? ⟨w.heap.size, 1, none⟩ = some (.slice AH q.head.length cH) := (hQ.later hbi).cell 1
            have HCA : Hid (∀ y : World, Below wr.heap.size wr y → Calls Tryd.prog 47 #[.slice AH q.head.length cH, .string (nm vars m)] y fun e w' => e = .returned (.bool (decide (nm vars m ∈ q.head))) ∧ Below wr.heap.size wr w') := Lib.hid fun y hy => (in9_any AH q.head cH (nm vars m) y (by omega) (hHw.later (bthen hbi hy))).mono fun e w' ⟨he, hw⟩ => ⟨he, by rw [← hw]; exact hy⟩
            have HK : Hid (∀ y : World, Below wr.heap.size wr y → Below wr.heap.size wr y ∧ y.cell? ⟨w.heap.size, 1, none⟩ = some (.slice AH q.head.length cH) ∧ y.cell? (ad2.add m) = some (.string (nm vars m))) := Lib.hid fun y hy => ⟨hy, Tab_cell hy q1, Tab_cell hy hc2⟩
            generalize decide (nm vars m ∈ q.head) = ib at HCA hbs
            generalize nm vars m = y at hc2 HCA HK
            go_upto_region 21 with fail
            go_cut [73] (fun v wx => v = .bool ib ∧ Below wr.heap.size wr wx)
            case first =>
              go_region_held3 (fun x : World => Below wr.heap.size wr x ∧ x.cell? ⟨w.heap.size, 1, none⟩ = some (.slice AH q.head.length cH) ∧ x.cell? (ad2.add m) = some (.string y))
                (first | exact HK.out _ (by assumption) | exact HK.out _ (Below.refl _ _) | exact HK.out _ (Below.refl _ _).drew)
                (first | (go_at_call 47; refine (HCA.out _ (by first | assumption | exact Below.refl _ _ | exact (Below.refl _ _).drew)).mono ?_; rintro e w4 ⟨rfl, hb4⟩))
              all_goals
                go_wp2_with fail
                go_meet
                exact ⟨rfl, by assumption⟩
            case rest =>
              obtain ⟨rfl, hbc⟩ := hcut
              have hbn := bthen hbi hbc
              cases ib
              · have HL := Lib.hid (lows_f S m hbs)
                clear hbs
                go_wp2_with fail
                go_roundw
                case rel => exact ⟨m + 1, by omega, by go_num, by rw [HL.out], hbn⟩
                case measure => simp [intOf]; omega
              · have HL := Lib.hid (lows_t S m hbs)
                clear hbs
                go_wp2_with fail
                go_roundw
                case rel => exact ⟨m + 1, by omega, by go_num, by rw [HL.out], hbn⟩
                case measure => simp [intOf]; omega
          · obtain rfl : m = vars.length := by omega
            rw [HLW.out]
            have hGi := hG.later hbi
            have hRi := hR.later hbi
            have hoEi := own_below hoE hbi
            have hBi := hB.trans (hbi.mono hB.size)
            have g0 : wr.cell? ⟨g7, 0, none⟩ = some (.int .i64 (vars.length : Int)) := hGi.cell 0
            have g1 : wr.cell? ⟨g7, 1, none⟩ = some (.slice A q.atoms.length c) := hGi.cell 1
            have r0 : wr.cell? ⟨w.heap.size + 1, 0, none⟩ = some (.int .i64 0) := hRi.cell 0
            have r1 : wr.cell? ⟨w.heap.size + 1, 1, none⟩ = some (.slice none 0 0) := hRi.cell 1
            have r2 := hRi.frozen 0
            have r3 := hRi.frozen 1
            have r4 := hRi.lt
            have hF := (hRi.set_ 0 (.int .i64 (vars.length : Int))).set_ 1 (.slice A q.atoms.length c)
            have hoF := own_grown hoEi (grown_set9 (grown_set9 (grown_below9 (Below.refl wr.heap.size wr) (some (w.heap.size + 1))) 0 (.int .i64 (vars.length : Int))) 1 (.slice A q.atoms.length c)) fun x hx => by
              injection hx with hx
              subst hx
              exact own_row_ne hoEi hRi (by decide)
            have hBF : Below w.heap.size w ((wr.setCell ⟨w.heap.size + 1, 0, none⟩ (.int .i64 (vars.length : Int))).setCell ⟨w.heap.size + 1, 1, none⟩ (.slice A q.atoms.length c)) := (hBi.setCell (by simp) _).setCell (by simp) _
            have hlen : (ofR vars q.atoms q.atoms.length).length = q.atoms.length := by unfold ofR; simp
            clear HLW HBS hbi hGi hRi hoEi hBi
            go_wp2_with fail
            generalize (wr.setCell _ _).setCell _ _ = wf at hF hoF hBF ⊢
            have z0 : wf.cell? ⟨w.heap.size + 1, 0, none⟩ = some (.int .i64 (vars.length : Int)) := hF.cell 0
            have z1 : wf.cell? ⟨w.heap.size + 1, 1, none⟩ = some (.slice A q.atoms.length c) := hF.cell 1
            refine bodyPost_ret (v := .tuple #[.agg #[.int .i64 (vars.length : Int), .slice A q.atoms.length c], .int .u32 (uz S), .int .i64 0]) (by simp [results, Tryd.results11, go_sem, z0, z1]) rfl ?_
            refine ⟨_, _, ofR vars q.atoms q.atoms.length, _, _, rfl, ?_, HX, hBF⟩
            rw [hlen]
            exact own_less hoF (by omega)
  · have e0 : (shapeC q != 0) = true := by simpa using hs
    have HX : Hid (OfIs q 0 [] 0#32 (shapeC q)) := Lib.hid (.inl ⟨hs, rfl, rfl, rfl, rfl⟩)
    clear hs
    generalize shapeC q = code at e0 HX ⊢
    have hF := (hR1.set_ 0 (.int .i64 0)).set_ 1 (.slice none 0 0)
    have hB2 : Below w.heap.size w ((w1.setCell ⟨w.heap.size + 1, 0, none⟩ (.int .i64 0)).setCell ⟨w.heap.size + 1, 1, none⟩ (.slice none 0 0)) := (hB1.setCell (by simp) _).setCell (by simp) _
    go_wp2_with fail
    generalize (w1.setCell _ _).setCell _ _ = wf at hF hB2 ⊢
    have z0 : wf.cell? ⟨w.heap.size + 1, 0, none⟩ = some (.int .i64 0) := hF.cell 0
    have z1 : wf.cell? ⟨w.heap.size + 1, 1, none⟩ = some (.slice none 0 0) := hF.cell 1
    refine bodyPost_ret (v := .tuple #[.agg #[.int .i64 0, .slice none 0 0], .int .u32 0, .int .i64 code]) (by simp [results, Tryd.results11, go_sem, z0, z1]) rfl ?_
    exact ⟨0, _, [], 0#32, code, rfl, World.ownsRow_nil _ _ _ _, HX, hB2⟩
end Go.Proofs.YtbgbjodehbcgiaaDoor
