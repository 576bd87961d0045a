/- The contracts of query.AtomVars, query.Vars, osierref09.AtomVars. -/
import Derived.Test.YtbgbjodehbcgiaaGreatDoorQStr
namespace Go.Proofs.YtbgbjodehbcgiaaGreatDoor
open Go.RowKit

theorem foldl_snoc {α β : Type} (f : β → α → β) (b : β) (l : List α) (k : Nat) (h : k < l.length) : (l.take (k + 1)).foldl f b = f ((l.take k).foldl f b) l[k] := by
  rw [take_snoc l k h, List.foldl_append]; rfl
theorem addV_skip {L : List ByteArray} {t : Tm} (h : t.var = ByteArray.empty ∨ t.var ∈ L) : addV L t = L := by unfold addV; rw [if_pos h]
theorem addV_new {L : List ByteArray} {t : Tm} (h : ¬ t.var = ByteArray.empty) (h' : ¬ t.var ∈ L) : addV L t = L ++ [t.var] := by unfold addV; rw [if_neg (by simp [h, h'])]
theorem addS_skip {L : List ByteArray} {v : ByteArray} (h : v ∈ L) : addS L v = L := by unfold addS; rw [if_pos h]
theorem addS_new {L : List ByteArray} {v : ByteArray} (h : ¬ v ∈ L) : addS L v = L ++ [v] := by unfold addS; rw [if_neg h]

set_option maxHeartbeats 4000000 in
set_option maxRecDepth 100000 in
theorem atomVars_any (rel : ByteArray) (T : Option Addr) (ts : List Tm) (c : Nat) (w : World) (hl : ts.length ≤ 1000000) (hT : Rd w w.heap.size T (tms ts)) :
    Calls Tryz.prog 73 #[.agg #[.string rel, .slice T ts.length c]] w fun e w' => ∃ v, e = .returned v ∧ w'.ownsRow w.heap.size 9 1 v (avars ts).length (ss (avars ts)) ∧ Below w.heap.size w w' := by
  have HH := Lib.hid has_any9
  go_enter Tryz.func73, Tryz.ntmps73
  go_wp2_with fail
  have hb0 := below_alloc w (.cells #[.string rel, .slice T ts.length c] 65)
  generalize w.alloc _ = w0 at hb0 ⊢
  go_loopw [3, 9] (fun o i wr => ∃ (k : Nat) (L : List ByteArray), k ≤ ts.length ∧ i = .int .i64 k ∧ Hid (L = (ts.take k).foldl addV []) ∧ L.length ≤ k ∧ wr.ownsRow w.heap.size 9 1 o L.length (ss L) ∧ Below w.heap.size w wr) (fun _ i _ => ts.length - (intOf i).toNat)
  case atStart => exact ⟨0, [], Nat.zero_le _, rfl, Lib.hid rfl, Nat.le_refl _, World.ownsRow_nil _ _ _ _, hb0⟩
  case round =>
    obtain ⟨k, L, hk, rfl, hL, hlk, hown, hb⟩ := hrel
    obtain ⟨AL, cL, rfl, _, _, hRL, _⟩ := Rd.of_own hown
    by_cases hlt : k < ts.length
    · obtain ⟨ad, hA, _, hc, hc1, hc2, hc3⟩ := (hT.later hb).t_cells hlt
      subst hA
      have b1 : (0 : Int) ≤ k := by omega
      have b2 : (k : Int) < ts.length := by omega
      have HN : Hid (∀ M, M = addV L (tm ts k) → M = (ts.take (k + 1)).foldl addV []) := Lib.hid fun M h => by rw [foldl_snoc addV [] ts k hlt, ← hL.out, tm_eq ts k hlt]; exact h
      clear hL
      generalize tm ts k = t at hc hc1 hc2 hc3 HN
      have he := isEmpty_empty t.var
      by_cases hv : t.var = ByteArray.empty
      · have HX := Lib.hid (HN.out L (addV_skip (.inl hv)).symm)
        rw [decide_eq_true hv] at he
        clear hv
        go_wp2_with fail
        go_roundw
        case rel => exact ⟨k + 1, L, by omega, by go_num, HX, by omega, own_below hown (below_alloc _ _), hb.alloc hb.size _⟩
        case measure => simp [intOf]; omega
      · rw [decide_eq_false hv] at he
        go_upto_region 5 with fail
        have hb1 := below_alloc wr (.cells #[.string t.var, .int .i64 t.kind, .int .i64 t.num, .string t.text] 113)
        have hR1 : Row (wr.alloc (.cells #[.string t.var, .int .i64 t.kind, .int .i64 t.num, .string t.text] 113)) wr.heap.size 113 [.string t.var, .int .i64 t.kind, .int .i64 t.num, .string t.text] := Row.new _ _ _
        have hown1 := own_below hown hb1
        have hRL1 := hRL.later hb1
        have hB1 := hb.trans (hb1.mono hb.size)
        generalize wr.heap.size = q at hR1 ⊢
        generalize wr.alloc _ = w1 at hR1 hown1 hRL1 hB1 ⊢
        have d0 : w1.cell? ⟨q, 0, none⟩ = some (.string t.var) := hR1.cell 0
        clear hown hRL hb1 hb hc hc1 hc2 hc3
        have HC := Lib.hid (HH.out AL L cL t.var w1 (by omega) hRL1)
        by_cases hm : t.var ∈ L
        · have HX := Lib.hid (HN.out L (addV_skip (.inr hm)).symm)
          rw [decide_eq_true hm] at HC
          clear hm hv
          go_wp2_with fail
          refine HC.out.mono ?_
          rintro e w' ⟨rfl, rfl⟩
          go_wp2_with fail
          go_roundw
          case rel => exact ⟨k + 1, L, by omega, by go_num, HX, by omega, hown1, hB1⟩
          case measure => simp [intOf]; omega
        · have HX := Lib.hid (HN.out (L ++ [t.var]) (addV_new hv hm).symm)
          rw [decide_eq_false hm] at HC
          clear hm hv
          generalize t.var = y at *
          go_wp2_with fail
          refine HC.out.mono ?_
          rintro e w' ⟨rfl, rfl⟩
          go_wp2_with ((with_reducible show wpList _ _ _ _ _ _); refine app_str rfl (.tmp 23) (.tmp 26) rfl w.heap.size _ L y rfl rfl hown1 (by omega) hB1.size ?_)
          intro v' w' hown' hb'
          go_wp2_with fail
          go_roundw
          case rel => exact ⟨k + 1, L ++ [y], by omega, by go_num, HX, by simp; omega, by rw [List.length_append]; exact hown', hB1.trans hb'⟩
          case measure => simp [intOf]; omega
    · obtain rfl : k = ts.length := by omega
      have HE : Hid (L = avars ts) := Lib.hid (by rw [hL.out, List.take_length]; rfl)
      go_wp2_with fail
      go_ret
      exact ⟨_, rfl, by rw [← HE.out]; exact hown, hb⟩

/-- The variables of one atom more. -/
def addA (out : List ByteArray) (a : Am) : List ByteArray := (avars a.terms).foldl addS out
set_option maxHeartbeats 4000000 in
set_option maxRecDepth 100000 in
theorem qvars_any (name : ByteArray) (AH : Option Addr) (nh cH : Nat) (AA : Option Addr) (xs : List Am) (cA : Nat) (w : World) (hl : xs.length ≤ 6) (h5 : ∀ a ∈ xs, a.terms.length ≤ 5) (hA : Ats w w.heap.size AA xs) :
    Calls Tryz.prog 33 #[.agg #[.string name, .slice AH nh cH, .slice AA xs.length cA]] w fun e w' => ∃ v, e = .returned v ∧ w'.ownsRow w.heap.size 9 1 v (qvars xs).length (ss (qvars xs)) ∧ Below w.heap.size w w' := by
  have HH := Lib.hid has_any9
  have HV := Lib.hid atomVars_any
  go_enter Tryz.func33, Tryz.ntmps33
  go_wp2_with fail
  have hb0 := below_alloc w (.cells #[.string name, .slice AH nh cH, .slice AA xs.length cA] 25)
  generalize w.alloc _ = w0 at hb0 ⊢
  go_loopw [3, 11] (fun o i wr => ∃ (k : Nat) (L : List ByteArray), k ≤ xs.length ∧ i = .int .i64 k ∧ Hid (L = (xs.take k).foldl addA []) ∧ L.length ≤ 5 * k ∧ wr.ownsRow w.heap.size 9 1 o L.length (ss L) ∧ Below w.heap.size w wr) (fun _ i _ => xs.length - (intOf i).toNat)
  case atStart => exact ⟨0, [], Nat.zero_le _, rfl, Lib.hid rfl, Nat.le_refl _, World.ownsRow_nil _ _ _ _, hb0⟩
  case round =>
    obtain ⟨k, L, hk, rfl, hL, hlk, hown, hb⟩ := hrel
    by_cases hlt : k < xs.length
    · obtain ⟨ad, hAd, _, hc, T, cT, hc1, hT, _⟩ := (hA.later hb) k hlt
      subst hAd
      have b1 : (0 : Int) ≤ k := by omega
      have b2 : (k : Int) < xs.length := by omega
      have HN : Hid (∀ M, M = addA L (am xs k) → M = (xs.take (k + 1)).foldl addA []) := Lib.hid fun M h => by rw [foldl_snoc addA [] xs k hlt, ← hL.out, am_eq xs k hlt]; exact h
      have h5k := h5 _ (am_mem xs k hlt)
      clear hL
      generalize am xs k = a at hc hc1 hT HN h5k
      obtain ⟨AL, cL, rfl, _, _, _, _⟩ := Rd.of_own hown
      go_upto_region 5 with fail
      have hb1 := below_alloc wr (.cells #[.string a.rel, .slice T a.terms.length cT] 65)
      have hR1 : Row (wr.alloc (.cells #[.string a.rel, .slice T a.terms.length cT] 65)) wr.heap.size 65 [.string a.rel, .slice T a.terms.length cT] := Row.new _ _ _
      have hown1 := own_below hown hb1
      have hT1 := hT.later hb1
      have hB1 := hb.trans (hb1.mono hb.size)
      generalize wr.heap.size = q at hR1 ⊢
      generalize wr.alloc _ = w1 at hR1 hown1 hT1 hB1 ⊢
      have d0 : w1.cell? ⟨q, 0, none⟩ = some (.string a.rel) := hR1.cell 0
      have d1 : w1.cell? ⟨q, 1, none⟩ = some (.slice T a.terms.length cT) := hR1.cell 1
      clear hown hT hb1 hb hc hc1
      have HC := Lib.hid (HV.out a.rel T a.terms cT w1 (by omega) hT1)
      have hml : (avars a.terms).length ≤ 5 := Nat.le_trans (avars_length a.terms) h5k
      have HF : Hid (addA L a = (avars a.terms).foldl addS L) := Lib.hid rfl
      generalize avars a.terms = M at HC hml HF
      go_wp2_with fail
      refine HC.out.mono ?_
      rintro e w2 ⟨v2, rfl, hownM, hb2⟩
      obtain ⟨AM, cM, rfl, _, _, hRM, _⟩ := Rd.of_own hownM
      have hown2 := own_below hown1 hb2
      have hB2 := hB1.trans (hb2.mono hB1.size)
      have hne : ∀ g, (Value.slice AL L.length cL).ownBlock = some g → (Value.slice AM M.length cM).ownBlock ≠ some g := fun g h1 h2 => by
        have := (hown1.lt g h1).2
        have := (hownM.lt g h2).1
        omega
      clear hown1 hB1 hT1 hR1 d0 d1 HC hb2 hRM
      go_wp2_with fail
      go_loopg [3, 18] M.length (fun g o i wi => ∃ (m : Nat) (L2 : List ByteArray), m ≤ M.length ∧ g = M.length - m ∧ i = .int .i64 m ∧ Hid (L2 = (M.take m).foldl addS L) ∧ L2.length ≤ L.length + m ∧ wi.ownsRow w.heap.size 9 1 o L2.length (ss L2) ∧ wi.ownsRow w1.heap.size 9 1 (.slice AM M.length cM) M.length (ss M) ∧ (∀ g, o.ownBlock = some g → (Value.slice AM M.length cM).ownBlock ≠ some g) ∧ Below w.heap.size w wi)
      case atStart => exact ⟨0, L, Nat.zero_le _, rfl, rfl, Lib.hid rfl, Nat.le_refl _, hown2, hownM, hne, hB2⟩
      case round =>
        clear hown2 hownM hne hB2
        obtain ⟨m, L2, hm, rfl, rfl, hL2, hlm, hown2, hownM, hne, hB2⟩ := hrel
        obtain ⟨AL2, cL2, rfl, _, _, hRL2, _⟩ := Rd.of_own hown2
        by_cases hmlt : m < M.length
        · obtain ⟨AM', cM', eM, _, _, hRM, _⟩ := Rd.of_own hownM
          injection eM with e1 _ e2
          subst e1 e2
          obtain ⟨ad2, hAd2, _, hc2⟩ := hRM.s_at hmlt
          subst hAd2
          have b3 : (0 : Int) ≤ m := by omega
          have b4 : (m : Int) < M.length := by omega
          have HN2 : Hid (∀ S, S = addS L2 (nm M m) → S = (M.take (m + 1)).foldl addS L) := Lib.hid fun S h => by rw [foldl_snoc addS L M m hmlt, ← hL2.out, nm_eq M m hmlt]; exact h
          clear hL2
          generalize nm M m = y at hc2 HN2
          have HC := Lib.hid (HH.out AL2 L2 cL2 y wr (by omega) hRL2)
          clear hRM hRL2
          by_cases hy : y ∈ L2
          · have HX := Lib.hid (HN2.out L2 (addS_skip hy).symm)
            rw [decide_eq_true hy] at HC
            clear hy
            go_wp2_with fail
            refine HC.out.mono ?_
            rintro e w' ⟨rfl, rfl⟩
            go_wp2_with fail
            go_roundg (M.length - (m + 1))
            case measure => omega
            case rel => exact ⟨m + 1, L2, by omega, rfl, by go_num, HX, by omega, hown2, hownM, hne, hB2⟩
          · have HX := Lib.hid (HN2.out (L2 ++ [y]) (addS_new hy).symm)
            rw [decide_eq_false hy] at HC
            clear hy
            go_wp2_with fail
            refine HC.out.mono ?_
            rintro e w' ⟨rfl, rfl⟩
            go_wp2_with ((with_reducible show wpList _ _ _ _ _ _); refine app_strG rfl (.tmp 26) (.tmp 28) rfl w.heap.size _ L2 y rfl rfl hown2 (by omega) hB2.size ?_)
            intro v' w' hown' hgr hb' hat
            have hownM' := own_grown hownM hgr (fun g h1 => hne g h1)
            have hne' : ∀ g, v'.ownBlock = some g → (Value.slice (some ad2) M.length cM).ownBlock ≠ some g := fun g h1 h2 => by
              rcases hat with e | ⟨g', e, hge⟩
              · exact hne g (e.symm.trans h1) h2
              · have := (hownM.lt g h2).2
                rw [h1] at e
                injection e with e
                omega
            go_wp2_with fail
            go_roundg (M.length - (m + 1))
            case measure => omega
            case rel => exact ⟨m + 1, L2 ++ [y], by omega, rfl, by go_num, HX, by simp; omega, by rw [List.length_append]; exact hown', hownM', hne', hB2.trans hb'⟩
        · obtain rfl : m = M.length := by omega
          have HX := Lib.hid (HN.out L2 (by rw [HF.out, hL2.out, List.take_length]))
          go_wp2_with fail
          go_roundw
          case rel => exact ⟨k + 1, L2, by omega, by go_num, HX, by omega, hown2, hB2⟩
          case measure => simp [intOf]; omega
    · obtain rfl : k = xs.length := by omega
      have HE : Hid (L = qvars xs) := Lib.hid (by rw [hL.out, List.take_length]; rfl)
      go_wp2_with fail
      go_ret
      exact ⟨_, rfl, by rw [← HE.out]; exact hown, hb⟩
end Go.Proofs.YtbgbjodehbcgiaaGreatDoor
