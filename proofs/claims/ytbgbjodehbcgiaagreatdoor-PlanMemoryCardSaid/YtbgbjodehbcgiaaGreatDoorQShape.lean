/- The contracts of value.Valid, query.badTerm, badName, doubled, unsafeVar. -/
import Derived.Test.YtbgbjodehbcgiaaGreatDoorQFn
import Derived.Test.YtbgbjodehbcgiaaGreatDoorQVars
import Derived.Test.YtbgbjodehbcgiaaGreatDoorQNames
namespace Go.Proofs.YtbgbjodehbcgiaaGreatDoor
open Go.RowKit

set_option maxHeartbeats 4000000 in
set_option maxRecDepth 100000 in
theorem valid9_any (t : Tm) (w : World) :
    Calls Tryz.prog 126 #[.agg #[.int .i64 t.kind, .int .i64 t.num, .string t.text]] w fun e w' => e = .returned (.bool (valB t)) ∧ Below w.heap.size w w' := by
  have HE := Lib.hid (isEmpty_iff t.text)
  by_cases h1 : t.kind = 1
  · have e1 : (t.kind == 1) = true := by simp [h1]
    have HV : Hid (valB t = decide (t.text.size = 0)) := Lib.hid (by unfold valB; rw [if_pos h1])
    have e2 := HE.out
    obtain ⟨b, hb⟩ : ∃ b, decide (t.text.size = 0) = b := ⟨_, rfl⟩
    rw [hb] at e2 HV
    clear hb h1
    rw [HV.out]
    go_enter Tryz.func126, Tryz.ntmps126
    go_wp2_with fail
    go_ret
    exact ⟨rfl, below_alloc _ _⟩
  · have e1 : (t.kind == 1) = false := by simpa using h1
    have HV : Hid (valB t = (decide (t.kind = 2) && decide (t.num = 0) && decide (t.text.size ≤ 64))) := Lib.hid (by unfold valB; rw [if_neg h1])
    by_cases h2 : t.kind = 2
    · have e2 : (t.kind == 2) = true := by simp [h2]
      by_cases h3 : t.num = 0
      · have e3 : (t.num == 0) = true := by simp [h3]
        have HW : Hid (valB t = decide ((t.text.size : Int) ≤ 64)) := Lib.hid (by
          rw [HV.out, decide_eq_true h2, decide_eq_true h3, Bool.true_and, Bool.true_and, Bool.eq_iff_iff, decide_eq_true_eq, decide_eq_true_eq]; omega)
        clear h1 h2 h3
        go_enter Tryz.func126, Tryz.ntmps126
        go_wp2_with fail
        go_ret
        exact ⟨congrArg (fun b => Ending.returned (.bool b)) HW.out.symm, below_alloc _ _⟩
      · have e3 : (t.num == 0) = false := by simpa using h3
        have HW : Hid (valB t = false) := Lib.hid (by rw [HV.out, decide_eq_true h2, decide_eq_false h3]; rfl)
        clear h1 h2 h3
        go_enter Tryz.func126, Tryz.ntmps126
        go_wp2_with fail
        go_ret
        exact ⟨congrArg (fun b => Ending.returned (.bool b)) HW.out.symm, below_alloc _ _⟩
    · have e2 : (t.kind == 2) = false := by simpa using h2
      have HW : Hid (valB t = false) := Lib.hid (by rw [HV.out, decide_eq_false h2]; rfl)
      clear h1 h2
      go_enter Tryz.func126, Tryz.ntmps126
      go_wp2_with fail
      go_ret
      exact ⟨congrArg (fun b => Ending.returned (.bool b)) HW.out.symm, below_alloc _ _⟩

theorem toList_nil (s : ByteArray) : s.toList = [] ↔ s = ByteArray.empty := by
  rw [ByteArray.toList_eq, Array.toList_eq_nil_iff]
  constructor
  · intro h; exact ByteArray.ext h
  · rintro rfl; rfl
set_option maxHeartbeats 4000000 in
set_option maxRecDepth 100000 in
theorem badTerm_any (t : Tm) (w : World) :
    Calls Tryz.prog 105 #[.agg #[.string t.var, .int .i64 t.kind, .int .i64 t.num, .string t.text]] w fun e w' => e = .returned (.bool (!termB t)) ∧ Below w.heap.size w w' := by
  have HE := Lib.hid (isEmpty_empty t.var)
  have HVA := Lib.hid (valid9_any t)
  by_cases h0 : t.var = ByteArray.empty
  · have e1 := HE.out
    rw [decide_eq_true h0] at e1
    have HT : Hid (termB t = valB t) := Lib.hid (by unfold termB; rw [if_pos h0])
    clear h0
    rw [HT.out]
    go_enter Tryz.func105, Tryz.ntmps105
    go_wp2_with fail
    refine (HVA.out _).mono ?_
    rintro e w1 ⟨rfl, hb⟩
    go_wp2_with fail
    go_ret
    exact ⟨rfl, (below_alloc _ _).trans (hb.mono (by simp))⟩
  · have e1 := HE.out
    rw [decide_eq_false h0] at e1
    have HT : Hid (termB t = (decide (t.kind = 0) && decide (t.num = 0) && decide (t.text = ByteArray.empty))) := Lib.hid (by unfold termB; rw [if_neg h0])
    clear h0
    go_enter Tryz.func105, Tryz.ntmps105
    go_wp2_with fail
    all_goals
      go_ret
      refine ⟨congrArg (fun b => Ending.returned (.bool b)) ?_, below_alloc _ _⟩
      rw [HT.out]
      have hx := toList_nil t.text
      simp_all

/-! ### Names -/
theorem badName1_any (s : ByteArray) (w : World) (hs : s.size ≤ 9223372036854775807) :
    Calls Tryz.prog 124 #[.string s] w fun e w' => e = .returned (.bool (!nameB s)) ∧ w = w' := by
  have HI := Lib.hid (isName_any s w hs)
  go_enter Tryz.func124, Tryz.ntmps124
  go_wp2_with fail
  refine HI.out.mono ?_
  rintro e w1 ⟨rfl, rfl⟩
  go_wp2_with fail
  go_ret
  exact ⟨rfl, rfl⟩
theorem enter_badName1 (args : Array Value) (w : World) : (callFunc 124 args).run Tryz.prog w = .ok (.enter 124 args) w := by
  go_simp
/-- The first places of a list that have a property, as a walk sums them up. -/
theorem anyTo_next (p : Nat → Bool) (k : Nat) : anyTo p (k + 1) = (anyTo p k || p k) := by
  unfold anyTo; rw [List.range_succ, List.any_append]; simp
theorem anyTo_zero (p : Nat → Bool) : anyTo p 0 = false := rfl
theorem all_anyTo {α : Type} (l : List α) (q : α → Bool) (f : Nat → α) (hf : ∀ k (h : k < l.length), l[k] = f k) : l.all q = !anyTo (fun k => !q (f k)) l.length := by
  cases h : anyTo (fun k => !q (f k)) l.length
  · rw [show (!false) = true from rfl, List.all_eq_true]
    · intro x hx
      obtain ⟨k, hk, rfl⟩ := List.getElem_of_mem hx
      rw [hf k hk]
      cases hq : q (f k)
      · have := (anyTo_iff (p := fun k => !q (f k)) (n := l.length)).2 ⟨k, hk, by simp [hq]⟩
        rw [h] at this; cases this
      · rfl
  · obtain ⟨k, hk, h2⟩ := anyTo_iff.1 h
    rw [show (!true) = false from rfl, List.all_eq_false]
    exact ⟨l[k], List.getElem_mem hk, by rw [hf k hk]; simpa using h2⟩
def badN (xs : List Am) (k : Nat) : Bool := !anameB (am xs k)
def badT (ts : List Tm) (k : Nat) : Bool := !tnameB (tm ts k)
theorem namesB_eq (q : Qy) : (!namesB q) = ((!nameB q.name || anyTo (fun k => !nameB (nm q.head k)) q.head.length) || anyTo (badN q.atoms) q.atoms.length) := by
  unfold namesB
  rw [all_anyTo q.head nameB (nm q.head) (fun k h => nm_eq _ k h), all_anyTo q.atoms anameB (am q.atoms) (fun k h => am_eq _ k h)]
  unfold badN
  cases nameB q.name <;> cases anyTo (fun k => !nameB (nm q.head k)) q.head.length <;> cases anyTo (fun k => !anameB (am q.atoms k)) q.atoms.length <;> rfl
theorem badN_eq (xs : List Am) (k : Nat) : badN xs k = (!nameB (am xs k).rel || anyTo (badT (am xs k).terms) (am xs k).terms.length) := by
  unfold badN anameB
  rw [all_anyTo (am xs k).terms tnameB (tm (am xs k).terms) (fun k h => tm_eq _ k h)]
  unfold badT
  cases nameB (am xs k).rel <;> cases anyTo (fun j => !tnameB (tm (am xs k).terms j)) (am xs k).terms.length <;> rfl

set_option maxHeartbeats 8000000 in
set_option maxRecDepth 100000 in
theorem badName_any (q : Qy) (AH : Option Addr) (cH : Nat) (AA : Option Addr) (cA : Nat) (w : World) (hq : SzQ q) (hH : Rd w w.heap.size AH (ss q.head)) (hA : Ats w w.heap.size AA q.atoms) :
    Calls Tryz.prog 102 #[.agg #[.string q.name, .slice AH q.head.length cH, .slice AA q.atoms.length cA]] w fun e w' => e = .returned (.bool (!namesB q)) ∧ Below w.heap.size w w' := by
  rw [namesB_eq q]
  obtain ⟨name, head, xs⟩ := q
  have hfh := hq.few
  have hfa := hq.fewA
  have hat := hq.atoms
  have hn := hq.name
  have hhd := hq.head
  clear hq
  simp only at hfh hfa hat hH hA hn hhd ⊢
  have HIN : Hid (∀ s (wr : World), s.size ≤ 9223372036854775807 → Calls Tryz.prog 122 #[.string s] wr fun e w' => e = .returned (.bool (nameB s)) ∧ wr = w') := Lib.hid fun s wr h => isName_any s wr h
  obtain ⟨b0, hb0⟩ : ∃ b, (!nameB name || anyTo (fun k => !nameB (nm head k)) head.length) = b := ⟨_, rfl⟩
  rw [hb0]
  go_enter Tryz.func102, Tryz.ntmps102
  go_upto_region 1 with fail
  have hb1 := below_alloc w (.cells #[.string name, .slice AH head.length cH, .slice AA xs.length cA] 25)
  have hQ1 : Row (w.alloc (.cells #[.string name, .slice AH head.length cH, .slice AA xs.length cA] 25)) w.heap.size 25 [.string name, .slice AH head.length cH, .slice AA xs.length cA] := Row.new _ _ _
  generalize w.alloc _ = w1 at hb1 hQ1 ⊢
  have hH1 := hH.later hb1
  have q0 : w1.cell? ⟨w.heap.size, 0, none⟩ = some (.string name) := hQ1.cell 0
  have q1 : w1.cell? ⟨w.heap.size, 1, none⟩ = some (.slice AH head.length cH) := hQ1.cell 1
  have HCF : Hid (Calls Tryz.prog 123 #[.slice AH head.length cH, .func (.func 124) #[] #[]] w1 fun e w' => e = .returned (.bool (anyTo (fun k => !nameB (nm head k)) head.length)) ∧ Below w1.heap.size w1 w') := Lib.hid (by
    refine containsFn_str 124 #[] (fun k => !nameB (nm head k)) AH head cH w1 (by omega) hH1 enter_badName1 (fun k hk wr hb => ?_)
    refine (badName1_any (nm head k) wr (hhd _ (nm_mem head k hk))).mono ?_
    rintro e w' ⟨he, rfl⟩
    exact ⟨he, Below.refl _ _⟩)
  go_cut [3] (fun v wc => v = .bool b0 ∧ Below w1.heap.size w1 wc)
  case first =>
    have HI1 := Lib.hid (HIN.out name w1 hn)
    cases hnb : nameB name
    · have HB : Hid (true = b0) := Lib.hid (by rw [← hb0, hnb]; rfl)
      rw [hnb] at HI1
      clear hnb hb0
      go_wp2_with fail
      refine HI1.out.mono ?_
      rintro e w2 ⟨rfl, rfl⟩
      go_wp2_with fail
      go_meet
      exact ⟨by rw [HB.out], Below.refl _ _⟩
    · have HB : Hid (anyTo (fun k => !nameB (nm head k)) head.length = b0) := Lib.hid (by rw [← hb0, hnb]; rfl)
      rw [hnb] at HI1
      clear hnb hb0
      rw [HB.out] at HCF
      go_wp2_with fail
      refine HI1.out.mono ?_
      rintro e w2 ⟨rfl, rfl⟩
      go_wp2_with fail
      refine HCF.out.mono ?_
      rintro e w2 ⟨rfl, hb2⟩
      go_wp2_with fail
      go_meet
      exact ⟨rfl, hb2⟩
  case rest =>
    obtain ⟨rfl, hb2⟩ := hcut
    obtain ⟨wb, hwb⟩ : ∃ wb : World, wb = wc := ⟨_, rfl⟩
    subst hwb
    have hB2 := bthen hb1 hb2
    have hQ2 := hQ1.later hb2
    have hA2 := hA.later hB2
    have q2 : wb.cell? ⟨w.heap.size, 2, none⟩ = some (.slice AA xs.length cA) := hQ2.cell 2
    clear hb1 hb2 hQ1 hQ2 hA hH1 q0 q1 HCF hb0 hH
    go_wp2_with fail
    go_loopw [3, 20] (fun v i wr => ∃ (k : Nat) (b : Bool), k ≤ xs.length ∧ i = .int .i64 k ∧ v = .bool b ∧ Hid (b = (b0 || anyTo (badN xs) k)) ∧ Below wb.heap.size wb wr) (fun _ i _ => xs.length - (intOf i).toNat)
    case atStart => exact ⟨0, b0, Nat.zero_le _, rfl, rfl, Lib.hid (by rw [anyTo_zero, Bool.or_false]), Below.refl _ _⟩
    case round =>
      obtain ⟨k, b, hk, rfl, rfl, hbk, hb⟩ := hrel
      by_cases hlt : k < xs.length
      · obtain ⟨ad, hAd, _, hc, T, cT, hc1, hT, _⟩ := (hA2.later hb) k hlt
        subst hAd
        have b1 : (0 : Int) ≤ k := by omega
        have b2 : (k : Int) < xs.length := by omega
        have HN : Hid (∀ b', b' = (b || badN xs k) → b' = (b0 || anyTo (badN xs) (k + 1))) := Lib.hid fun b' h => by rw [h, hbk.out, anyTo_next, Bool.or_assoc]
        have hsz := hat _ (am_mem xs k hlt)
        have HBN := Lib.hid (badN_eq xs k)
        clear hbk
        generalize hbn : badN xs k = bn at HN HBN
        clear hbn
        generalize am xs k = a at hc hc1 hT HBN hsz
        obtain ⟨hrel, hfew, htm⟩ := hsz
        go_upto_region 5 with fail
        have hb3 := below_alloc wr (.cells #[.string a.rel, .slice T a.terms.length cT] 65)
        have hR3 : Row (wr.alloc (.cells #[.string a.rel, .slice T a.terms.length cT] 65)) wr.heap.size 65 [.string a.rel, .slice T a.terms.length cT] := Row.new _ _ _
        have hT3 := hT.later hb3
        have hB3 := bthen hb hb3
        generalize wr.heap.size = g at hR3 ⊢
        generalize wr.alloc _ = w3 at hR3 hT3 hB3 ⊢
        have d0 : w3.cell? ⟨g, 0, none⟩ = some (.string a.rel) := hR3.cell 0
        have d1 : w3.cell? ⟨g, 1, none⟩ = some (.slice T a.terms.length cT) := hR3.cell 1
        have HI3 := Lib.hid (HIN.out a.rel w3 hrel)
        clear hb3 hT hb hc hc1 hR3
        go_cut [3] (fun v wx => v = .bool (b || !nameB a.rel) ∧ w3 = wx)
        case first =>
          cases b
          · go_wp2_with fail
            refine HI3.out.mono ?_
            rintro e w' ⟨rfl, rfl⟩
            go_wp2_with fail
            go_meet
            exact ⟨rfl, rfl⟩
          · go_wp2_with fail
            go_meet
            exact ⟨rfl, rfl⟩
        case rest =>
          obtain ⟨rfl, hwx⟩ := hcut
          subst hwx
          obtain ⟨bb, hbb⟩ : ∃ bb, (b || !nameB a.rel) = bb := ⟨_, rfl⟩
          have HM : Hid (∀ b', b' = (bb || anyTo (badT a.terms) a.terms.length) → b' = (b0 || anyTo (badN xs) (k + 1))) := Lib.hid fun b' h => HN.out b' (by rw [h, HBN.out, ← hbb, Bool.or_assoc])
          rw [hbb]
          clear HI3 hbb HN HBN d0
          go_wp2_with fail
          go_loopg [3, 34] a.terms.length (fun g' v i wi => ∃ (m : Nat) (b : Bool), m ≤ a.terms.length ∧ g' = a.terms.length - m ∧ i = .int .i64 m ∧ v = .bool b ∧ Hid (b = (bb || anyTo (badT a.terms) m)) ∧ Below wb.heap.size wb wi ∧ Rd wi wi.heap.size T (tms a.terms))
          case atStart => exact ⟨0, bb, Nat.zero_le _, rfl, rfl, rfl, Lib.hid (by rw [anyTo_zero, Bool.or_false]), hB3, hT3⟩
          case round =>
            clear hT3 hB3
            obtain ⟨m, b, hm, rfl, rfl, rfl, hbm, hB3, hT3⟩ := hrel
            by_cases hmlt : m < a.terms.length
            · obtain ⟨ad2, hAd2, _, hc, hc1, hc2, hc3⟩ := hT3.t_cells hmlt
              subst hAd2
              have b3 : (0 : Int) ≤ m := by omega
              have b4 : (m : Int) < a.terms.length := by omega
              have HN2 : Hid (∀ b', b' = (b || badT a.terms m) → b' = (bb || anyTo (badT a.terms) (m + 1))) := Lib.hid fun b' h => by rw [h, hbm.out, anyTo_next, Bool.or_assoc]
              have hts := (htm _ (tm_mem a.terms m hmlt)).var
              have HBT : Hid (badT a.terms m = !(decide ((tm a.terms m).var = ByteArray.empty) || nameB (tm a.terms m).var)) := Lib.hid rfl
              clear hbm
              generalize hbn : badT a.terms m = bn at HN2 HBT
              clear hbn
              generalize tm a.terms m = t at hc hc1 hc2 hc3 HBT hts
              have he := isEmpty_empty t.var
              have hB4 := hB3.alloc hB3.size (.cells #[.string t.var, .int .i64 t.kind, .int .i64 t.num, .string t.text] 113)
              have hT4 := hT3.later (below_alloc wr (.cells #[.string t.var, .int .i64 t.kind, .int .i64 t.num, .string t.text] 113))
              cases b
              · by_cases hv : t.var = ByteArray.empty
                · have HX := Lib.hid (HN2.out false (by rw [HBT.out, decide_eq_true hv]; rfl))
                  rw [decide_eq_true hv] at he
                  clear hv
                  go_wp2_with fail
                  go_roundg (a.terms.length - (m + 1))
                  case measure => omega
                  case rel => exact ⟨m + 1, false, by omega, rfl, by go_num, rfl, HX, hB4, hT4⟩
                · have HX := Lib.hid (HN2.out (!nameB t.var) (by rw [HBT.out, decide_eq_false hv]; rfl))
                  rw [decide_eq_false hv] at he
                  have HI4 := Lib.hid (HIN.out t.var (wr.alloc (.cells #[.string t.var, .int .i64 t.kind, .int .i64 t.num, .string t.text] 113)) hts)
                  clear hv
                  go_wp2_with fail
                  refine HI4.out.mono ?_
                  rintro e w' ⟨rfl, rfl⟩
                  go_wp2_with fail
                  go_roundg (a.terms.length - (m + 1))
                  case measure => omega
                  case rel => exact ⟨m + 1, !nameB t.var, by omega, rfl, by go_num, rfl, HX, hB4, hT4⟩
              · have HX := Lib.hid (HN2.out true (by rw [Bool.true_or]))
                go_wp2_with fail
                go_roundg (a.terms.length - (m + 1))
                case measure => omega
                case rel => exact ⟨m + 1, true, by omega, rfl, by go_num, rfl, HX, hB4, hT4⟩
            · obtain rfl : m = a.terms.length := by omega
              have HX := Lib.hid (HM.out b hbm.out)
              go_wp2_with fail
              go_roundw
              case measure => simp [intOf]; omega
              case rel => exact ⟨k + 1, b, by omega, by go_num, rfl, HX, hB3⟩
      · obtain rfl : k = xs.length := by omega
        go_wp2_with fail
        go_ret
        exact ⟨congrArg (fun z => Ending.returned (.bool z)) hbk.out, hB2.trans (hb.mono hB2.size)⟩
end Go.Proofs.YtbgbjodehbcgiaaGreatDoor
