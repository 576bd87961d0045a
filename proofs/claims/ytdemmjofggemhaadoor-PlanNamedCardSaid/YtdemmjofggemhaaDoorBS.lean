/- Several texts in one: QNames QShape QShape2 QShape3. -/
import Derived.Test.YtdemmjofggemhaaDoorBQ
import Derived.Test.YtdemmjofggemhaaDoorQFn
/- The contracts of what asks whether a text is a name: lex.isLetter, isDigit, nameEnd, IsName; osierref07.among, run, IsName. -/
namespace Go.Proofs.YtdemmjofggemhaaDoor
open Go.RowKit

theorem isLetter_any (c : Int) (w : World) : Calls Tryd.prog 80 #[.int .u8 c] w fun e w' => e = .returned (.bool (letB c)) ∧ w = w' := by
  go_enter Tryd.func80, Tryd.ntmps80
  go_wp2
  all_goals
    go_ret
    refine ⟨congrArg (fun b => Ending.returned (.bool b)) ?_, rfl⟩
    unfold letB
    first | (simp [*]; done) | (rw [Bool.eq_iff_iff]; simp only [Bool.and_eq_true, Bool.or_eq_true, decide_eq_true_eq, beq_iff_eq]; omega)
theorem isDigit_any (c : Int) (w : World) : Calls Tryd.prog 93 #[.int .u8 c] w fun e w' => e = .returned (.bool (digB c)) ∧ w = w' := by
  go_enter Tryd.func93, Tryd.ntmps93
  go_wp2
  all_goals
    go_ret
    refine ⟨congrArg (fun b => Ending.returned (.bool b)) ?_, rfl⟩
    unfold digB
    first | (simp [*]; done) | (rw [decide_eq_false (by omega)]; rfl)
theorem byt_eq (s : ByteArray) (k : Nat) (h : k < s.size) : (((s[k]'h).toNat : Nat) : Int) = byt s k := by
  unfold byt
  simp only [Array.getD]
  rw [dif_pos (show k < s.data.size from h)]
  rfl
/-- How far a name's bytes go. -/
def EndAt (s : ByteArray) (n : Nat) : Prop := n ≤ s.size ∧ (∀ i, i < n → ldB (byt s i) = true) ∧ (n < s.size → ldB (byt s n) = false)
theorem nameEnd_any (s : ByteArray) (w : World) (hs : s.size ≤ 9223372036854775807) : Calls Tryd.prog 81 #[.string s, .int .i64 0] w fun e w' => ∃ n : Nat, e = .returned (.int .i64 n) ∧ Hid (EndAt s n) ∧ w = w' := by
  have HL := Lib.hid isLetter_any
  have HD := Lib.hid isDigit_any
  go_enter Tryd.func81, Tryd.ntmps81
  go_wp2_with fail
  go_loop [1] (fun i => ∃ k : Nat, k ≤ s.size ∧ i = .int .i64 k ∧ Hid (∀ j, j < k → ldB (byt s j) = true)) (fun i => s.size - (intOf i).toNat)
  case atStart => exact ⟨0, Nat.zero_le _, rfl, Lib.hid fun j hj => absurd hj (Nat.not_lt_zero _)⟩
  case round =>
    obtain ⟨k, hk, rfl, hall⟩ := hrel
    by_cases hlt : k < s.size
    · have b1 : (0 : Int) ≤ k := by omega
      have b2 : (k : Int) < s.size := by omega
      have HX := Lib.hid (byt_eq s k hlt)
      obtain ⟨lb, hlb⟩ : ∃ b, letB (byt s k) = b := ⟨_, rfl⟩
      obtain ⟨gb, hgb⟩ : ∃ b, digB (byt s k) = b := ⟨_, rfl⟩
      have HLB := Lib.hid hlb
      have HGB := Lib.hid hgb
      have HN : Hid (lb = true ∨ gb = true → ∀ j, j < k + 1 → ldB (byt s j) = true) := Lib.hid fun h j hj => by
        rcases Nat.lt_or_ge j k with d | d
        · exact hall.out j d
        · obtain rfl : j = k := by omega
          unfold ldB
          rw [HLB.out, HGB.out]
          simpa using h
      have HE : Hid (lb = false → gb = false → EndAt s k) := Lib.hid fun h1 h2 => ⟨hk, hall.out, fun _ => by unfold ldB; rw [HLB.out, HGB.out, h1, h2]; rfl⟩
      have HL2 : Hid (∀ wr : World, Calls Tryd.prog 80 #[.int .u8 (byt s k)] wr fun e w' => e = .returned (.bool lb) ∧ wr = w') := Lib.hid fun wr => by
        have := HL.out (byt s k) wr
        rwa [HLB.out] at this
      have HD2 : Hid (∀ wr : World, Calls Tryd.prog 93 #[.int .u8 (byt s k)] wr fun e w' => e = .returned (.bool gb) ∧ wr = w') := Lib.hid fun wr => by
        have := HD.out (byt s k) wr
        rwa [HGB.out] at this
      clear hlb hgb hall
      rw [← HX.out] at HL2 HD2
      cases lb
      · cases gb
        · have HC := Lib.hid (HE.out rfl rfl)
          go_wp2_with fail
          refine (HL2.out _).mono ?_
          rintro e w' ⟨rfl, rfl⟩
          go_wp2_with fail
          refine (HD2.out _).mono ?_
          rintro e w' ⟨rfl, rfl⟩
          go_wp2_with fail
          go_ret
          exact ⟨k, rfl, HC, rfl⟩
        · have HC := Lib.hid (HN.out (.inr rfl))
          go_wp2_with fail
          refine (HL2.out _).mono ?_
          rintro e w' ⟨rfl, rfl⟩
          go_wp2_with fail
          refine (HD2.out _).mono ?_
          rintro e w' ⟨rfl, rfl⟩
          go_wp2_with fail
          go_round
          case rel => exact ⟨k + 1, by omega, by go_num, HC⟩
          case measure => simp [intOf]; omega
      · have HC := Lib.hid (HN.out (.inl rfl))
        go_wp2_with fail
        refine (HL2.out _).mono ?_
        rintro e w' ⟨rfl, rfl⟩
        go_wp2_with fail
        go_round
        case rel => exact ⟨k + 1, by omega, by go_num, HC⟩
        case measure => simp [intOf]; omega
    · have HE : Hid (EndAt s k) := Lib.hid ⟨hk, hall.out, fun h => absurd h hlt⟩
      go_wp2_with fail
      go_ret
      exact ⟨k, rfl, HE, rfl⟩

theorem nameB_of {s : ByteArray} {n : Nat} (h : EndAt s n) (h0 : 1 ≤ s.size) : nameB s = (letB (byt s 0) && (decide (n = s.size) && decide (s.size ≤ 16))) := by
  have e : ((List.range s.size).all fun i => ldB (byt s i)) = decide (n = s.size) := by
    rw [Bool.eq_iff_iff, List.all_eq_true, decide_eq_true_eq]
    constructor
    · intro k
      apply Classical.byContradiction
      intro hn
      have hlt : n < s.size := by have := h.1; omega
      have := k n (List.mem_range.2 hlt)
      rw [h.2.2 hlt] at this; cases this
    · rintro rfl x hx
      exact h.2.1 x (List.mem_range.1 hx)
  unfold nameB
  rw [e, decide_eq_true h0]
  cases letB (byt s 0) <;> cases decide (n = s.size) <;> cases decide (s.size ≤ 16) <;> rfl
theorem endAt_exists (s : ByteArray) : ∃ n, EndAt s n := by
  have key : ∀ m, m ≤ s.size → (∀ i, i < m → ldB (byt s i) = true) ∨ ∃ n, EndAt s n := by
    intro m
    induction m with
    | zero => intro _; exact .inl fun i hi => absurd hi (Nat.not_lt_zero _)
    | succ m ih =>
      intro hm
      rcases ih (by omega) with k | k
      · cases e : ldB (byt s m)
        · exact .inr ⟨m, by omega, k, fun _ => e⟩
        · refine .inl fun i hi => ?_
          rcases Nat.lt_or_ge i m with d | d
          · exact k i d
          · obtain rfl : i = m := by omega
            exact e
      · exact .inr k
  rcases key s.size (Nat.le_refl _) with k | k
  · exact ⟨s.size, Nat.le_refl _, k, fun h => absurd h (Nat.lt_irrefl _)⟩
  · exact k
theorem nameB_empty {s : ByteArray} (h0 : s.size = 0) : nameB s = false := by
  unfold nameB
  rw [decide_eq_false (by omega)]; rfl
theorem isEmpty_iff (s : ByteArray) : s.toList.isEmpty = decide (s.size = 0) := by
  rw [ByteArray.toList_eq, Bool.eq_iff_iff, List.isEmpty_iff, decide_eq_true_eq, Array.toList_eq_nil_iff]
  exact Array.size_eq_zero_iff.symm
set_option maxRecDepth 100000 in
theorem isName_any (s : ByteArray) (w : World) (hs : s.size ≤ 9223372036854775807) : Calls Tryd.prog 69 #[.string s] w fun e w' => e = .returned (.bool (nameB s)) ∧ w = w' := by
  have HL := Lib.hid isLetter_any
  have HD := Lib.hid (nameEnd_any s w hs)
  have he := isEmpty_iff s
  by_cases h0 : s.size = 0
  · rw [decide_eq_true h0] at he
    rw [nameB_empty h0]
    clear h0
    go_enter Tryd.func69, Tryd.ntmps69
    go_wp2_with fail
    go_ret
    exact ⟨rfl, rfl⟩
  · rw [decide_eq_false h0] at he
    have h1 : 0 < s.size := by omega
    have b2 : (0 : Int) < s.size := by omega
    have HX := Lib.hid (byt_eq s 0 h1)
    have HN := Lib.hid (fun n h => nameB_of (s := s) (n := n) h (by omega))
    have HL2 := Lib.hid (fun wr => HL.out (byt s 0) wr)
    have HEX := Lib.hid (endAt_exists s)
    clear h0
    obtain ⟨lb, hlb⟩ : ∃ b, letB (byt s 0) = b := ⟨_, rfl⟩
    rw [hlb] at HL2 HN
    clear hlb
    rw [← HX.out] at HL2
    go_enter Tryd.func69, Tryd.ntmps69
    cases lb
    · have HF : Hid (nameB s = false) := Lib.hid (by obtain ⟨n, hn⟩ := HEX.out; rw [HN.out n hn]; rfl)
      rw [HF.out]
      go_wp2_with fail
      refine (HL2.out _).mono ?_
      rintro e w' ⟨rfl, rfl⟩
      go_wp2_with fail
      go_ret
      exact ⟨rfl, rfl⟩
    · go_wp2_with fail
      refine (HL2.out _).mono ?_
      rintro e w' ⟨rfl, rfl⟩
      go_wp2_with fail
      refine HD.out.mono ?_
      rintro e w' ⟨n, rfl, hn, rfl⟩
      by_cases hns : n = s.size
      · have e1 : ((n : Int) == (s.size : Int)) = true := by simp [hns]
        have HF : Hid (nameB s = decide ((s.size : Int) ≤ 16)) := Lib.hid (by rw [HN.out n hn.out, decide_eq_true hns, Bool.true_and, Bool.true_and, Bool.eq_iff_iff, decide_eq_true_eq, decide_eq_true_eq]; omega)
        clear hns hn
        go_wp2_with fail
        go_ret
        exact ⟨congrArg (fun b => Ending.returned (.bool b)) HF.out.symm, rfl⟩
      · have e1 : ((n : Int) == (s.size : Int)) = false := by rw [beq_eq_false_iff_ne]; omega
        have HF : Hid (nameB s = false) := Lib.hid (by rw [HN.out n hn.out, decide_eq_false hns]; rfl)
        clear hns hn
        go_wp2_with fail
        go_ret
        exact ⟨congrArg (fun b => Ending.returned (.bool b)) HF.out.symm, rfl⟩
end Go.Proofs.YtdemmjofggemhaaDoor

/- The contracts of value.Valid, query.badTerm, badName, doubled, unsafeVar. -/
namespace Go.Proofs.YtdemmjofggemhaaDoor
open Go.RowKit

set_option maxHeartbeats 4000000 in
set_option maxRecDepth 100000 in
theorem valid9_any (t : Tm) (w : World) :
    Calls Tryd.prog 73 #[.agg #[.int .i64 t.kind, .int .i64 t.num, .string t.text]] w fun e w' => e = .returned (.bool (valB t)) ∧ Below w.heap.size w w' := by
  have HE := Lib.hid (isEmpty_iff t.text)
  by_cases h1 : t.kind = 1
  · have e1 : (t.kind == 1) = true := by simp [h1]
    have HV : Hid (valB t = decide (t.text.size = 0)) := Lib.hid (by unfold valB; rw [if_pos h1])
    have e2 := HE.out
    obtain ⟨b, hb⟩ : ∃ b, decide (t.text.size = 0) = b := ⟨_, rfl⟩
    rw [hb] at e2 HV
    clear hb h1
    rw [HV.out]
    go_enter Tryd.func73, Tryd.ntmps73
    go_wp2_with fail
    go_ret
    exact ⟨rfl, below_alloc _ _⟩
  · have e1 : (t.kind == 1) = false := by simpa using h1
    have HV : Hid (valB t = (decide (t.kind = 2) && decide (t.num = 0) && decide (t.text.size ≤ 64))) := Lib.hid (by unfold valB; rw [if_neg h1])
    by_cases h2 : t.kind = 2
    · have e2 : (t.kind == 2) = true := by simp [h2]
      by_cases h3 : t.num = 0
      · have e3 : (t.num == 0) = true := by simp [h3]
        have HW : Hid (valB t = decide ((t.text.size : Int) ≤ 64)) := Lib.hid (by
          rw [HV.out, decide_eq_true h2, decide_eq_true h3, Bool.true_and, Bool.true_and, Bool.eq_iff_iff, decide_eq_true_eq, decide_eq_true_eq]; omega)
        clear h1 h2 h3
        go_enter Tryd.func73, Tryd.ntmps73
        go_wp2_with fail
        go_ret
        exact ⟨congrArg (fun b => Ending.returned (.bool b)) HW.out.symm, below_alloc _ _⟩
      · have e3 : (t.num == 0) = false := by simpa using h3
        have HW : Hid (valB t = false) := Lib.hid (by rw [HV.out, decide_eq_true h2, decide_eq_false h3]; rfl)
        clear h1 h2 h3
        go_enter Tryd.func73, Tryd.ntmps73
        go_wp2_with fail
        go_ret
        exact ⟨congrArg (fun b => Ending.returned (.bool b)) HW.out.symm, below_alloc _ _⟩
    · have e2 : (t.kind == 2) = false := by simpa using h2
      have HW : Hid (valB t = false) := Lib.hid (by rw [HV.out, decide_eq_false h2]; rfl)
      clear h1 h2
      go_enter Tryd.func73, Tryd.ntmps73
      go_wp2_with fail
      go_ret
      exact ⟨congrArg (fun b => Ending.returned (.bool b)) HW.out.symm, below_alloc _ _⟩

theorem toList_nil (s : ByteArray) : s.toList = [] ↔ s = ByteArray.empty := by
  rw [ByteArray.toList_eq, Array.toList_eq_nil_iff]
  constructor
  · intro h; exact ByteArray.ext h
  · rintro rfl; rfl
set_option maxHeartbeats 4000000 in
set_option maxRecDepth 100000 in
theorem badTerm_any (t : Tm) (w : World) :
    Calls Tryd.prog 56 #[.agg #[.string t.var, .int .i64 t.kind, .int .i64 t.num, .string t.text]] w fun e w' => e = .returned (.bool (!termB t)) ∧ Below w.heap.size w w' := by
  have HE := Lib.hid (isEmpty_empty t.var)
  have HVA := Lib.hid (valid9_any t)
  by_cases h0 : t.var = ByteArray.empty
  · have e1 := HE.out
    rw [decide_eq_true h0] at e1
    have HT : Hid (termB t = valB t) := Lib.hid (by unfold termB; rw [if_pos h0])
    clear h0
    rw [HT.out]
    go_enter Tryd.func56, Tryd.ntmps56
    go_wp2_with fail
    refine (HVA.out _).mono ?_
    rintro e w1 ⟨rfl, hb⟩
    go_wp2_with fail
    go_ret
    exact ⟨rfl, (below_alloc _ _).trans (hb.mono (by simp))⟩
  · have e1 := HE.out
    rw [decide_eq_false h0] at e1
    have HT : Hid (termB t = (decide (t.kind = 0) && decide (t.num = 0) && decide (t.text = ByteArray.empty))) := Lib.hid (by unfold termB; rw [if_neg h0])
    clear h0
    go_enter Tryd.func56, Tryd.ntmps56
    go_wp2_with fail
    all_goals
      go_ret
      refine ⟨congrArg (fun b => Ending.returned (.bool b)) ?_, below_alloc _ _⟩
      rw [HT.out]
      have hx := toList_nil t.text
      simp_all

/-! ### Names -/
theorem badName1_any (s : ByteArray) (w : World) (hs : s.size ≤ 9223372036854775807) :
    Calls Tryd.prog 71 #[.string s] w fun e w' => e = .returned (.bool (!nameB s)) ∧ w = w' := by
  have HI := Lib.hid (isName_any s w hs)
  go_enter Tryd.func71, Tryd.ntmps71
  go_wp2_with fail
  refine HI.out.mono ?_
  rintro e w1 ⟨rfl, rfl⟩
  go_wp2_with fail
  go_ret
  exact ⟨rfl, rfl⟩
theorem enter_badName1 (args : Array Value) (w : World) : (callFunc 71 args).run Tryd.prog w = .ok (.enter 71 args) w := by
  go_simp
/-- The first places of a list that have a property, as a walk sums them up. -/
theorem anyTo_next (p : Nat → Bool) (k : Nat) : anyTo p (k + 1) = (anyTo p k || p k) := by
  unfold anyTo; rw [List.range_succ, List.any_append]; simp
theorem anyTo_zero (p : Nat → Bool) : anyTo p 0 = false := rfl
theorem all_anyTo {α : Type} (l : List α) (q : α → Bool) (f : Nat → α) (hf : ∀ k (h : k < l.length), l[k] = f k) : l.all q = !anyTo (fun k => !q (f k)) l.length := by
  cases h : anyTo (fun k => !q (f k)) l.length
  · rw [show (!false) = true from rfl, List.all_eq_true]
    · intro x hx
      obtain ⟨k, hk, rfl⟩ := List.getElem_of_mem hx
      rw [hf k hk]
      cases hq : q (f k)
      · have := (anyTo_iff (p := fun k => !q (f k)) (n := l.length)).2 ⟨k, hk, by simp [hq]⟩
        rw [h] at this; cases this
      · rfl
  · obtain ⟨k, hk, h2⟩ := anyTo_iff.1 h
    rw [show (!true) = false from rfl, List.all_eq_false]
    exact ⟨l[k], List.getElem_mem hk, by rw [hf k hk]; simpa using h2⟩
def badN (xs : List Am) (k : Nat) : Bool := !anameB (am xs k)
def badT (ts : List Tm) (k : Nat) : Bool := !tnameB (tm ts k)
theorem namesB_eq (q : Qy) : (!namesB q) = ((!nameB q.name || anyTo (fun k => !nameB (nm q.head k)) q.head.length) || anyTo (badN q.atoms) q.atoms.length) := by
  unfold namesB
  rw [all_anyTo q.head nameB (nm q.head) (fun k h => nm_eq _ k h), all_anyTo q.atoms anameB (am q.atoms) (fun k h => am_eq _ k h)]
  unfold badN
  cases nameB q.name <;> cases anyTo (fun k => !nameB (nm q.head k)) q.head.length <;> cases anyTo (fun k => !anameB (am q.atoms k)) q.atoms.length <;> rfl
theorem badN_eq (xs : List Am) (k : Nat) : badN xs k = (!nameB (am xs k).rel || anyTo (badT (am xs k).terms) (am xs k).terms.length) := by
  unfold badN anameB
  rw [all_anyTo (am xs k).terms tnameB (tm (am xs k).terms) (fun k h => tm_eq _ k h)]
  unfold badT
  cases nameB (am xs k).rel <;> cases anyTo (fun j => !tnameB (tm (am xs k).terms j)) (am xs k).terms.length <;> rfl

set_option maxHeartbeats 8000000 in
set_option maxRecDepth 100000 in
theorem badName_any (q : Qy) (AH : Option Addr) (cH : Nat) (AA : Option Addr) (cA : Nat) (w : World) (hq : SzQ q) (hH : Rd w w.heap.size AH (ss q.head)) (hA : Ats w w.heap.size AA q.atoms) :
    Calls Tryd.prog 53 #[.agg #[.string q.name, .slice AH q.head.length cH, .slice AA q.atoms.length cA]] w fun e w' => e = .returned (.bool (!namesB q)) ∧ Below w.heap.size w w' := by
  rw [namesB_eq q]
  obtain ⟨name, head, xs⟩ := q
  have hfh := hq.few
  have hfa := hq.fewA
  have hat := hq.atoms
  have hn := hq.name
  have hhd := hq.head
  clear hq
  simp only at hfh hfa hat hH hA hn hhd ⊢
  have HIN : Hid (∀ s (wr : World), s.size ≤ 9223372036854775807 → Calls Tryd.prog 69 #[.string s] wr fun e w' => e = .returned (.bool (nameB s)) ∧ wr = w') := Lib.hid fun s wr h => isName_any s wr h
  obtain ⟨b0, hb0⟩ : ∃ b, (!nameB name || anyTo (fun k => !nameB (nm head k)) head.length) = b := ⟨_, rfl⟩
  rw [hb0]
  go_enter Tryd.func53, Tryd.ntmps53
  go_upto_region 1 with fail
  have hb1 := below_alloc w (.cells #[.string name, .slice AH head.length cH, .slice AA xs.length cA] 25)
  have hQ1 : Row (w.alloc (.cells #[.string name, .slice AH head.length cH, .slice AA xs.length cA] 25)) w.heap.size 25 [.string name, .slice AH head.length cH, .slice AA xs.length cA] := Row.new _ _ _
  generalize w.alloc _ = w1 at hb1 hQ1 ⊢
  have hH1 := hH.later hb1
  have q0 : w1.cell? ⟨w.heap.size, 0, none⟩ = some (.string name) := hQ1.cell 0
  have q1 : w1.cell? ⟨w.heap.size, 1, none⟩ = some (.slice AH head.length cH) := hQ1.cell 1
  have HCF : Hid (Calls Tryd.prog 70 #[.slice AH head.length cH, .func (.func 71) #[] #[]] w1 fun e w' => e = .returned (.bool (anyTo (fun k => !nameB (nm head k)) head.length)) ∧ Below w1.heap.size w1 w') := Lib.hid (by
    refine containsFn_str 71 #[] (fun k => !nameB (nm head k)) AH head cH w1 (by omega) hH1 enter_badName1 (fun k hk wr hb => ?_)
    refine (badName1_any (nm head k) wr (hhd _ (nm_mem head k hk))).mono ?_
    rintro e w' ⟨he, rfl⟩
    exact ⟨he, Below.refl _ _⟩)
  go_cut [3] (fun v wc => v = .bool b0 ∧ Below w1.heap.size w1 wc)
  case first =>
    have HI1 := Lib.hid (HIN.out name w1 hn)
    cases hnb : nameB name
    · have HB : Hid (true = b0) := Lib.hid (by rw [← hb0, hnb]; rfl)
      rw [hnb] at HI1
      clear hnb hb0
      go_wp2_with fail
      refine HI1.out.mono ?_
      rintro e w2 ⟨rfl, rfl⟩
      go_wp2_with fail
      go_meet
      exact ⟨by rw [HB.out], Below.refl _ _⟩
    · have HB : Hid (anyTo (fun k => !nameB (nm head k)) head.length = b0) := Lib.hid (by rw [← hb0, hnb]; rfl)
      rw [hnb] at HI1
      clear hnb hb0
      rw [HB.out] at HCF
      go_wp2_with fail
      refine HI1.out.mono ?_
      rintro e w2 ⟨rfl, rfl⟩
      go_wp2_with fail
      refine HCF.out.mono ?_
      rintro e w2 ⟨rfl, hb2⟩
      go_wp2_with fail
      go_meet
      exact ⟨rfl, hb2⟩
  case rest =>
    obtain ⟨rfl, hb2⟩ := hcut
    obtain ⟨wb, hwb⟩ : ∃ wb : World, wb = wc := ⟨_, rfl⟩
    subst hwb
    have hB2 := bthen hb1 hb2
    have hQ2 := hQ1.later hb2
    have hA2 := hA.later hB2
    have q2 : wb.cell? ⟨w.heap.size, 2, none⟩ = some (.slice AA xs.length cA) := hQ2.cell 2
    clear hb1 hb2 hQ1 hQ2 hA hH1 q0 q1 HCF hb0 hH
    go_wp2_with fail
    go_loopw [3, 20] (fun v i wr => ∃ (k : Nat) (b : Bool), k ≤ xs.length ∧ i = .int .i64 k ∧ v = .bool b ∧ Hid (b = (b0 || anyTo (badN xs) k)) ∧ Below wb.heap.size wb wr) (fun _ i _ => xs.length - (intOf i).toNat)
    case atStart => exact ⟨0, b0, Nat.zero_le _, rfl, rfl, Lib.hid (by rw [anyTo_zero, Bool.or_false]), Below.refl _ _⟩
    case round =>
      obtain ⟨k, b, hk, rfl, rfl, hbk, hb⟩ := hrel
      by_cases hlt : k < xs.length
      · obtain ⟨ad, hAd, _, hc, T, cT, hc1, hT, _⟩ := (hA2.later hb) k hlt
        subst hAd
        have b1 : (0 : Int) ≤ k := by omega
        have b2 : (k : Int) < xs.length := by omega
        have HN : Hid (∀ b', b' = (b || badN xs k) → b' = (b0 || anyTo (badN xs) (k + 1))) := Lib.hid fun b' h => by rw [h, hbk.out, anyTo_next, Bool.or_assoc]
        have hsz := hat _ (am_mem xs k hlt)
        have HBN := Lib.hid (badN_eq xs k)
        clear hbk
        generalize hbn : badN xs k = bn at HN HBN
        clear hbn
        generalize am xs k = a at hc hc1 hT HBN hsz
        obtain ⟨hrel, hfew, htm⟩ := hsz
        go_upto_region 5 with fail
        have hb3 := below_alloc wr (.cells #[.string a.rel, .slice T a.terms.length cT] 47)
        have hR3 : Row (wr.alloc (.cells #[.string a.rel, .slice T a.terms.length cT] 47)) wr.heap.size 47 [.string a.rel, .slice T a.terms.length cT] := Row.new _ _ _
        have hT3 := hT.later hb3
        have hB3 := bthen hb hb3
        generalize wr.heap.size = g at hR3 ⊢
        generalize wr.alloc _ = w3 at hR3 hT3 hB3 ⊢
        have d0 : w3.cell? ⟨g, 0, none⟩ = some (.string a.rel) := hR3.cell 0
        have d1 : w3.cell? ⟨g, 1, none⟩ = some (.slice T a.terms.length cT) := hR3.cell 1
        have HI3 := Lib.hid (HIN.out a.rel w3 hrel)
        clear hb3 hT hb hc hc1 hR3
        go_cut [3] (fun v wx => v = .bool (b || !nameB a.rel) ∧ w3 = wx)
        case first =>
          cases b
          · go_wp2_with fail
            refine HI3.out.mono ?_
            rintro e w' ⟨rfl, rfl⟩
            go_wp2_with fail
            go_meet
            exact ⟨rfl, rfl⟩
          · go_wp2_with fail
            go_meet
            exact ⟨rfl, rfl⟩
        case rest =>
          obtain ⟨rfl, hwx⟩ := hcut
          subst hwx
          obtain ⟨bb, hbb⟩ : ∃ bb, (b || !nameB a.rel) = bb := ⟨_, rfl⟩
          have HM : Hid (∀ b', b' = (bb || anyTo (badT a.terms) a.terms.length) → b' = (b0 || anyTo (badN xs) (k + 1))) := Lib.hid fun b' h => HN.out b' (by rw [h, HBN.out, ← hbb, Bool.or_assoc])
          rw [hbb]
          clear HI3 hbb HN HBN d0
          go_wp2_with fail
          go_loopg [3, 34] a.terms.length (fun g' v i wi => ∃ (m : Nat) (b : Bool), m ≤ a.terms.length ∧ g' = a.terms.length - m ∧ i = .int .i64 m ∧ v = .bool b ∧ Hid (b = (bb || anyTo (badT a.terms) m)) ∧ Below wb.heap.size wb wi ∧ Rd wi wi.heap.size T (tms a.terms))
          case atStart => exact ⟨0, bb, Nat.zero_le _, rfl, rfl, rfl, Lib.hid (by rw [anyTo_zero, Bool.or_false]), hB3, hT3⟩
          case round =>
            clear hT3 hB3
            obtain ⟨m, b, hm, rfl, rfl, rfl, hbm, hB3, hT3⟩ := hrel
            by_cases hmlt : m < a.terms.length
            · obtain ⟨ad2, hAd2, _, hc, hc1, hc2, hc3⟩ := hT3.t_cells hmlt
              subst hAd2
              have b3 : (0 : Int) ≤ m := by omega
              have b4 : (m : Int) < a.terms.length := by omega
              have HN2 : Hid (∀ b', b' = (b || badT a.terms m) → b' = (bb || anyTo (badT a.terms) (m + 1))) := Lib.hid fun b' h => by rw [h, hbm.out, anyTo_next, Bool.or_assoc]
              have hts := (htm _ (tm_mem a.terms m hmlt)).var
              have HBT : Hid (badT a.terms m = !(decide ((tm a.terms m).var = ByteArray.empty) || nameB (tm a.terms m).var)) := Lib.hid rfl
              clear hbm
              generalize hbn : badT a.terms m = bn at HN2 HBT
              clear hbn
              generalize tm a.terms m = t at hc hc1 hc2 hc3 HBT hts
              have he := isEmpty_empty t.var
              have hB4 := hB3.alloc hB3.size (.cells #[.string t.var, .int .i64 t.kind, .int .i64 t.num, .string t.text] 52)
              have hT4 := hT3.later (below_alloc wr (.cells #[.string t.var, .int .i64 t.kind, .int .i64 t.num, .string t.text] 52))
              cases b
              · by_cases hv : t.var = ByteArray.empty
                · have HX := Lib.hid (HN2.out false (by rw [HBT.out, decide_eq_true hv]; rfl))
                  rw [decide_eq_true hv] at he
                  clear hv
                  go_wp2_with fail
                  go_roundg (a.terms.length - (m + 1))
                  case measure => omega
                  case rel => exact ⟨m + 1, false, by omega, rfl, by go_num, rfl, HX, hB4, hT4⟩
                · have HX := Lib.hid (HN2.out (!nameB t.var) (by rw [HBT.out, decide_eq_false hv]; rfl))
                  rw [decide_eq_false hv] at he
                  have HI4 := Lib.hid (HIN.out t.var (wr.alloc (.cells #[.string t.var, .int .i64 t.kind, .int .i64 t.num, .string t.text] 52)) hts)
                  clear hv
                  go_wp2_with fail
                  refine HI4.out.mono ?_
                  rintro e w' ⟨rfl, rfl⟩
                  go_wp2_with fail
                  go_roundg (a.terms.length - (m + 1))
                  case measure => omega
                  case rel => exact ⟨m + 1, !nameB t.var, by omega, rfl, by go_num, rfl, HX, hB4, hT4⟩
              · have HX := Lib.hid (HN2.out true (by rw [Bool.true_or]))
                go_wp2_with fail
                go_roundg (a.terms.length - (m + 1))
                case measure => omega
                case rel => exact ⟨m + 1, true, by omega, rfl, by go_num, rfl, HX, hB4, hT4⟩
            · obtain rfl : m = a.terms.length := by omega
              have HX := Lib.hid (HM.out b hbm.out)
              go_wp2_with fail
              go_roundw
              case measure => simp [intOf]; omega
              case rel => exact ⟨k + 1, b, by omega, by go_num, rfl, HX, hB3⟩
      · obtain rfl : k = xs.length := by omega
        go_wp2_with fail
        go_ret
        exact ⟨congrArg (fun z => Ending.returned (.bool z)) hbk.out, hB2.trans (hb.mono hB2.size)⟩
end Go.Proofs.YtdemmjofggemhaaDoor

/- The contracts of query.doubled, unsafeVar, Shape. -/
namespace Go.Proofs.YtdemmjofggemhaaDoor
open Go.RowKit

theorem any_anyTo {α : Type} (l : List α) (q : α → Bool) (f : Nat → α) (hf : ∀ k (h : k < l.length), l[k] = f k) : l.any q = anyTo (fun k => q (f k)) l.length := by
  rw [Bool.eq_iff_iff, List.any_eq_true, anyTo_iff]
  constructor
  · rintro ⟨x, hx, h⟩
    obtain ⟨k, hk, rfl⟩ := List.getElem_of_mem hx
    exact ⟨k, hk, by rw [← hf k hk]; exact h⟩
  · rintro ⟨k, hk, h⟩
    exact ⟨l[k], List.getElem_mem hk, by rw [hf k hk]; exact h⟩

set_option maxHeartbeats 4000000 in
set_option maxRecDepth 100000 in
theorem doubled_any (A : Option Addr) (L : List ByteArray) (c : Nat) (w : World) (hl : L.length ≤ 8796093022208) (hcap : L.length ≤ c) (hL : Rd w w.heap.size A (ss L)) :
    Calls Tryd.prog 58 #[.slice A L.length c] w fun e w' => ∃ r : Int, e = .returned (.int .i64 r) ∧ Hid (decide (0 ≤ r) = dupB L) ∧ w = w' := by
  have HH := Lib.hid has_any9
  have HDB : Hid (dupB L = anyTo (dupAt L) L.length) := Lib.hid rfl
  go_enter Tryd.func58, Tryd.ntmps58
  go_wp2_with fail
  go_loop [7] (fun i => ∃ k : Nat, k ≤ L.length ∧ i = .int .i64 k ∧ Hid (∀ j, j < k → dupAt L j = false)) (fun i => L.length - (intOf i).toNat)
  case atStart => exact ⟨0, Nat.zero_le _, rfl, Lib.hid fun j hj => absurd hj (Nat.not_lt_zero _)⟩
  case round =>
    obtain ⟨k, hk, rfl, hno⟩ := hrel
    by_cases hlt : k < L.length
    · obtain ⟨ad, hA, _, hc⟩ := hL.s_at hlt
      subst hA
      have b1 : (0 : Int) ≤ k := by omega
      have b2 : (k : Int) < L.length := by omega
      have b3 : (k : Int) ≤ c := by omega
      have b4 : k ≤ c := by omega
      have HC : Hid (Calls Tryd.prog 49 #[.slice (some ad) k c, .string (nm L k)] w fun e w' => e = .returned (.bool (dupAt L k)) ∧ w = w') := Lib.hid (by
        have := HH.out (some ad) (L.take k) c (nm L k) w (by rw [List.length_take]; omega) (by rw [← ss_take]; exact hL.take k)
        rwa [List.length_take, Nat.min_eq_left (by omega)] at this)
      have HN : Hid (dupAt L k = false → ∀ j, j < k + 1 → dupAt L j = false) := Lib.hid fun h j hj => by
        rcases Nat.lt_or_ge j k with d | d
        · exact hno.out j d
        · obtain rfl : j = k := by omega
          exact h
      have HT : Hid (dupAt L k = true → decide (0 ≤ (k : Int)) = dupB L) := Lib.hid fun h => by
        rw [HDB.out, (anyTo_iff (p := dupAt L) (n := L.length)).2 ⟨k, hlt, h⟩]; simp
      clear hno
      cases hd : dupAt L k
      · have HX := Lib.hid (HN.out hd)
        rw [hd] at HC
        clear HN HT hd
        generalize nm L k = y at hc HC
        go_wp2_with fail
        refine HC.out.mono ?_
        rintro e w' ⟨rfl, rfl⟩
        go_wp2_with fail
        go_round
        case rel => exact ⟨k + 1, by omega, by go_num, HX⟩
        case measure => simp [intOf]; omega
      · have HX := Lib.hid (HT.out hd)
        rw [hd] at HC
        clear HN HT hd
        generalize nm L k = y at hc HC
        go_wp2_with fail
        refine HC.out.mono ?_
        rintro e w' ⟨rfl, rfl⟩
        go_wp2_with fail
        go_ret
        exact ⟨_, rfl, HX, by first | rfl | trivial⟩
    · have HX : Hid (decide (0 ≤ (-1 : Int)) = dupB L) := Lib.hid (by
        rw [HDB.out]
        cases h : anyTo (dupAt L) L.length
        · rfl
        · obtain ⟨j, hj, h2⟩ := anyTo_iff.1 h
          rw [hno.out j (by omega)] at h2; cases h2)
      go_wp2_with fail
      go_ret
      exact ⟨_, rfl, HX, by first | rfl | trivial⟩

/-! ### unsafeVar -/
theorem stray_any (A : Option Addr) (L : List ByteArray) (c b : Nat) (x : ByteArray) (w : World) (hl : L.length ≤ 35184372087808) (hc : w.cell? ⟨b, 0, none⟩ = some (.slice A L.length c)) (hL : Rd w w.heap.size A (ss L)) :
    Calls Tryd.prog 75 #[.string x, .pointer (some ⟨b, 0, none⟩)] w fun e w' => e = .returned (.bool (strayB L x)) ∧ w = w' := by
  have HC := Lib.hid (has_any9 A L c x w hl hL)
  go_enter Tryd.func75, Tryd.ntmps75
  go_wp2_with fail
  refine HC.out.mono ?_
  rintro e w1 ⟨rfl, rfl⟩
  go_wp2_with fail
  go_ret
  exact ⟨rfl, rfl⟩
theorem enter_stray (args : Array Value) (w : World) : (callFunc 75 args).run Tryd.prog w = .ok (.enter 75 args) w := by
  go_simp
set_option maxHeartbeats 4000000 in
set_option maxRecDepth 100000 in
theorem unsafeVar_any (q : Qy) (AH : Option Addr) (cH : Nat) (AA : Option Addr) (cA : Nat) (w : World) (hq : SzQ q) (h6 : q.atoms.length ≤ 6) (h5 : ∀ a ∈ q.atoms, a.terms.length ≤ 5) (hH : Rd w w.heap.size AH (ss q.head)) (hA : Ats w w.heap.size AA q.atoms) :
    Calls Tryd.prog 59 #[.agg #[.string q.name, .slice AH q.head.length cH, .slice AA q.atoms.length cA]] w fun e w' => ∃ r : Int, e = .returned (.int .i64 r) ∧ Hid (decide (0 ≤ r) = q.head.any (strayB (qvars q.atoms))) ∧ Below w.heap.size w w' := by
  obtain ⟨name, head, xs⟩ := q
  have hfh := hq.few
  clear hq
  simp only at hfh hH hA h6 h5 ⊢
  obtain ⟨vars, hvars⟩ : ∃ vars, qvars xs = vars := ⟨_, rfl⟩
  rw [hvars]
  have HVA := Lib.hid hvars
  clear hvars
  go_enter Tryd.func59, Tryd.ntmps59
  go_wp2_with fail
  have hb0 := below_alloc w (.cells #[.string name, .slice AH head.length cH, .slice AA xs.length cA] 25)
  have hQ0 : Row (w.alloc (.cells #[.string name, .slice AH head.length cH, .slice AA xs.length cA] 25)) w.heap.size 25 [.string name, .slice AH head.length cH, .slice AA xs.length cA] := Row.new _ _ _
  generalize w.alloc _ = w0 at hb0 hQ0 ⊢
  refine (qvars_any name AH head.length cH AA xs cA w0 h6 h5 (hA.later hb0)).mono ?_
  rintro e w1 ⟨v, rfl, hown, hb1⟩
  obtain ⟨AV, cV, rfl, _, _, hV1, _⟩ := Rd.of_own hown
  have hvl := qvars_length h5 h6
  have hB1 := bthen hb0 hb1
  have hQ1 := hQ0.later hb1
  clear hown hb0 hb1 hQ0
  rw [HVA.out] at hV1 hvl ⊢
  go_upto_region 2 with fail
  have hb2 := below_alloc w1 (.cells #[.slice AV vars.length cV] 22)
  have hW2 : Row (w1.alloc (.cells #[.slice AV vars.length cV] 22)) w1.heap.size 22 [.slice AV vars.length cV] := Row.new _ _ _
  have hB2 := bthen hB1 hb2
  have hQ2 := hQ1.later hb2
  have hV2 := hV1.later hb2
  generalize w1.heap.size = g at hW2 ⊢
  generalize w1.alloc _ = w2 at hW2 hB2 hQ2 hV2 ⊢
  have q1 : w2.cell? ⟨w.heap.size, 1, none⟩ = some (.slice AH head.length cH) := hQ2.cell 1
  have HC : Hid (Calls Tryd.prog 74 #[.slice AH head.length cH, .func (.func 75) #[] #[.pointer (some ⟨g, 0, none⟩)]] w2 fun e w' => ∃ r : Int, e = .returned (.int .i64 r) ∧ Hid (IdxAt (fun k => strayB vars (nm head k)) head.length r) ∧ Below w2.heap.size w2 w') := Lib.hid (by
    refine indexFn_str 75 #[.pointer (some ⟨g, 0, none⟩)] (fun k => strayB vars (nm head k)) AH head cH w2 (by omega) (hH.later hB2) enter_stray (fun k hk wr hb => ?_)
    refine (stray_any AV vars cV g (nm head k) wr (by omega) ((hW2.later hb).cell 0) (hV2.later hb)).mono ?_
    rintro e w' ⟨he, rfl⟩
    exact ⟨he, Below.refl _ _⟩)
  have HA : Hid (head.any (strayB vars) = anyTo (fun k => strayB vars (nm head k)) head.length) := Lib.hid (any_anyTo head (strayB vars) (nm head) fun k h => nm_eq _ k h)
  clear hb2 hB1 hQ1 hV1 hV2 hW2 hQ2 hH hA
  go_wp2_with fail
  refine HC.out.mono ?_
  rintro e w3 ⟨r, rfl, hr, hb3⟩
  have HR : Hid (decide (0 ≤ r) = head.any (strayB vars)) := Lib.hid (by rw [HA.out]; exact anyTo_of hr.out)
  go_wp2_with fail
  go_ret
  exact ⟨_, rfl, HR, bthen hB2 hb3⟩
end Go.Proofs.YtdemmjofggemhaaDoor

/- The contract of query.Shape. -/
namespace Go.Proofs.YtdemmjofggemhaaDoor
open Go.RowKit

theorem aterm_eq (a : Am) : (!aterm a) = anyTo (fun j => !termB (tm a.terms j)) a.terms.length := by
  unfold aterm
  rw [all_anyTo a.terms termB (tm a.terms) (fun k h => tm_eq _ k h), Bool.not_not]
theorem enter_badTerm (args : Array Value) (w : World) : (callFunc 56 args).run Tryd.prog w = .ok (.enter 56 args) w := by
  go_simp
theorem shape2_any (a : Am) (T : Option Addr) (c : Nat) (w : World) (ha : SzA a) (hT : Rd w w.heap.size T (tms a.terms)) :
    Calls Tryd.prog 54 #[.agg #[.string a.rel, .slice T a.terms.length c]] w fun e w' => e = .returned (.bool (!aterm a)) ∧ Below w.heap.size w w' := by
  rw [aterm_eq]
  have hf := ha.few
  go_enter Tryd.func54, Tryd.ntmps54
  go_wp2_with fail
  have hb0 := below_alloc w (.cells #[.string a.rel, .slice T a.terms.length c] 47)
  generalize w.alloc _ = w0 at hb0 ⊢
  have HC : Hid (Calls Tryd.prog 55 #[.slice T a.terms.length c, .func (.func 56) #[] #[]] w0 fun e w' => e = .returned (.bool (anyTo (fun j => !termB (tm a.terms j)) a.terms.length)) ∧ Below w0.heap.size w0 w') := Lib.hid (by
    refine containsFn_tm 56 #[] (fun j => !termB (tm a.terms j)) T a.terms c w0 (by omega) (hT.later hb0) enter_badTerm (fun k hk wr hb => ?_)
    exact badTerm_any (tm a.terms k) wr)
  refine HC.out.mono ?_
  rintro e w1 ⟨rfl, hb1⟩
  go_wp2_with fail
  go_ret
  exact ⟨rfl, bthen hb0 hb1⟩
theorem shape3_any (a : Am) (T : Option Addr) (c : Nat) (w : World) :
    Calls Tryd.prog 57 #[.agg #[.string a.rel, .slice T a.terms.length c]] w fun e w' => e = .returned (.bool (wideB a)) ∧ Below w.heap.size w w' := by
  have HW : Hid (wideB a = decide ((5 : Int) < a.terms.length)) := Lib.hid (by unfold wideB; rw [Bool.eq_iff_iff, decide_eq_true_eq, decide_eq_true_eq]; omega)
  have HW2 : Hid (wideB a = decide (5 < a.terms.length)) := Lib.hid rfl
  go_enter Tryd.func57, Tryd.ntmps57
  go_wp2_with fail
  go_ret
  exact ⟨congrArg (fun b => Ending.returned (.bool b)) (by first | exact HW.out.symm | exact HW2.out.symm), below_alloc _ _⟩
theorem enter_shape2 (args : Array Value) (w : World) : (callFunc 54 args).run Tryd.prog w = .ok (.enter 54 args) w := by
  go_simp
theorem enter_shape3 (args : Array Value) (w : World) : (callFunc 57 args).run Tryd.prog w = .ok (.enter 57 args) w := by
  go_simp
/-- anyAtom: over the atoms of the query that lies in the block b. -/
theorem shape1_any (F : FuncId) (p : Nat → Bool) (A : Option Addr) (xs : List Am) (c b : Nat) (w : World) (hl : xs.length ≤ 35184372087808) (h2 : w.cell? ⟨b, 2, none⟩ = some (.slice A xs.length c)) (hA : Ats w w.heap.size A xs)
    (hF : ∀ args w, (callFunc F args).run Tryd.prog w = .ok (.enter F args) w)
    (hcall : ∀ k, k < xs.length → ∀ (T : Option Addr) (c1 : Nat) (wr : World), Below w.heap.size w wr → Rd wr wr.heap.size T (tms (am xs k).terms) → Calls Tryd.prog F (#[.agg #[.string (am xs k).rel, .slice T (am xs k).terms.length c1]] ++ #[]) wr fun e w' => e = .returned (.bool (p k)) ∧ Below wr.heap.size wr w') :
    Calls Tryd.prog 51 #[.func (.func F) #[] #[], .pointer (some ⟨b, 0, none⟩)] w fun e w' => e = .returned (.bool (anyTo p xs.length)) ∧ Below w.heap.size w w' := by
  have HC := Lib.hid (containsFn_am F #[] p A xs c w hl hA hF hcall)
  clear hcall hA hF
  go_enter Tryd.func51, Tryd.ntmps51
  go_wp2_with fail
  refine HC.out.mono ?_
  rintro e w1 ⟨rfl, hb1⟩
  go_wp2_with fail
  go_ret
  exact ⟨rfl, hb1⟩

set_option maxHeartbeats 8000000 in
set_option maxRecDepth 100000 in
theorem shape_any (q : Qy) (AH : Option Addr) (cH : Nat) (AA : Option Addr) (cA : Nat) (w : World) (hq : SzQ q) (hcap : q.head.length ≤ cH) (hH : Rd w w.heap.size AH (ss q.head)) (hA : Ats w w.heap.size AA q.atoms) :
    Calls Tryd.prog 37 #[.agg #[.string q.name, .slice AH q.head.length cH, .slice AA q.atoms.length cA]] w fun e w' => e = .returned (.int .i64 (shapeC q)) ∧ Below w.heap.size w w' := by
  have hfh := hq.few
  have hfa := hq.fewA
  have HSC : Hid (shapeC q = if namesB q = false then 72 else if q.atoms.all aterm = false then 21 else if q.atoms.length = 0 ∨ 6 < q.atoms.length then 90 else if q.atoms.any wideB = true then 91 else if dupB q.head = true then 92 else if q.head.any (strayB (qvars q.atoms)) = true then 93 else 0) := Lib.hid rfl
  generalize shapeC q = code at HSC
  go_enter Tryd.func37, Tryd.ntmps37
  go_upto_region 2 with fail
  have hb0 := below_alloc w (.cells #[.string q.name, .slice AH q.head.length cH, .slice AA q.atoms.length cA] 25)
  have hQ0 : Row (w.alloc (.cells #[.string q.name, .slice AH q.head.length cH, .slice AA q.atoms.length cA] 25)) w.heap.size 25 [.string q.name, .slice AH q.head.length cH, .slice AA q.atoms.length cA] := Row.new _ _ _
  generalize w.alloc _ = w0 at hb0 hQ0 ⊢
  have q0 : w0.cell? ⟨w.heap.size, 0, none⟩ = some (.string q.name) := hQ0.cell 0
  have q1 : w0.cell? ⟨w.heap.size, 1, none⟩ = some (.slice AH q.head.length cH) := hQ0.cell 1
  have q2 : w0.cell? ⟨w.heap.size, 2, none⟩ = some (.slice AA q.atoms.length cA) := hQ0.cell 2
  have HBN := Lib.hid (badName_any q AH cH AA cA w0 hq (hH.later hb0) (hA.later hb0))
  cases h1 : namesB q
  · have HX : Hid ((72 : Int) = code) := Lib.hid (by rw [HSC.out, if_pos h1])
    rw [h1] at HBN
    clear h1 HSC
    go_wp2_with fail
    refine HBN.out.mono ?_
    rintro e w1 ⟨rfl, hb1⟩
    go_wp2_with fail
    go_ret
    exact ⟨congrArg (fun z => Ending.returned (.int .i64 z)) HX.out, bthen hb0 hb1⟩
  · rw [h1] at HBN
    have HS2 : Hid (code = if q.atoms.all aterm = false then 21 else if q.atoms.length = 0 ∨ 6 < q.atoms.length then 90 else if q.atoms.any wideB = true then 91 else if dupB q.head = true then 92 else if q.head.any (strayB (qvars q.atoms)) = true then 93 else 0) := Lib.hid (by rw [HSC.out, if_neg (by rw [h1]; simp)])
    clear h1 HSC
    go_wp2_with fail
    refine HBN.out.mono ?_
    rintro e w1 ⟨rfl, hb1⟩
    have hB1 := bthen hb0 hb1
    have hQ1 := hQ0.later hb1
    clear q0 q1 q2 HBN hb0 hb1 hQ0
    have HT : Hid (Calls Tryd.prog 51 #[.func (.func 54) #[] #[], .pointer (some ⟨w.heap.size, 0, none⟩)] w1 fun e w' => e = .returned (.bool (!q.atoms.all aterm)) ∧ Below w1.heap.size w1 w') := Lib.hid (by
      have h := shape1_any 54 (fun k => !aterm (am q.atoms k)) AA q.atoms cA w.heap.size w1 (by omega) (hQ1.cell 2) (hA.later hB1) enter_shape2 (fun k hk T c1 wr hb hT => shape2_any (am q.atoms k) T c1 wr (hq.atoms _ (am_mem q.atoms k hk)) hT)
      rw [all_anyTo q.atoms aterm (am q.atoms) (fun k h => am_eq _ k h), Bool.not_not]
      exact h)
    cases h2 : q.atoms.all aterm
    · have HX : Hid ((21 : Int) = code) := Lib.hid (by rw [HS2.out, if_pos h2])
      rw [h2] at HT
      clear h2 HS2
      go_wp2_with fail
      refine HT.out.mono ?_
      rintro e w2 ⟨rfl, hb2⟩
      go_wp2_with fail
      go_ret
      exact ⟨congrArg (fun z => Ending.returned (.int .i64 z)) HX.out, bthen hB1 hb2⟩
    · rw [h2] at HT
      have HS3 : Hid (code = if q.atoms.length = 0 ∨ 6 < q.atoms.length then 90 else if q.atoms.any wideB = true then 91 else if dupB q.head = true then 92 else if q.head.any (strayB (qvars q.atoms)) = true then 93 else 0) := Lib.hid (by rw [HS2.out, if_neg (by rw [h2]; simp)])
      clear h2 HS2
      go_wp2_with fail
      refine HT.out.mono ?_
      rintro e w2 ⟨rfl, hb2⟩
      have hB2 := bthen hB1 hb2
      have hQ2 := hQ1.later hb2
      have q2 : w2.cell? ⟨w.heap.size, 2, none⟩ = some (.slice AA q.atoms.length cA) := hQ2.cell 2
      clear HT hB1 hb2 hQ1
      by_cases h3 : q.atoms.length = 0 ∨ 6 < q.atoms.length
      · have HX : Hid ((90 : Int) = code) := Lib.hid (by rw [HS3.out, if_pos h3])
        clear HS3
        rcases h3 with h3 | h3
        · have g1 : ((q.atoms.length : Int) == 0) = true := by simp [h3]
          have g1n : (q.atoms.length == 0) = true := by simp [h3]
          clear h3
          go_wp2_with fail
          go_ret
          exact ⟨congrArg (fun z => Ending.returned (.int .i64 z)) HX.out, hB2⟩
        · have g1 : ((q.atoms.length : Int) == 0) = false := by rw [beq_eq_false_iff_ne]; omega
          have g2 : decide ((6 : Int) < q.atoms.length) = true := decide_eq_true (by omega)
          have g2n : decide (6 < q.atoms.length) = true := decide_eq_true h3
          clear h3
          go_wp2_with fail
          go_ret
          exact ⟨congrArg (fun z => Ending.returned (.int .i64 z)) HX.out, hB2⟩
      · have g1 : ((q.atoms.length : Int) == 0) = false := by rw [beq_eq_false_iff_ne]; omega
        have g2 : decide ((6 : Int) < q.atoms.length) = false := decide_eq_false (by omega)
        have g2n : decide (6 < q.atoms.length) = false := decide_eq_false (by omega)
        have h6 : q.atoms.length ≤ 6 := by omega
        have HS4 : Hid (code = if q.atoms.any wideB = true then 91 else if dupB q.head = true then 92 else if q.head.any (strayB (qvars q.atoms)) = true then 93 else 0) := Lib.hid (by rw [HS3.out, if_neg h3])
        clear h3 HS3
        have HT : Hid (Calls Tryd.prog 51 #[.func (.func 57) #[] #[], .pointer (some ⟨w.heap.size, 0, none⟩)] w2 fun e w' => e = .returned (.bool (q.atoms.any wideB)) ∧ Below w2.heap.size w2 w') := Lib.hid (by
          have h := shape1_any 57 (fun k => wideB (am q.atoms k)) AA q.atoms cA w.heap.size w2 (by omega) (hQ2.cell 2) (hA.later hB2) enter_shape3 (fun k hk T c1 wr hb hT => shape3_any (am q.atoms k) T c1 wr)
          rw [any_anyTo q.atoms wideB (am q.atoms) (fun k h => am_eq _ k h)]
          exact h)
        cases h4 : q.atoms.any wideB
        · rw [h4] at HT
          have h5 : ∀ a ∈ q.atoms, a.terms.length ≤ 5 := fun a ha => by
            have := List.any_eq_false.1 h4 a ha
            have h' : wideB a = false := by simpa using this
            have := of_decide_eq_false h'
            omega
          have HS5 : Hid (code = if dupB q.head = true then 92 else if q.head.any (strayB (qvars q.atoms)) = true then 93 else 0) := Lib.hid (by rw [HS4.out, if_neg (by rw [h4]; simp)])
          clear h4 HS4
          go_wp2_with fail
          refine HT.out.mono ?_
          rintro e w3 ⟨rfl, hb3⟩
          have hB3 := bthen hB2 hb3
          have hQ3 := hQ2.later hb3
          have q1 : w3.cell? ⟨w.heap.size, 1, none⟩ = some (.slice AH q.head.length cH) := hQ3.cell 1
          clear HT hB2 hb3 hQ2 q2 g1 g2 g2n
          have HD := Lib.hid (doubled_any AH q.head cH w3 (by omega) hcap (hH.later hB3))
          go_wp2_with fail
          refine HD.out.mono ?_
          rintro e w4 ⟨r, rfl, hr, rfl⟩
          cases h6' : dupB q.head
          · have e1 := hr.out
            rw [h6'] at e1
            have HS6 : Hid (code = if q.head.any (strayB (qvars q.atoms)) = true then 93 else 0) := Lib.hid (by rw [HS5.out, if_neg (by rw [h6']; simp)])
            clear h6' HS5 hr HD
            have q0 : w3.cell? ⟨w.heap.size, 0, none⟩ = some (.string q.name) := hQ3.cell 0
            have q2 : w3.cell? ⟨w.heap.size, 2, none⟩ = some (.slice AA q.atoms.length cA) := hQ3.cell 2
            have HU := Lib.hid (unsafeVar_any q AH cH AA cA w3 hq h6 h5 (hH.later hB3) (hA.later hB3))
            go_wp2_with fail
            refine HU.out.mono ?_
            rintro e w5 ⟨r2, rfl, hr2, hb5⟩
            cases h7 : q.head.any (strayB (qvars q.atoms))
            · have HX : Hid ((0 : Int) = code) := Lib.hid (by rw [HS6.out, if_neg (by rw [h7]; simp)])
              have e2 := hr2.out
              rw [h7] at e2
              clear h7 HS6 hr2 HU
              go_wp2_with fail
              go_ret
              exact ⟨congrArg (fun z => Ending.returned (.int .i64 z)) HX.out, bthen hB3 hb5⟩
            · have HX : Hid ((93 : Int) = code) := Lib.hid (by rw [HS6.out, if_pos h7])
              have e2 := hr2.out
              rw [h7] at e2
              clear h7 HS6 hr2 HU
              go_wp2_with fail
              go_ret
              exact ⟨congrArg (fun z => Ending.returned (.int .i64 z)) HX.out, bthen hB3 hb5⟩
          · have HX : Hid ((92 : Int) = code) := Lib.hid (by rw [HS5.out, if_pos h6'])
            have e1 := hr.out
            rw [h6'] at e1
            clear h6' HS5 hr HD
            go_wp2_with fail
            go_ret
            exact ⟨congrArg (fun z => Ending.returned (.int .i64 z)) HX.out, hB3⟩
        · rw [h4] at HT
          have HX : Hid ((91 : Int) = code) := Lib.hid (by rw [HS4.out, if_pos h4])
          clear h4 HS4
          go_wp2_with fail
          refine HT.out.mono ?_
          rintro e w3 ⟨rfl, hb3⟩
          go_wp2_with fail
          go_ret
          exact ⟨congrArg (fun z => Ending.returned (.int .i64 z)) HX.out, bthen hB2 hb3⟩
end Go.Proofs.YtdemmjofggemhaaDoor
