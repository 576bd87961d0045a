/- Several texts in one: QNames2 RShape ROf. -/
import Derived.Test.YtdemmjofggemhaaDoorBS
import Derived.Test.YtdemmjofggemhaaDoorBQ
import Derived.Deep.RegionHeld3
/- The contracts of osierref07.among, run, IsName. -/
namespace Go.Proofs.YtdemmjofggemhaaDoor
open Go.RowKit

/-- Does the byte stand in the text? -/
def amB (c : Int) (t : ByteArray) : Bool := (List.range t.size).any fun i => byt t i == c
theorem amB_hit {c : Int} {t : ByteArray} {k : Nat} (hk : k < t.size) (h : (byt t k == c) = true) : amB c t = true := by
  unfold amB
  rw [List.any_eq_true]
  exact ⟨k, List.mem_range.2 hk, h⟩
theorem amB_miss {c : Int} {t : ByteArray} (h : ∀ i, i < t.size → (byt t i == c) = false) : amB c t = false := by
  unfold amB
  rw [List.any_eq_false]
  intro i hi
  rw [h i (List.mem_range.1 hi)]
  simp
theorem among_any (c : Int) (t : ByteArray) (w : World) (ht : t.size ≤ 1000) : Calls Tryd.prog 35 #[.int .u8 c, .string t] w fun e w' => e = .returned (.bool (amB c t)) ∧ w = w' := by
  go_enter Tryd.func35, Tryd.ntmps35
  go_wp2_with fail
  go_loop [5] (fun i => ∃ k : Nat, k ≤ t.size ∧ i = .int .i64 k ∧ Hid (∀ j, j < k → (byt t j == c) = false)) (fun i => t.size - (intOf i).toNat)
  case atStart => exact ⟨0, Nat.zero_le _, rfl, Lib.hid fun j hj => absurd hj (Nat.not_lt_zero _)⟩
  case round =>
    obtain ⟨k, hk, rfl, hall⟩ := hrel
    by_cases hlt : k < t.size
    · have b1 : (0 : Int) ≤ k := by omega
      have b2 : (k : Int) < t.size := by omega
      have hx := byt_eq t k hlt
      obtain ⟨b, hb⟩ : ∃ b, (byt t k == c) = b := ⟨_, rfl⟩
      have HB := Lib.hid hb
      rw [← hx] at hb
      cases b
      · have HN : Hid (∀ j, j < k + 1 → (byt t j == c) = false) := Lib.hid fun j hj => by
          rcases Nat.lt_or_ge j k with d | d
          · exact hall.out j d
          · obtain rfl : j = k := by omega
            exact HB.out
        clear hx
        go_wp2_with fail
        go_round
        case rel => exact ⟨k + 1, by omega, by go_num, HN⟩
        case measure => simp [intOf]; omega
      · have HT := Lib.hid (amB_hit hlt HB.out)
        clear hx
        go_wp2_with fail
        go_ret
        exact ⟨congrArg (fun b => Ending.returned (.bool b)) HT.out.symm, rfl⟩
    · have HF : Hid (amB c t = false) := Lib.hid (amB_miss fun i hi => hall.out i (by omega))
      go_wp2_with fail
      go_ret
      exact ⟨congrArg (fun b => Ending.returned (.bool b)) HF.out.symm, rfl⟩
/-- How far the text's bytes stand in another. -/
def RunAt (s t : ByteArray) (n : Nat) : Prop := n ≤ s.size ∧ (∀ i, i < n → amB (byt s i) t = true) ∧ (n < s.size → amB (byt s n) t = false)
theorem run07_any (s t : ByteArray) (w : World) (hs : s.size ≤ 1000) (ht : t.size ≤ 1000) : Calls Tryd.prog 36 #[.string s, .int .i64 0, .string t] w fun e w' => ∃ n : Nat, e = .returned (.int .i64 n) ∧ Hid (RunAt s t n) ∧ w = w' := by
  have HA := Lib.hid (fun c w => among_any c t w ht)
  go_enter Tryd.func36, Tryd.ntmps36
  go_wp2_with fail
  go_loop [7] (fun i => ∃ k : Nat, k ≤ s.size ∧ i = .int .i64 k ∧ Hid (∀ j, j < k → amB (byt s j) t = true)) (fun i => s.size - (intOf i).toNat)
  case atStart => exact ⟨0, Nat.zero_le _, rfl, Lib.hid fun j hj => absurd hj (Nat.not_lt_zero _)⟩
  case round =>
    obtain ⟨k, hk, rfl, hall⟩ := hrel
    have z0 : (0 : Int) + k = k := by omega
    have wk : IntKind.i64.wrap (k : Int) = k := IntWalk.i64_in _ (by omega)
    by_cases hlt : k < s.size
    · have b1 : (0 : Int) ≤ k := by omega
      have b2 : (k : Int) < s.size := by omega
      have HX := Lib.hid (byt_eq s k hlt)
      obtain ⟨b, hb⟩ : ∃ b, amB (byt s k) t = b := ⟨_, rfl⟩
      have HB := Lib.hid hb
      have HA2 : Hid (∀ wr : World, Calls Tryd.prog 35 #[.int .u8 (byt s k), .string t] wr fun e w' => e = .returned (.bool b) ∧ wr = w') := Lib.hid fun wr => by
        have := HA.out (byt s k) wr
        rwa [HB.out] at this
      rw [← HX.out] at HA2
      clear hb
      cases b
      · have HE : Hid (RunAt s t k) := Lib.hid ⟨hk, hall.out, fun _ => HB.out⟩
        go_wp2_with fail
        refine (HA2.out _).mono ?_
        rintro e w' ⟨rfl, rfl⟩
        go_wp2_with fail
        go_ret
        exact ⟨k, rfl, HE, rfl⟩
      · have HN : Hid (∀ j, j < k + 1 → amB (byt s j) t = true) := Lib.hid fun j hj => by
          rcases Nat.lt_or_ge j k with d | d
          · exact hall.out j d
          · obtain rfl : j = k := by omega
            exact HB.out
        go_wp2_with fail
        refine (HA2.out _).mono ?_
        rintro e w' ⟨rfl, rfl⟩
        go_wp2_with fail
        go_round
        case rel => exact ⟨k + 1, by omega, by go_num, HN⟩
        case measure => simp [intOf]; omega
    · have HE : Hid (RunAt s t k) := Lib.hid ⟨hk, hall.out, fun h => absurd h hlt⟩
      go_wp2_with fail
      go_ret
      exact ⟨k, rfl, HE, rfl⟩

theorem amB_digits {c : Int} (h0 : 0 ≤ c) (h1 : c < 256) : amB c { data := #[48, 49, 50, 51, 52, 53, 54, 55, 56, 57] } = digB c := by
  have key : ∀ i : Fin 256, amB ((i.val : Nat) : Int) { data := #[48, 49, 50, 51, 52, 53, 54, 55, 56, 57] } = digB ((i.val : Nat) : Int) := by decide +kernel
  obtain ⟨n, rfl⟩ := Int.eq_ofNat_of_zero_le h0
  exact key ⟨n, by omega⟩
theorem amB_lets {c : Int} (h0 : 0 ≤ c) (h1 : c < 256) : amB c { data := #[97, 98, 99, 100, 101, 102, 103, 104, 105, 106, 107, 108, 109, 110, 111, 112, 113, 114, 115, 116, 117, 118, 119, 120, 121, 122, 65, 66, 67, 68, 69, 70, 71, 72, 73, 74, 75, 76, 77, 78, 79, 80, 81, 82, 83, 84, 85, 86, 87, 88, 89, 90, 95, 48, 49, 50, 51, 52, 53, 54, 55, 56, 57] } = ldB c := by
  have key : ∀ i : Fin 256, amB ((i.val : Nat) : Int) { data := #[97, 98, 99, 100, 101, 102, 103, 104, 105, 106, 107, 108, 109, 110, 111, 112, 113, 114, 115, 116, 117, 118, 119, 120, 121, 122, 65, 66, 67, 68, 69, 70, 71, 72, 73, 74, 75, 76, 77, 78, 79, 80, 81, 82, 83, 84, 85, 86, 87, 88, 89, 90, 95, 48, 49, 50, 51, 52, 53, 54, 55, 56, 57] } = ldB ((i.val : Nat) : Int) := by decide +kernel
  obtain ⟨n, rfl⟩ := Int.eq_ofNat_of_zero_le h0
  exact key ⟨n, by omega⟩
theorem runAt_name {s : ByteArray} {n : Nat} (h : RunAt s { data := #[97, 98, 99, 100, 101, 102, 103, 104, 105, 106, 107, 108, 109, 110, 111, 112, 113, 114, 115, 116, 117, 118, 119, 120, 121, 122, 65, 66, 67, 68, 69, 70, 71, 72, 73, 74, 75, 76, 77, 78, 79, 80, 81, 82, 83, 84, 85, 86, 87, 88, 89, 90, 95, 48, 49, 50, 51, 52, 53, 54, 55, 56, 57] } n) : EndAt s n :=
  ⟨h.1, fun i hi => by have := byt_bounds s i; rw [← amB_lets this.1 this.2]; exact h.2.1 i hi, fun hi => by have := byt_bounds s n; rw [← amB_lets this.1 this.2]; exact h.2.2 hi⟩
theorem nameB_ref {s : ByteArray} {n : Nat} (h : EndAt s n) (h0 : 1 ≤ s.size) (h16 : s.size ≤ 16) : nameB s = (!digB (byt s 0) && decide (n = s.size)) := by
  rw [nameB_of h h0, decide_eq_true h16, Bool.and_true]
  by_cases e : n = s.size
  · have := h.2.1 0 (by omega)
    unfold ldB at this
    rw [decide_eq_true e, Bool.and_true, Bool.and_true]
    have hx : letB (byt s 0) = true → digB (byt s 0) = false := by
      unfold letB digB
      simp only [Bool.or_eq_true, Bool.and_eq_true, decide_eq_true_eq, beq_iff_eq, Bool.and_eq_false_iff, decide_eq_false_iff_not]
      omega
    cases hl : letB (byt s 0)
    · rw [hl, Bool.false_or] at this; rw [this]; rfl
    · rw [hx hl]; rfl
  · rw [decide_eq_false e, Bool.and_false, Bool.and_false]
set_option maxRecDepth 100000 in
theorem r07isName_any (s : ByteArray) (w : World) : Calls Tryd.prog 13 #[.string s] w fun e w' => e = .returned (.bool (nameB s)) ∧ w = w' := by
  by_cases h0 : 1 ≤ s.size
  · have g0 : decide ((1 : Int) ≤ s.size) = true := decide_eq_true (by omega)
    by_cases h16 : s.size ≤ 16
    · have g1 : decide ((s.size : Int) ≤ 16) = true := decide_eq_true (by omega)
      have h1 : 0 < s.size := by omega
      have b2 : (0 : Int) < s.size := by omega
      have HX := Lib.hid (byt_eq s 0 h1)
      have HN := Lib.hid (fun n h => nameB_ref (s := s) (n := n) h h0 h16)
      have HA : Hid (∀ wr : World, Calls Tryd.prog 35 #[.int .u8 (byt s 0), .string { data := #[48, 49, 50, 51, 52, 53, 54, 55, 56, 57] }] wr fun e w' => e = .returned (.bool (digB (byt s 0))) ∧ wr = w') := Lib.hid fun wr => by
        have := among_any (byt s 0) { data := #[48, 49, 50, 51, 52, 53, 54, 55, 56, 57] } wr (by decide)
        have hb := byt_bounds s 0
        rwa [amB_digits hb.1 hb.2] at this
      have HR : Hid (∀ wr : World, Calls Tryd.prog 36 #[.string s, .int .i64 0, .string { data := #[97, 98, 99, 100, 101, 102, 103, 104, 105, 106, 107, 108, 109, 110, 111, 112, 113, 114, 115, 116, 117, 118, 119, 120, 121, 122, 65, 66, 67, 68, 69, 70, 71, 72, 73, 74, 75, 76, 77, 78, 79, 80, 81, 82, 83, 84, 85, 86, 87, 88, 89, 90, 95, 48, 49, 50, 51, 52, 53, 54, 55, 56, 57] }] wr fun e w' => ∃ n : Nat, e = .returned (.int .i64 n) ∧ Hid (EndAt s n) ∧ wr = w') := Lib.hid fun wr => by
        refine (run07_any s _ wr (by omega) (by decide)).mono ?_
        rintro e w' ⟨n, he, hn, hw⟩
        exact ⟨n, he, Lib.hid (runAt_name hn.out), hw⟩
      have HEX := Lib.hid (endAt_exists s)
      obtain ⟨db, hdb⟩ : ∃ b, digB (byt s 0) = b := ⟨_, rfl⟩
      rw [hdb] at HA HN
      clear hdb h0 h16
      rw [← HX.out] at HA
      cases db
      · go_enter Tryd.func13, Tryd.ntmps13
        go_wp2_with fail
        refine (HA.out _).mono ?_
        rintro e w' ⟨rfl, rfl⟩
        go_wp2_with fail
        refine (HR.out _).mono ?_
        rintro e w' ⟨n, rfl, hn, rfl⟩
        by_cases hns : n = s.size
        · have e1 : ((n : Int) == (s.size : Int)) = true := by simp [hns]
          have HF : Hid (nameB s = true) := Lib.hid (by rw [HN.out n hn.out, decide_eq_true hns]; rfl)
          clear hns hn
          go_wp2_with fail
          go_ret
          exact ⟨congrArg (fun b => Ending.returned (.bool b)) HF.out.symm, rfl⟩
        · have e1 : ((n : Int) == (s.size : Int)) = false := by rw [beq_eq_false_iff_ne]; omega
          have HF : Hid (nameB s = false) := Lib.hid (by rw [HN.out n hn.out, decide_eq_false hns]; rfl)
          clear hns hn
          go_wp2_with fail
          go_ret
          exact ⟨congrArg (fun b => Ending.returned (.bool b)) HF.out.symm, rfl⟩
      · have HF : Hid (nameB s = false) := Lib.hid (by obtain ⟨n, hn⟩ := HEX.out; rw [HN.out n hn]; rfl)
        rw [HF.out]
        go_enter Tryd.func13, Tryd.ntmps13
        go_wp2_with fail
        refine (HA.out _).mono ?_
        rintro e w' ⟨rfl, rfl⟩
        go_wp2_with fail
        go_ret
        exact ⟨rfl, rfl⟩
    · have g1 : decide ((s.size : Int) ≤ 16) = false := decide_eq_false (by omega)
      have HF : Hid (nameB s = false) := Lib.hid (by unfold nameB; rw [decide_eq_false h16, Bool.and_false]; rfl)
      clear h16 h0
      rw [HF.out]
      go_enter Tryd.func13, Tryd.ntmps13
      go_wp2_with fail
      go_ret
      exact ⟨rfl, rfl⟩
  · have g0 : decide ((1 : Int) ≤ s.size) = false := decide_eq_false (by omega)
    have HF : Hid (nameB s = false) := Lib.hid (nameB_empty (by omega))
    clear h0
    rw [HF.out]
    go_enter Tryd.func13, Tryd.ntmps13
    go_wp2_with fail
    go_ret
    exact ⟨rfl, rfl⟩
end Go.Proofs.YtdemmjofggemhaaDoor

/- The contracts of osierref01.Valid, osierref09.Shape. -/
namespace Go.Proofs.YtdemmjofggemhaaDoor
open Go.RowKit

set_option maxHeartbeats 4000000 in
set_option maxRecDepth 100000 in
theorem r01valid_any (t : Tm) (w : World) :
    Calls Tryd.prog 14 #[.agg #[.int .i64 t.kind, .int .i64 t.num, .string t.text]] w fun e w' => e = .returned (.bool (valB t)) ∧ Below w.heap.size w w' := by
  by_cases h1 : t.kind = 1
  · have e1 : (t.kind == 1) = true := by simp [h1]
    have HV : Hid (valB t = decide (t.text.size = 0)) := Lib.hid (by unfold valB; rw [if_pos h1])
    have HV1 : Hid (((t.text.size : Int) == 0) = valB t) := Lib.hid (by rw [HV.out, Bool.eq_iff_iff, beq_iff_eq, decide_eq_true_eq]; omega)
    have HV2 : Hid ((t.text.size == 0) = valB t) := Lib.hid (by rw [HV.out, Bool.eq_iff_iff, beq_iff_eq, decide_eq_true_eq])
    clear h1
    go_enter Tryd.func14, Tryd.ntmps14
    go_wp2_with fail
    go_ret
    exact ⟨congrArg (fun b => Ending.returned (.bool b)) (by first | exact HV1.out | exact HV2.out), below_alloc _ _⟩
  · have e1 : (t.kind == 1) = false := by simpa using h1
    have HV : Hid (valB t = (decide (t.kind = 2) && decide (t.num = 0) && decide (t.text.size ≤ 64))) := Lib.hid (by unfold valB; rw [if_neg h1])
    by_cases h2 : t.kind = 2
    · have e2 : (t.kind == 2) = true := by simp [h2]
      by_cases h3 : t.num = 0
      · have e3 : (t.num == 0) = true := by simp [h3]
        have HW : Hid (valB t = decide ((t.text.size : Int) ≤ 64)) := Lib.hid (by
          rw [HV.out, decide_eq_true h2, decide_eq_true h3, Bool.true_and, Bool.true_and, Bool.eq_iff_iff, decide_eq_true_eq, decide_eq_true_eq]; omega)
        clear h1 h2 h3
        go_enter Tryd.func14, Tryd.ntmps14
        go_wp2_with fail
        go_ret
        exact ⟨congrArg (fun b => Ending.returned (.bool b)) HW.out.symm, below_alloc _ _⟩
      · have e3 : (t.num == 0) = false := by simpa using h3
        have HW : Hid (valB t = false) := Lib.hid (by rw [HV.out, decide_eq_true h2, decide_eq_false h3]; rfl)
        clear h1 h2 h3
        go_enter Tryd.func14, Tryd.ntmps14
        go_wp2_with fail
        go_ret
        exact ⟨congrArg (fun b => Ending.returned (.bool b)) HW.out.symm, below_alloc _ _⟩
    · have e2 : (t.kind == 2) = false := by simpa using h2
      have HW : Hid (valB t = false) := Lib.hid (by rw [HV.out, decide_eq_false h2]; rfl)
      clear h1 h2
      go_enter Tryd.func14, Tryd.ntmps14
      go_wp2_with fail
      go_ret
      exact ⟨congrArg (fun b => Ending.returned (.bool b)) HW.out.symm, below_alloc _ _⟩

theorem dup_at {L : List ByteArray} {i : Nat} (hi : i < L.length) : decide (atI L (nm L i) < (i : Int)) = dupAt L i := by
  unfold dupAt
  obtain ⟨k, hk, hkl, hkn, hno⟩ := atI_mem (nm_mem L i hi)
  have hle : k ≤ i := by
    rcases Nat.lt_or_ge i k with d | d
    · exact absurd rfl (hno i d)
    · exact d
  rw [Bool.eq_iff_iff, decide_eq_true_eq, decide_eq_true_eq, hk]
  constructor
  · intro h
    rw [← hkn, ← nm_eq L k hkl]
    exact List.mem_take_iff_getElem.2 ⟨k, by omega, rfl⟩
  · intro h
    obtain ⟨j, hj, e⟩ := List.mem_take_iff_getElem.1 h
    have hj2 : j < i := by omega
    have : ¬ j < k := fun c => hno j c (by rw [← nm_eq L j (by omega)]; exact e)
    omega
theorem aterm_eq9 (a : Am) : (!aterm a) = anyTo (fun j => !termB (tm a.terms j)) a.terms.length := by
  unfold aterm
  rw [all_anyTo a.terms termB (tm a.terms) (fun k h => tm_eq _ k h), Bool.not_not]
/-- Is the constant the empty one? -/
def zeroB (t : Tm) : Bool := decide (t.kind = 0) && decide (t.num = 0) && decide (t.text = ByteArray.empty)

set_option maxHeartbeats 16000000 in
set_option maxRecDepth 100000 in
theorem r09shape_any (q : Qy) (AH : Option Addr) (cH : Nat) (AA : Option Addr) (cA : Nat) (w : World) (hq : SzQ q) (hH : Rd w w.heap.size AH (ss q.head)) (hA : Ats w w.heap.size AA q.atoms) :
    Calls Tryd.prog 4 #[.agg #[.string q.name, .slice AH q.head.length cH, .slice AA q.atoms.length cA]] w fun e w' => e = .returned (.int .i64 (shapeC q)) ∧ Below w.heap.size w w' := by
  have HSC : Hid (shapeC q = if namesB q = false then 72 else if q.atoms.all aterm = false then 21 else if q.atoms.length = 0 ∨ 6 < q.atoms.length then 90 else if q.atoms.any wideB = true then 91 else if dupB q.head = true then 92 else if q.head.any (strayB (qvars q.atoms)) = true then 93 else 0) := Lib.hid rfl
  have HNB : Hid (namesB q = ((nameB q.name && !anyTo (fun k => !nameB (nm q.head k)) q.head.length) && !anyTo (badN q.atoms) q.atoms.length)) := Lib.hid (by
    have := namesB_eq q
    rw [← Bool.not_not (namesB q), this]
    cases nameB q.name <;> cases anyTo (fun k => !nameB (nm q.head k)) q.head.length <;> cases anyTo (badN q.atoms) q.atoms.length <;> rfl)
  have HAT : Hid (q.atoms.all aterm = !anyTo (fun k => !aterm (am q.atoms k)) q.atoms.length) := Lib.hid (all_anyTo q.atoms aterm (am q.atoms) fun k h => am_eq _ k h)
  have HWD : Hid (q.atoms.any wideB = anyTo (fun k => wideB (am q.atoms k)) q.atoms.length) := Lib.hid (any_anyTo q.atoms wideB (am q.atoms) fun k h => am_eq _ k h)
  have HST : Hid (q.head.any (strayB (qvars q.atoms)) = anyTo (fun k => strayB (qvars q.atoms) (nm q.head k)) q.head.length) := Lib.hid (any_anyTo q.head (strayB (qvars q.atoms)) (nm q.head) fun k h => nm_eq _ k h)
  obtain ⟨name, head, xs⟩ := q
  have hfh := hq.few
  have hfa := hq.fewA
  have hat := hq.atoms
  clear hq
  simp only at hfh hfa hat hH hA HSC HNB HAT HWD HST ⊢
  generalize shapeC ⟨name, head, xs⟩ = code at HSC ⊢
  have HIN := Lib.hid r07isName_any
  go_enter Tryd.func4, Tryd.ntmps4
  go_upto_region 1 with fail
  have hb0 := below_alloc w (.cells #[.string name, .slice AH head.length cH, .slice AA xs.length cA] 25)
  have hQ0 : Row (w.alloc (.cells #[.string name, .slice AH head.length cH, .slice AA xs.length cA] 25)) w.heap.size 25 [.string name, .slice AH head.length cH, .slice AA xs.length cA] := Row.new _ _ _
  generalize w.alloc _ = w0 at hb0 hQ0 ⊢
  have q0 : w0.cell? ⟨w.heap.size, 0, none⟩ = some (.string name) := hQ0.cell 0
  have hH0 := hH.later hb0
  have HI0 := Lib.hid (HIN.out name w0)
  go_wp2_with fail
  refine HI0.out.mono ?_
  rintro e w' ⟨rfl, rfl⟩
  clear HI0 q0
  have q1 : w0.cell? ⟨w.heap.size, 1, none⟩ = some (.slice AH head.length cH) := hQ0.cell 1
  go_wp2_with fail
  go_loopw [3, 4] (fun v i wr => ∃ (k : Nat) (b : Bool), k ≤ head.length ∧ i = .int .i64 k ∧ v = .bool b ∧ Hid (b = (nameB name && !anyTo (fun k => !nameB (nm head k)) k)) ∧ w0 = wr) (fun _ i _ => head.length - (intOf i).toNat)
  case atStart => exact ⟨0, nameB name, Nat.zero_le _, rfl, rfl, Lib.hid (by rw [anyTo_zero, Bool.not_false, Bool.and_true]), rfl⟩
  case round =>
    obtain ⟨k, b, hk, rfl, rfl, hbk, rfl⟩ := hrel
    by_cases hlt : k < head.length
    · obtain ⟨ad, hAd, _, hc⟩ := hH0.s_at hlt
      subst hAd
      have b1 : (0 : Int) ≤ k := by omega
      have b2 : (k : Int) < head.length := by omega
      have HN : Hid (∀ b', b' = (b && nameB (nm head k)) → b' = (nameB name && !anyTo (fun k => !nameB (nm head k)) (k + 1))) := Lib.hid fun b' h => by
        rw [h, hbk.out, anyTo_next]
        cases nameB name <;> cases anyTo (fun k => !nameB (nm head k)) k <;> cases nameB (nm head k) <;> rfl
      have HI := Lib.hid (HIN.out (nm head k) w0)
      clear hbk
      cases b
      · have HX := Lib.hid (HN.out false (by rw [Bool.false_and]))
        go_wp2_with fail
        go_roundw
        case rel => exact ⟨k + 1, false, by omega, by go_num, rfl, HX, by first | rfl | trivial⟩
        case measure => simp [intOf]; omega
      · have HX := Lib.hid (HN.out (nameB (nm head k)) (by rw [Bool.true_and]))
        clear HN
        generalize nm head k = y at hc HI HX
        go_wp2_with fail
        refine HI.out.mono ?_
        rintro e w' ⟨rfl, rfl⟩
        go_wp2_with fail
        go_roundw
        case rel => exact ⟨k + 1, nameB y, by omega, by go_num, rfl, HX, by first | rfl | trivial⟩
        case measure => simp [intOf]; omega
    · obtain rfl : k = head.length := by omega
      have HNB2 : Hid (namesB ⟨name, head, xs⟩ = (b && !anyTo (badN xs) xs.length)) := Lib.hid (by rw [HNB.out, hbk.out])
      clear hbk HNB
      have hQ := hQ0
      go_wp2_with fail
      clear q1
      go_loopw [3, 5, 6, 7] (fun v u x i wr => ∃ (k : Nat) (b3 b5 b6 : Bool), k ≤ xs.length ∧ i = .int .i64 k ∧ v = .bool b3 ∧ u = .bool b5 ∧ x = .bool b6 ∧ Hid (b3 = (b && !anyTo (badN xs) k)) ∧ Hid (b5 = !anyTo (fun k => !aterm (am xs k)) k) ∧ Hid (b6 = anyTo (fun k => wideB (am xs k)) k) ∧ Below w0.heap.size w0 wr) (fun _ _ _ i _ => xs.length - (intOf i).toNat)
      case atStart => exact ⟨0, b, true, false, Nat.zero_le _, rfl, rfl, rfl, rfl, Lib.hid (by rw [anyTo_zero, Bool.not_false, Bool.and_true]), Lib.hid (by rw [anyTo_zero]; rfl), Lib.hid (by rw [anyTo_zero]), Below.refl _ _⟩
      case round =>
        obtain ⟨k, b3, b5, b6, hk, rfl, rfl, rfl, rfl, h3, h5, h6, hb⟩ := hrel
        have q2 : wr.cell? ⟨w.heap.size, 2, none⟩ = some (.slice AA xs.length cA) := (hQ.later hb).cell 2
        by_cases hlt : k < xs.length
        · obtain ⟨ad, hAd, _, hc, T, cT, hc1, hT, _⟩ := (hA.later (bthen hb0 hb)) k hlt
          subst hAd
          have b1 : (0 : Int) ≤ k := by omega
          have b2 : (k : Int) < xs.length := by omega
          have hsz := hat _ (am_mem xs k hlt)
          have HN3 : Hid (∀ b', b' = ((b3 && nameB (am xs k).rel) && !anyTo (badT (am xs k).terms) (am xs k).terms.length) → b' = (b && !anyTo (badN xs) (k + 1))) := Lib.hid fun b' h => by
            rw [h, h3.out, anyTo_next, badN_eq]
            cases b <;> cases anyTo (badN xs) k <;> cases nameB (am xs k).rel <;> cases anyTo (badT (am xs k).terms) (am xs k).terms.length <;> rfl
          have HN5 : Hid (∀ b', b' = (b5 && !anyTo (fun j => !termB (tm (am xs k).terms j)) (am xs k).terms.length) → b' = !anyTo (fun k => !aterm (am xs k)) (k + 1)) := Lib.hid fun b' h => by
            rw [h, h5.out, anyTo_next, ← aterm_eq9]
            cases anyTo (fun k => !aterm (am xs k)) k <;> cases aterm (am xs k) <;> rfl
          have HN6 : Hid (∀ b', b' = (b6 || wideB (am xs k)) → b' = anyTo (fun k => wideB (am xs k)) (k + 1)) := Lib.hid fun b' h => by rw [h, h6.out, anyTo_next]
          clear h3 h5 h6
          have hatA : Hid (∀ y, Below wr.heap.size wr y → y.cell? ⟨w.heap.size, 2, none⟩ = some (.slice (some ad) xs.length cA) ∧ y.cell? (ad.add (k * 2)) = some (.string (am xs k).rel) ∧ y.cell? ⟨(ad.add (k * 2)).block, (ad.add (k * 2)).off + 1, none⟩ = some (.slice T (am xs k).terms.length cT)) := Lib.hid fun y hy => ⟨(hQ.later (bthen hb hy)).cell 2, Tab_cell hy hc, Tab_cell hy hc1⟩
          generalize am xs k = a at hc hc1 hT HN3 HN5 HN6 hsz hatA
          obtain ⟨_, hfew, htm⟩ := hsz
          have HI := Lib.hid (HIN.out a.rel wr)
          go_upto_region 10 with fail
          go_cut [3] (fun v wx => v = .bool (b3 && nameB a.rel) ∧ wr = wx)
          case first =>
            cases b3
            · go_wp2_with fail
              go_meet
              exact ⟨rfl, rfl⟩
            · go_wp2_with fail
              refine HI.out.mono ?_
              rintro e w' ⟨rfl, rfl⟩
              go_wp2_with fail
              go_meet
              exact ⟨rfl, rfl⟩
          case rest =>
            obtain ⟨rfl, hwx⟩ := hcut
            subst hwx
            generalize (b3 && nameB a.rel) = b3r at HN3 ⊢
            clear HI
            have HWD9 : Hid (wideB a = decide ((5 : Int) < a.terms.length)) := Lib.hid (by unfold wideB; rw [Bool.eq_iff_iff, decide_eq_true_eq, decide_eq_true_eq]; omega)
            go_upto_region 11 with fail
            go_cut [6] (fun v wx => v = .bool (b6 || wideB a) ∧ wr = wx)
            case first =>
              cases b6
              · go_wp2_with fail
                go_meet
                exact ⟨congrArg Value.bool (by rw [Bool.false_or]; first | exact HWD9.out.symm | rfl), rfl⟩
              · go_wp2_with fail
                go_meet
                exact ⟨rfl, rfl⟩
            case rest =>
              obtain ⟨rfl, hwx⟩ := hcut
              subst hwx
              have HX6 := Lib.hid (HN6.out _ rfl)
              generalize (b6 || wideB a) = b6r at HX6 ⊢
              clear HN6 HWD9
              obtain ⟨wo, hwo⟩ : ∃ wo : World, wo = wr := ⟨_, rfl⟩
              subst hwo
              go_wp2_with fail
              go_loopg [3, 5, 8] a.terms.length (fun g v u i wi => ∃ (m : Nat) (c3 c5 : Bool), m ≤ a.terms.length ∧ g = a.terms.length - m ∧ i = .int .i64 m ∧ v = .bool c3 ∧ u = .bool c5 ∧ Hid (c3 = (b3r && !anyTo (badT a.terms) m)) ∧ Hid (c5 = (b5 && !anyTo (fun j => !termB (tm a.terms j)) m)) ∧ Below wo.heap.size wo wi)
              case atStart => exact ⟨0, b3r, b5, Nat.zero_le _, rfl, rfl, rfl, rfl, Lib.hid (by rw [anyTo_zero, Bool.not_false, Bool.and_true]), Lib.hid (by rw [anyTo_zero, Bool.not_false, Bool.and_true]), Below.refl _ _⟩
              case round =>
                clear q2 hc hc1
                obtain ⟨m, c3, c5, hm, rfl, rfl, rfl, rfl, h3, h5, hbi⟩ := hrel
                obtain ⟨q2, hc, hc1⟩ := hatA.out _ hbi
                by_cases hmlt : m < a.terms.length
                · obtain ⟨ad2, hAd2, _, t0, t1, t2, t3⟩ := (hT.later hbi).t_cells hmlt
                  subst hAd2
                  have b3 : (0 : Int) ≤ m := by omega
                  have b4 : (m : Int) < a.terms.length := by omega
                  have HM3 : Hid (∀ b', b' = (c3 && !badT a.terms m) → b' = (b3r && !anyTo (badT a.terms) (m + 1))) := Lib.hid fun b' h => by
                    rw [h, h3.out, anyTo_next]
                    cases b3r <;> cases anyTo (badT a.terms) m <;> cases badT a.terms m <;> rfl
                  have HM5 : Hid (∀ b', b' = (c5 && termB (tm a.terms m)) → b' = (b5 && !anyTo (fun j => !termB (tm a.terms j)) (m + 1))) := Lib.hid fun b' h => by
                    rw [h, h5.out, anyTo_next]
                    cases b5 <;> cases anyTo (fun j => !termB (tm a.terms j)) m <;> cases termB (tm a.terms m) <;> rfl
                  have HBT : Hid ((!badT a.terms m) = (decide ((tm a.terms m).var = ByteArray.empty) || nameB (tm a.terms m).var)) := Lib.hid (Bool.not_not _)
                  have HTE : Hid ((tm a.terms m).var = ByteArray.empty → termB (tm a.terms m) = valB (tm a.terms m)) := Lib.hid fun h => by unfold termB; rw [if_pos h]
                  have HTN : Hid (¬ (tm a.terms m).var = ByteArray.empty → termB (tm a.terms m) = zeroB (tm a.terms m)) := Lib.hid fun h => by unfold termB; rw [if_neg h]; rfl
                  clear h3 h5
                  generalize (!badT a.terms m) = bt at HM3 HBT
                  generalize tm a.terms m = t at t0 t1 t2 t3 HM5 HBT HTE HTN
                  have he := isEmpty_empty t.var
                  go_upto_region 16 with fail
                  have hbt := below_alloc wr (.cells #[.string t.var, .int .i64 t.kind, .int .i64 t.num, .string t.text] 52)
                  have hR5 : Row (wr.alloc (.cells #[.string t.var, .int .i64 t.kind, .int .i64 t.num, .string t.text] 52)) wr.heap.size 52 [.string t.var, .int .i64 t.kind, .int .i64 t.num, .string t.text] := Row.new _ _ _
                  have hB5 := bthen hbi hbt
                  generalize wr.heap.size = gt at hR5 ⊢
                  generalize wr.alloc _ = w5 at hR5 hB5 ⊢
                  have d0 : w5.cell? ⟨gt, 0, none⟩ = some (.string t.var) := hR5.cell 0
                  have d1 : w5.cell? ⟨gt, 1, none⟩ = some (.int .i64 t.kind) := hR5.cell 1
                  have d2 : w5.cell? ⟨gt, 2, none⟩ = some (.int .i64 t.num) := hR5.cell 2
                  have d3 : w5.cell? ⟨gt, 3, none⟩ = some (.string t.text) := hR5.cell 3
                  clear hbt hbi q2 hc hc1 t0 t1 t2 t3
                  by_cases hv : t.var = ByteArray.empty
                  · have HX3 := Lib.hid (HM3.out c3 (by rw [HBT.out, decide_eq_true hv, Bool.true_or, Bool.and_true]))
                    have HX5 := Lib.hid (HM5.out (c5 && valB t) (by rw [HTE.out hv]))
                    rw [decide_eq_true hv] at he
                    clear hv HM3 HM5 HBT HTE HTN
                    cases c5
                    · go_wp2_with fail
                      go_roundg (a.terms.length - (m + 1))
                      case measure => omega
                      case rel => exact ⟨m + 1, c3, _, by omega, rfl, by go_num, rfl, rfl, HX3, HX5, hB5⟩
                    · go_wp2_with fail
                      refine (r01valid_any t w5).mono ?_
                      rintro e w6 ⟨rfl, hb6⟩
                      go_wp2_with fail
                      go_roundg (a.terms.length - (m + 1))
                      case measure => omega
                      case rel => exact ⟨m + 1, c3, _, by omega, rfl, by go_num, rfl, rfl, HX3, HX5, bthen hB5 hb6⟩
                  · have HX3 := Lib.hid (HM3.out (c3 && nameB t.var) (by rw [HBT.out, decide_eq_false hv, Bool.false_or]))
                    have HX5 := Lib.hid (HM5.out (c5 && zeroB t) (by rw [HTN.out hv]))
                    rw [decide_eq_false hv] at he
                    have HI5 := Lib.hid (HIN.out t.var w5)
                    clear hv HM3 HM5 HBT HTE HTN
                    go_upto_region 17 with fail
                    go_cut [3] (fun v wx => v = .bool (c3 && nameB t.var) ∧ w5 = wx)
                    case first =>
                      cases c3
                      · go_wp2_with fail
                        go_meet
                        exact ⟨rfl, rfl⟩
                      · go_wp2_with fail
                        refine HI5.out.mono ?_
                        rintro e w' ⟨rfl, rfl⟩
                        go_wp2_with fail
                        go_meet
                        exact ⟨rfl, rfl⟩
                    case rest =>
                      obtain ⟨rfl, hwx⟩ := hcut
                      subst hwx
                      generalize (c3 && nameB t.var) = c3n at HX3 ⊢
                      cases c5
                      · go_wp2_with fail
                        go_roundg (a.terms.length - (m + 1))
                        case measure => omega
                        case rel => exact ⟨m + 1, c3n, _, by omega, rfl, by go_num, rfl, rfl, HX3, HX5, hB5⟩
                      · have hx := toList_nil t.text
                        have HZ : Hid (∀ z : Bool, (z = true ↔ t.kind = 0 ∧ t.num = 0 ∧ t.text = ByteArray.empty) → z = (b5 && !anyTo (fun j => !termB (tm a.terms j)) (m + 1))) := Lib.hid fun z h => by
                          rw [← HX5.out, Bool.true_and, Bool.eq_iff_iff, h]
                          unfold zeroB
                          simp only [Bool.and_eq_true, decide_eq_true_eq, and_assoc]
                        clear HX5
                        go_wp2_with fail
                        all_goals
                          go_roundg (a.terms.length - (m + 1))
                          case measure => omega
                          case rel => exact ⟨m + 1, c3n, _, by omega, rfl, by go_num, rfl, rfl, HX3, Lib.hid (HZ.out _ (by clear HZ HX3 HSC HNB2 HAT HWD HST HIN; simp_all)), hB5⟩
                · obtain rfl : m = a.terms.length := by omega
                  have HX3 := Lib.hid (HN3.out c3 h3.out)
                  have HX5 := Lib.hid (HN5.out c5 h5.out)
                  go_wp2_with fail
                  go_roundw
                  case measure => simp [intOf]; omega
                  case rel => exact ⟨k + 1, c3, c5, b6r, by omega, by go_num, rfl, rfl, rfl, HX3, HX5, HX6, bthen hb hbi⟩
        · obtain rfl : k = xs.length := by omega
          have HN9 : Hid (namesB ⟨name, head, xs⟩ = b3) := Lib.hid (by rw [HNB2.out, h3.out])
          have HA9 : Hid (xs.all aterm = b5) := Lib.hid (by rw [HAT.out, h5.out])
          have HW9 : Hid (xs.any wideB = b6) := Lib.hid (by rw [HWD.out, h6.out])
          have hB := bthen hb0 hb
          have hQw := hQ.later hb
          clear h3 h5 h6 HNB2 HAT HWD hb hQ hQ0 hH0 hb0 hat
          cases b3
          · have HX : Hid ((72 : Int) = code) := Lib.hid (by rw [HSC.out, if_pos HN9.out])
            clear HSC
            go_wp2_with fail
            go_ret
            exact ⟨congrArg (fun z => Ending.returned (.int .i64 z)) HX.out, hB⟩
          · cases b5
            · have HX : Hid ((21 : Int) = code) := Lib.hid (by rw [HSC.out, if_neg (by rw [HN9.out]; simp), if_pos HA9.out])
              clear HSC
              go_wp2_with fail
              go_ret
              exact ⟨congrArg (fun z => Ending.returned (.int .i64 z)) HX.out, hB⟩
            · have HS3 : Hid (code = if xs.length = 0 ∨ 6 < xs.length then 90 else if xs.any wideB = true then 91 else if dupB head = true then 92 else if head.any (strayB (qvars xs)) = true then 93 else 0) := Lib.hid (by rw [HSC.out, if_neg (by rw [HN9.out]; simp), if_neg (by rw [HA9.out]; simp)])
              clear HSC HN9 HA9
              by_cases hcnt : xs.length = 0 ∨ 6 < xs.length
              · have HX : Hid ((90 : Int) = code) := Lib.hid (by rw [HS3.out, if_pos hcnt])
                clear HS3
                rcases hcnt with hcnt | hcnt
                · have g1 : decide ((xs.length : Int) < 1) = true := decide_eq_true (by omega)
                  have g1n : decide (xs.length < 1) = true := decide_eq_true (by omega)
                  clear hcnt
                  go_wp2_with fail
                  go_ret
                  exact ⟨congrArg (fun z => Ending.returned (.int .i64 z)) HX.out, hB⟩
                · have g1 : decide ((xs.length : Int) < 1) = false := decide_eq_false (by omega)
                  have g1n : decide (xs.length < 1) = false := decide_eq_false (by omega)
                  have g2 : decide ((6 : Int) < xs.length) = true := decide_eq_true (by omega)
                  have g2n : decide (6 < xs.length) = true := decide_eq_true (by omega)
                  clear hcnt
                  go_wp2_with fail
                  go_ret
                  exact ⟨congrArg (fun z => Ending.returned (.int .i64 z)) HX.out, hB⟩
              · have g1 : decide ((xs.length : Int) < 1) = false := decide_eq_false (by omega)
                have g1n : decide (xs.length < 1) = false := decide_eq_false (by omega)
                have g2 : decide ((6 : Int) < xs.length) = false := decide_eq_false (by omega)
                have g2n : decide (6 < xs.length) = false := decide_eq_false (by omega)
                have hl6 : xs.length ≤ 6 := by omega
                have HS4 : Hid (code = if xs.any wideB = true then 91 else if dupB head = true then 92 else if head.any (strayB (qvars xs)) = true then 93 else 0) := Lib.hid (by rw [HS3.out, if_neg hcnt])
                clear hcnt HS3
                cases b6
                · have hl5 : ∀ a ∈ xs, a.terms.length ≤ 5 := fun a ha => by
                    have h := List.any_eq_false.1 HW9.out a ha
                    have h' : wideB a = false := by simpa using h
                    have := of_decide_eq_false h'
                    omega
                  have HS5 : Hid (code = if dupB head = true then 92 else if head.any (strayB (qvars xs)) = true then 93 else 0) := Lib.hid (by rw [HS4.out, if_neg (by rw [HW9.out]; simp)])
                  clear HS4 HW9
                  go_wp2_with fail
                  clear q2 g1 g1n g2 g2n
                  obtain ⟨wo, hwo⟩ : ∃ wo : World, wo = wr := ⟨_, rfl⟩
                  subst hwo
                  go_loopw [10] (fun i wi => ∃ m : Nat, m ≤ head.length ∧ i = .int .i64 m ∧ Hid (∀ j, j < m → dupAt head j = false) ∧ Below wo.heap.size wo wi) (fun i _ => head.length - (intOf i).toNat)
                  case atStart => exact ⟨0, Nat.zero_le _, rfl, Lib.hid fun j hj => absurd hj (Nat.not_lt_zero _), Below.refl _ _⟩
                  case round =>
                    obtain ⟨m, hm, rfl, hno, hbi⟩ := hrel
                    have q1 : wr.cell? ⟨w.heap.size, 1, none⟩ = some (.slice AH head.length cH) := (hQw.later hbi).cell 1
                    have hHi := hH.later (bthen hB hbi)
                    by_cases hmlt : m < head.length
                    · obtain ⟨ad, hAd, _, hc⟩ := hHi.s_at hmlt
                      subst hAd
                      have b1 : (0 : Int) ≤ m := by omega
                      have b2 : (m : Int) < head.length := by omega
                      have hdp := dup_at hmlt
                      have HN : Hid (dupAt head m = false → ∀ j, j < m + 1 → dupAt head j = false) := Lib.hid fun h j hj => by
                        rcases Nat.lt_or_ge j m with d | d
                        · exact hno.out j d
                        · obtain rfl : j = m := by omega
                          exact h
                      have HT : Hid (dupAt head m = true → (92 : Int) = code) := Lib.hid fun h => by
                        rw [HS5.out, if_pos]
                        exact (anyTo_iff (p := dupAt head) (n := head.length)).2 ⟨m, hmlt, h⟩
                      clear hno
                      have HCA : Hid (∀ y : World, Below wr.heap.size wr y → Calls Tryd.prog 15 #[.slice (some ad) head.length cH, .string (nm head m)] y fun e w' => e = .returned (.int .i64 (atI head (nm head m))) ∧ Below wr.heap.size wr w') := Lib.hid fun y hy => (at9_any (some ad) head cH (nm head m) y (by omega) (hHi.later hy)).mono fun e w' ⟨he, hw⟩ => ⟨he, by rw [← hw]; exact hy⟩
                      have HK : Hid (∀ y : World, Below wr.heap.size wr y → Below wr.heap.size wr y ∧ y.cell? ⟨w.heap.size, 1, none⟩ = some (.slice (some ad) head.length cH) ∧ y.cell? (ad.add m) = some (.string (nm head m))) := Lib.hid fun y hy => ⟨hy, Tab_cell hy q1, Tab_cell hy hc⟩
                      generalize nm head m = y at hc hdp HCA HK
                      generalize atI head y = z at hdp HCA
                      obtain ⟨db, hdb⟩ : ∃ db, dupAt head m = db := ⟨_, rfl⟩
                      rw [hdb] at hdp HN HT
                      clear hdb
                      go_upto_region 31 with fail
                      go_cut [133] (fun v wx => v = .bool db ∧ Below wr.heap.size wr wx)
                      case first =>
                        go_region_held3 (fun x : World => Below wr.heap.size wr x ∧ x.cell? ⟨w.heap.size, 1, none⟩ = some (.slice (some ad) head.length cH) ∧ x.cell? (ad.add m) = some (.string y))
                          (first | exact HK.out _ (by assumption) | exact HK.out _ (Below.refl _ _) | exact HK.out _ (Below.refl _ _).drew)
                          (first | (go_at_call 15; refine (HCA.out _ (by first | assumption | exact Below.refl _ _ | exact (Below.refl _ _).drew)).mono ?_; rintro e w4 ⟨rfl, hb4⟩))
                        all_goals
                          go_wp2_with fail
                          go_meet
                          exact ⟨congrArg Value.bool (by first | rfl | exact hdp), by assumption⟩
                      case rest =>
                        obtain ⟨rfl, hbc⟩ := hcut
                        have hbn := bthen hbi hbc
                        cases db
                        · have HX := Lib.hid (HN.out rfl)
                          go_wp2_with fail
                          go_roundw
                          case rel => exact ⟨m + 1, by omega, by go_num, HX, hbn⟩
                          case measure => simp [intOf]; omega
                        · have HX := Lib.hid (HT.out rfl)
                          go_wp2_with fail
                          go_ret
                          exact ⟨congrArg (fun z => Ending.returned (.int .i64 z)) HX.out, bthen hB hbn⟩
                    · obtain rfl : m = head.length := by omega
                      have HS6 : Hid (code = if head.any (strayB (qvars xs)) = true then 93 else 0) := Lib.hid (by
                        rw [HS5.out, if_neg]
                        intro h
                        obtain ⟨j, hj, h2⟩ := anyTo_iff.1 (show anyTo (dupAt head) head.length = true from h)
                        rw [hno.out j hj] at h2; cases h2)
                      have hBi := bthen hB hbi
                      have hQi := hQw.later hbi
                      have q0 : wr.cell? ⟨w.heap.size, 0, none⟩ = some (.string name) := hQi.cell 0
                      have q2 : wr.cell? ⟨w.heap.size, 2, none⟩ = some (.slice AA xs.length cA) := hQi.cell 2
                      have HVC := Lib.hid (r09vars_any name AH head.length cH AA xs cA wr hl6 hl5 (hA.later hBi))
                      have hvl := qvars_length hl5 hl6
                      obtain ⟨vars, hvars⟩ : ∃ vars, qvars xs = vars := ⟨_, rfl⟩
                      rw [hvars] at HS6 HVC hvl HST
                      clear hvars HS5 hno hbi hHi
                      go_wp2_with fail
                      refine HVC.out.mono ?_
                      rintro e w5 ⟨v, rfl, hown, hb5⟩
                      obtain ⟨AV, cV, rfl, _, _, hV5, _⟩ := Rd.of_own hown
                      have hB5 := bthen hBi hb5
                      have hQ5 := hQi.later hb5
                      have hH5 := hH.later hB5
                      clear q0 q1 q2 HVC hown hb5 hBi hQi hQw hB
                      have q1 : w5.cell? ⟨w.heap.size, 1, none⟩ = some (.slice AH head.length cH) := hQ5.cell 1
                      go_wp2_with fail
                      go_loopw [12] (fun i wi => ∃ m : Nat, m ≤ head.length ∧ i = .int .i64 m ∧ Hid (∀ j, j < m → strayB vars (nm head j) = false) ∧ w5 = wi) (fun i _ => head.length - (intOf i).toNat)
                      case atStart => exact ⟨0, Nat.zero_le _, rfl, Lib.hid fun j hj => absurd hj (Nat.not_lt_zero _), rfl⟩
                      case round =>
                        obtain ⟨m, hm, rfl, hno, rfl⟩ := hrel
                        by_cases hmlt : m < head.length
                        · obtain ⟨ad, hAd, _, hc⟩ := hH5.s_at hmlt
                          subst hAd
                          have b1 : (0 : Int) ≤ m := by omega
                          have b2 : (m : Int) < head.length := by omega
                          have HN : Hid (strayB vars (nm head m) = false → ∀ j, j < m + 1 → strayB vars (nm head j) = false) := Lib.hid fun h j hj => by
                            rcases Nat.lt_or_ge j m with d | d
                            · exact hno.out j d
                            · obtain rfl : j = m := by omega
                              exact h
                          have HT : Hid (strayB vars (nm head m) = true → (93 : Int) = code) := Lib.hid fun h => by
                            rw [HS6.out, if_pos]
                            rw [HST.out]
                            exact (anyTo_iff (p := fun k => strayB vars (nm head k)) (n := head.length)).2 ⟨m, hmlt, h⟩
                          have HCI := Lib.hid (in9_any AV vars cV (nm head m) w5 (by omega) hV5)
                          have HSB : Hid (strayB vars (nm head m) = !decide (nm head m ∈ vars)) := Lib.hid rfl
                          clear hno
                          generalize strayB vars (nm head m) = sb at HN HT HSB
                          generalize decide (nm head m ∈ vars) = ib at HCI HSB
                          generalize nm head m = y at hc HCI
                          cases ib
                          · have HX := Lib.hid (HT.out HSB.out)
                            go_wp2_with fail
                            refine HCI.out.mono ?_
                            rintro e w6 ⟨rfl, rfl⟩
                            go_wp2_with fail
                            go_ret
                            exact ⟨congrArg (fun z => Ending.returned (.int .i64 z)) HX.out, hB5⟩
                          · have HX := Lib.hid (HN.out HSB.out)
                            go_wp2_with fail
                            refine HCI.out.mono ?_
                            rintro e w6 ⟨rfl, rfl⟩
                            go_wp2_with fail
                            go_roundw
                            case rel => exact ⟨m + 1, by omega, by go_num, HX, by first | rfl | trivial⟩
                            case measure => simp [intOf]; omega
                        · obtain rfl : m = head.length := by omega
                          have HX : Hid ((0 : Int) = code) := Lib.hid (by
                            rw [HS6.out, if_neg]
                            intro h
                            rw [HST.out] at h
                            obtain ⟨j, hj, h2⟩ := anyTo_iff.1 h
                            have := hno.out j hj
                            rw [this] at h2; cases h2)
                          go_wp2_with fail
                          go_ret
                          exact ⟨congrArg (fun z => Ending.returned (.int .i64 z)) HX.out, hB5⟩
                · have HX : Hid ((91 : Int) = code) := Lib.hid (by rw [HS4.out, if_pos HW9.out])
                  clear HS4
                  go_wp2_with fail
                  go_ret
                  exact ⟨congrArg (fun z => Ending.returned (.int .i64 z)) HX.out, hB⟩
end Go.Proofs.YtdemmjofggemhaaDoor

/- The contract of osierref14.Of. -/
namespace Go.Proofs.YtdemmjofggemhaaDoor
open Go.RowKit
attribute [local go_sem ↓] uz_and uz_or uz_andNot uz_and_one uz_shr uz_shl_one uz_shl uz_sub uz_sub_one uz_add uz_beq_zero uz_bne_zero uz_beq uz_bne uz_beq_one

end Go.Proofs.YtdemmjofggemhaaDoor
