/- The contract of query.Shape. -/
import Derived.Test.YtbgbjodehbcgiaaGreatDoorQShape2
namespace Go.Proofs.YtbgbjodehbcgiaaGreatDoor
open Go.RowKit

theorem aterm_eq (a : Am) : (!aterm a) = anyTo (fun j => !termB (tm a.terms j)) a.terms.length := by
  unfold aterm
  rw [all_anyTo a.terms termB (tm a.terms) (fun k h => tm_eq _ k h), Bool.not_not]
theorem enter_badTerm (args : Array Value) (w : World) : (callFunc 105 args).run Tryz.prog w = .ok (.enter 105 args) w := by
  go_simp
theorem shape2_any (a : Am) (T : Option Addr) (c : Nat) (w : World) (ha : SzA a) (hT : Rd w w.heap.size T (tms a.terms)) :
    Calls Tryz.prog 103 #[.agg #[.string a.rel, .slice T a.terms.length c]] w fun e w' => e = .returned (.bool (!aterm a)) ∧ Below w.heap.size w w' := by
  rw [aterm_eq]
  have hf := ha.few
  go_enter Tryz.func103, Tryz.ntmps103
  go_wp2_with fail
  have hb0 := below_alloc w (.cells #[.string a.rel, .slice T a.terms.length c] 65)
  generalize w.alloc _ = w0 at hb0 ⊢
  have HC : Hid (Calls Tryz.prog 104 #[.slice T a.terms.length c, .func (.func 105) #[] #[]] w0 fun e w' => e = .returned (.bool (anyTo (fun j => !termB (tm a.terms j)) a.terms.length)) ∧ Below w0.heap.size w0 w') := Lib.hid (by
    refine containsFn_tm 105 #[] (fun j => !termB (tm a.terms j)) T a.terms c w0 (by omega) (hT.later hb0) enter_badTerm (fun k hk wr hb => ?_)
    exact badTerm_any (tm a.terms k) wr)
  refine HC.out.mono ?_
  rintro e w1 ⟨rfl, hb1⟩
  go_wp2_with fail
  go_ret
  exact ⟨rfl, bthen hb0 hb1⟩
theorem shape3_any (a : Am) (T : Option Addr) (c : Nat) (w : World) :
    Calls Tryz.prog 106 #[.agg #[.string a.rel, .slice T a.terms.length c]] w fun e w' => e = .returned (.bool (wideB a)) ∧ Below w.heap.size w w' := by
  have HW : Hid (wideB a = decide ((5 : Int) < a.terms.length)) := Lib.hid (by unfold wideB; rw [Bool.eq_iff_iff, decide_eq_true_eq, decide_eq_true_eq]; omega)
  have HW2 : Hid (wideB a = decide (5 < a.terms.length)) := Lib.hid rfl
  go_enter Tryz.func106, Tryz.ntmps106
  go_wp2_with fail
  go_ret
  exact ⟨congrArg (fun b => Ending.returned (.bool b)) (by first | exact HW.out.symm | exact HW2.out.symm), below_alloc _ _⟩
theorem enter_shape2 (args : Array Value) (w : World) : (callFunc 103 args).run Tryz.prog w = .ok (.enter 103 args) w := by
  go_simp
theorem enter_shape3 (args : Array Value) (w : World) : (callFunc 106 args).run Tryz.prog w = .ok (.enter 106 args) w := by
  go_simp
/-- anyAtom: over the atoms of the query that lies in the block b. -/
theorem shape1_any (F : FuncId) (p : Nat → Bool) (A : Option Addr) (xs : List Am) (c b : Nat) (w : World) (hl : xs.length ≤ 35184372087808) (h2 : w.cell? ⟨b, 2, none⟩ = some (.slice A xs.length c)) (hA : Ats w w.heap.size A xs)
    (hF : ∀ args w, (callFunc F args).run Tryz.prog w = .ok (.enter F args) w)
    (hcall : ∀ k, k < xs.length → ∀ (T : Option Addr) (c1 : Nat) (wr : World), Below w.heap.size w wr → Rd wr wr.heap.size T (tms (am xs k).terms) → Calls Tryz.prog F (#[.agg #[.string (am xs k).rel, .slice T (am xs k).terms.length c1]] ++ #[]) wr fun e w' => e = .returned (.bool (p k)) ∧ Below wr.heap.size wr w') :
    Calls Tryz.prog 100 #[.func (.func F) #[] #[], .pointer (some ⟨b, 0, none⟩)] w fun e w' => e = .returned (.bool (anyTo p xs.length)) ∧ Below w.heap.size w w' := by
  have HC := Lib.hid (containsFn_am F #[] p A xs c w hl hA hF hcall)
  clear hcall hA hF
  go_enter Tryz.func100, Tryz.ntmps100
  go_wp2_with fail
  refine HC.out.mono ?_
  rintro e w1 ⟨rfl, hb1⟩
  go_wp2_with fail
  go_ret
  exact ⟨rfl, hb1⟩

set_option maxHeartbeats 8000000 in
set_option maxRecDepth 100000 in
theorem shape_any (q : Qy) (AH : Option Addr) (cH : Nat) (AA : Option Addr) (cA : Nat) (w : World) (hq : SzQ q) (hcap : q.head.length ≤ cH) (hH : Rd w w.heap.size AH (ss q.head)) (hA : Ats w w.heap.size AA q.atoms) :
    Calls Tryz.prog 71 #[.agg #[.string q.name, .slice AH q.head.length cH, .slice AA q.atoms.length cA]] w fun e w' => e = .returned (.int .i64 (shapeC q)) ∧ Below w.heap.size w w' := by
  have hfh := hq.few
  have hfa := hq.fewA
  have HSC : Hid (shapeC q = if namesB q = false then 72 else if q.atoms.all aterm = false then 21 else if q.atoms.length = 0 ∨ 6 < q.atoms.length then 90 else if q.atoms.any wideB = true then 91 else if dupB q.head = true then 92 else if q.head.any (strayB (qvars q.atoms)) = true then 93 else 0) := Lib.hid rfl
  generalize shapeC q = code at HSC
  go_enter Tryz.func71, Tryz.ntmps71
  go_upto_region 2 with fail
  have hb0 := below_alloc w (.cells #[.string q.name, .slice AH q.head.length cH, .slice AA q.atoms.length cA] 25)
  have hQ0 : Row (w.alloc (.cells #[.string q.name, .slice AH q.head.length cH, .slice AA q.atoms.length cA] 25)) w.heap.size 25 [.string q.name, .slice AH q.head.length cH, .slice AA q.atoms.length cA] := Row.new _ _ _
  generalize w.alloc _ = w0 at hb0 hQ0 ⊢
  have q0 : w0.cell? ⟨w.heap.size, 0, none⟩ = some (.string q.name) := hQ0.cell 0
  have q1 : w0.cell? ⟨w.heap.size, 1, none⟩ = some (.slice AH q.head.length cH) := hQ0.cell 1
  have q2 : w0.cell? ⟨w.heap.size, 2, none⟩ = some (.slice AA q.atoms.length cA) := hQ0.cell 2
  have HBN := Lib.hid (badName_any q AH cH AA cA w0 hq (hH.later hb0) (hA.later hb0))
  cases h1 : namesB q
  · have HX : Hid ((72 : Int) = code) := Lib.hid (by rw [HSC.out, if_pos h1])
    rw [h1] at HBN
    clear h1 HSC
    go_wp2_with fail
    refine HBN.out.mono ?_
    rintro e w1 ⟨rfl, hb1⟩
    go_wp2_with fail
    go_ret
    exact ⟨congrArg (fun z => Ending.returned (.int .i64 z)) HX.out, bthen hb0 hb1⟩
  · rw [h1] at HBN
    have HS2 : Hid (code = if q.atoms.all aterm = false then 21 else if q.atoms.length = 0 ∨ 6 < q.atoms.length then 90 else if q.atoms.any wideB = true then 91 else if dupB q.head = true then 92 else if q.head.any (strayB (qvars q.atoms)) = true then 93 else 0) := Lib.hid (by rw [HSC.out, if_neg (by rw [h1]; simp)])
    clear h1 HSC
    go_wp2_with fail
    refine HBN.out.mono ?_
    rintro e w1 ⟨rfl, hb1⟩
    have hB1 := bthen hb0 hb1
    have hQ1 := hQ0.later hb1
    clear q0 q1 q2 HBN hb0 hb1 hQ0
    have HT : Hid (Calls Tryz.prog 100 #[.func (.func 103) #[] #[], .pointer (some ⟨w.heap.size, 0, none⟩)] w1 fun e w' => e = .returned (.bool (!q.atoms.all aterm)) ∧ Below w1.heap.size w1 w') := Lib.hid (by
      have h := shape1_any 103 (fun k => !aterm (am q.atoms k)) AA q.atoms cA w.heap.size w1 (by omega) (hQ1.cell 2) (hA.later hB1) enter_shape2 (fun k hk T c1 wr hb hT => shape2_any (am q.atoms k) T c1 wr (hq.atoms _ (am_mem q.atoms k hk)) hT)
      rw [all_anyTo q.atoms aterm (am q.atoms) (fun k h => am_eq _ k h), Bool.not_not]
      exact h)
    cases h2 : q.atoms.all aterm
    · have HX : Hid ((21 : Int) = code) := Lib.hid (by rw [HS2.out, if_pos h2])
      rw [h2] at HT
      clear h2 HS2
      go_wp2_with fail
      refine HT.out.mono ?_
      rintro e w2 ⟨rfl, hb2⟩
      go_wp2_with fail
      go_ret
      exact ⟨congrArg (fun z => Ending.returned (.int .i64 z)) HX.out, bthen hB1 hb2⟩
    · rw [h2] at HT
      have HS3 : Hid (code = if q.atoms.length = 0 ∨ 6 < q.atoms.length then 90 else if q.atoms.any wideB = true then 91 else if dupB q.head = true then 92 else if q.head.any (strayB (qvars q.atoms)) = true then 93 else 0) := Lib.hid (by rw [HS2.out, if_neg (by rw [h2]; simp)])
      clear h2 HS2
      go_wp2_with fail
      refine HT.out.mono ?_
      rintro e w2 ⟨rfl, hb2⟩
      have hB2 := bthen hB1 hb2
      have hQ2 := hQ1.later hb2
      have q2 : w2.cell? ⟨w.heap.size, 2, none⟩ = some (.slice AA q.atoms.length cA) := hQ2.cell 2
      clear HT hB1 hb2 hQ1
      by_cases h3 : q.atoms.length = 0 ∨ 6 < q.atoms.length
      · have HX : Hid ((90 : Int) = code) := Lib.hid (by rw [HS3.out, if_pos h3])
        clear HS3
        rcases h3 with h3 | h3
        · have g1 : ((q.atoms.length : Int) == 0) = true := by simp [h3]
          have g1n : (q.atoms.length == 0) = true := by simp [h3]
          clear h3
          go_wp2_with fail
          go_ret
          exact ⟨congrArg (fun z => Ending.returned (.int .i64 z)) HX.out, hB2⟩
        · have g1 : ((q.atoms.length : Int) == 0) = false := by rw [beq_eq_false_iff_ne]; omega
          have g2 : decide ((6 : Int) < q.atoms.length) = true := decide_eq_true (by omega)
          have g2n : decide (6 < q.atoms.length) = true := decide_eq_true h3
          clear h3
          go_wp2_with fail
          go_ret
          exact ⟨congrArg (fun z => Ending.returned (.int .i64 z)) HX.out, hB2⟩
      · have g1 : ((q.atoms.length : Int) == 0) = false := by rw [beq_eq_false_iff_ne]; omega
        have g2 : decide ((6 : Int) < q.atoms.length) = false := decide_eq_false (by omega)
        have g2n : decide (6 < q.atoms.length) = false := decide_eq_false (by omega)
        have h6 : q.atoms.length ≤ 6 := by omega
        have HS4 : Hid (code = if q.atoms.any wideB = true then 91 else if dupB q.head = true then 92 else if q.head.any (strayB (qvars q.atoms)) = true then 93 else 0) := Lib.hid (by rw [HS3.out, if_neg h3])
        clear h3 HS3
        have HT : Hid (Calls Tryz.prog 100 #[.func (.func 106) #[] #[], .pointer (some ⟨w.heap.size, 0, none⟩)] w2 fun e w' => e = .returned (.bool (q.atoms.any wideB)) ∧ Below w2.heap.size w2 w') := Lib.hid (by
          have h := shape1_any 106 (fun k => wideB (am q.atoms k)) AA q.atoms cA w.heap.size w2 (by omega) (hQ2.cell 2) (hA.later hB2) enter_shape3 (fun k hk T c1 wr hb hT => shape3_any (am q.atoms k) T c1 wr)
          rw [any_anyTo q.atoms wideB (am q.atoms) (fun k h => am_eq _ k h)]
          exact h)
        cases h4 : q.atoms.any wideB
        · rw [h4] at HT
          have h5 : ∀ a ∈ q.atoms, a.terms.length ≤ 5 := fun a ha => by
            have := List.any_eq_false.1 h4 a ha
            have h' : wideB a = false := by simpa using this
            have := of_decide_eq_false h'
            omega
          have HS5 : Hid (code = if dupB q.head = true then 92 else if q.head.any (strayB (qvars q.atoms)) = true then 93 else 0) := Lib.hid (by rw [HS4.out, if_neg (by rw [h4]; simp)])
          clear h4 HS4
          go_wp2_with fail
          refine HT.out.mono ?_
          rintro e w3 ⟨rfl, hb3⟩
          have hB3 := bthen hB2 hb3
          have hQ3 := hQ2.later hb3
          have q1 : w3.cell? ⟨w.heap.size, 1, none⟩ = some (.slice AH q.head.length cH) := hQ3.cell 1
          clear HT hB2 hb3 hQ2 q2 g1 g2 g2n
          have HD := Lib.hid (doubled_any AH q.head cH w3 (by omega) hcap (hH.later hB3))
          go_wp2_with fail
          refine HD.out.mono ?_
          rintro e w4 ⟨r, rfl, hr, rfl⟩
          cases h6' : dupB q.head
          · have e1 := hr.out
            rw [h6'] at e1
            have HS6 : Hid (code = if q.head.any (strayB (qvars q.atoms)) = true then 93 else 0) := Lib.hid (by rw [HS5.out, if_neg (by rw [h6']; simp)])
            clear h6' HS5 hr HD
            have q0 : w3.cell? ⟨w.heap.size, 0, none⟩ = some (.string q.name) := hQ3.cell 0
            have q2 : w3.cell? ⟨w.heap.size, 2, none⟩ = some (.slice AA q.atoms.length cA) := hQ3.cell 2
            have HU := Lib.hid (unsafeVar_any q AH cH AA cA w3 hq h6 h5 (hH.later hB3) (hA.later hB3))
            go_wp2_with fail
            refine HU.out.mono ?_
            rintro e w5 ⟨r2, rfl, hr2, hb5⟩
            cases h7 : q.head.any (strayB (qvars q.atoms))
            · have HX : Hid ((0 : Int) = code) := Lib.hid (by rw [HS6.out, if_neg (by rw [h7]; simp)])
              have e2 := hr2.out
              rw [h7] at e2
              clear h7 HS6 hr2 HU
              go_wp2_with fail
              go_ret
              exact ⟨congrArg (fun z => Ending.returned (.int .i64 z)) HX.out, bthen hB3 hb5⟩
            · have HX : Hid ((93 : Int) = code) := Lib.hid (by rw [HS6.out, if_pos h7])
              have e2 := hr2.out
              rw [h7] at e2
              clear h7 HS6 hr2 HU
              go_wp2_with fail
              go_ret
              exact ⟨congrArg (fun z => Ending.returned (.int .i64 z)) HX.out, bthen hB3 hb5⟩
          · have HX : Hid ((92 : Int) = code) := Lib.hid (by rw [HS5.out, if_pos h6'])
            have e1 := hr.out
            rw [h6'] at e1
            clear h6' HS5 hr HD
            go_wp2_with fail
            go_ret
            exact ⟨congrArg (fun z => Ending.returned (.int .i64 z)) HX.out, hB3⟩
        · rw [h4] at HT
          have HX : Hid ((91 : Int) = code) := Lib.hid (by rw [HS4.out, if_pos h4])
          clear h4 HS4
          go_wp2_with fail
          refine HT.out.mono ?_
          rintro e w3 ⟨rfl, hb3⟩
          go_wp2_with fail
          go_ret
          exact ⟨congrArg (fun z => Ending.returned (.int .i64 z)) HX.out, bthen hB2 hb3⟩
end Go.Proofs.YtbgbjodehbcgiaaGreatDoor
