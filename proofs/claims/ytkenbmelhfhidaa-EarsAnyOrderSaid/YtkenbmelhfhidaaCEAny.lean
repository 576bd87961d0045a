/-
  osierlaw15.EarsAnyOrder: for every input the call returns true, and the arguments read as they did: Without the removal's order: steps taken as picks say, as long as there is one, leave the same sets.
  Conditions: none beyond the row's own.
-/
import Derived.Test.YtkenbmelhfhidaaInitF
import Derived.Test.YtkenbmelhfhidaaOpenA
import Derived.Test.YtkenbmelhfhidaaOpenB
import Derived.Test.YtkenbmelhfhidaaLEAny
namespace Go.Proofs.Ytkenbmelhfhidaa.cEarsAnyOrder
open Go.ChangeShapes Go.WideShapes Go.ChangeAt Go.RowKit

set_option maxRecDepth 100000 in
/-- What the walk gives, for every argument and every world. -/
theorem contract (H : Type) (enc : TypeId × Value → H) (W : World) (base : Nat) (args : Array Value) (ds gs : List (DataW H)) (before : List MemPlace)
    (hval : ∀ (j : Nat) t v, Try.f18.params[j]? = some t → args[j]? = some v → Value.okWide Try.prog W .any base t v)
    (hW : DataW.Whole enc Try.prog Try.f18.params.toList Rows.earsAnyOrderSpec.vars false W args.toList ds gs before)
    (hsz : (DataW.weightsEach Try.prog Try.f18.params.toList (ds ++ gs)).all (· ≤ reachBytes) = true) :
    Calls Try.prog 18 args W fun e W' => ∃ v, e = .returned v ∧ Rows.earsAnyOrderSpec.post enc Try.prog Try.f18 false true false false W args v W' := by
  have hW' := hW
  obtain ⟨p, q, hA0, hV, rfl, hfz, hnd⟩ := hW
  have hA : DataW.TrodAll enc Try.prog W 0 (fun _ => true) true Try.f18.params.toList args.toList ds p := hA0
  rw [Try.params18] at hA hval hsz
  obtain ⟨v0, vs0, d0, ds0, p0, q0, hargs, rfl, rfl, h0, r0⟩ := trodAll_cons hA
  obtain ⟨v1, vs1, d1, ds1, p1, q1, rfl, rfl, rfl, h1, r1⟩ := trodAll_cons r0
  obtain ⟨v2, vs2, d2, ds2, p2, q2, rfl, rfl, rfl, h2, r2⟩ := trodAll_cons r1
  obtain ⟨rfl, rfl, rfl⟩ := trodAll_nil r2
  obtain rfl : args = #[v0, v1, v2] := by cases args; simp_all
  obtain ⟨rfl, rfl⟩ := trodVars_none hV
  have hs : (DataW.weights Try.prog 24 d0 ++ (DataW.weights Try.prog 39 d1 ++ (DataW.weights Try.prog 25 d2 ++ []))).all (· ≤ reachBytes) = true := hsz
  simp only [List.all_append, Bool.and_eq_true] at hs
  obtain ⟨V0, A0, E0, c0, rfl, hR0, hl0, _⟩ := open_graph (hval 0 24 v0 rfl rfl) h0
  obtain ⟨x1, rfl⟩ := open_u32 (hval 1 39 v1 rfl rfl) h1
  obtain ⟨A2, Z2, c2, rfl, hR2, hl2⟩ := open_ints_ (hval 2 25 v2 rfl rfl) h2
  refine (law_eany V0 A0 E0 c0 x1 A2 Z2 c2 W (hl0 hs.1) hR0 (hl2 hs.2.2.1) hR2).mono fun e W' ⟨he, hb⟩ => ?_
  subst he
  exact ⟨_, rfl, post_below (pa := _) (pv := []) hW' (fun _ _ _ => trodAll_cons_mk (shut_bool Try.underlying4 _) trodAll_mk0)
    (fun sp hsp => trodAll_cons_mk (WideElems.Trod_stays Try.laidOut (by kernel_rfl) (of_decide_eq_true (by kernel_rfl)) h0 (fun x hx => hb.same (hW'.lt x (by simp [hx]))) (fun x hx => hsp x (by simp [hx]))) (trodAll_cons_mk (WideElems.Trod_stays Try.laidOut (by kernel_rfl) (of_decide_eq_true (by kernel_rfl)) h1 (fun x hx => hb.same (hW'.lt x (by simp [hx]))) (fun x hx => hsp x (by simp [hx]))) (trodAll_cons_mk (WideElems.Trod_stays Try.laidOut (by kernel_rfl) (of_decide_eq_true (by kernel_rfl)) h2 (fun x hx => hb.same (hW'.lt x (by simp [hx]))) (fun x hx => hsp x (by simp [hx]))) trodAll_mk0)))
    (fun _ _ => rfl) (by simp) hb (ok_one (by kernel_rfl) rfl (okWide_bool_mk Try.underlying4 _))⟩

theorem reads (os : Os) {H : Type} (enc : TypeId × Value → H) : ∃ places, DataW.whole enc Try.prog ((World.holding Try.prog os ⟨#[], #[], []⟩).forCall (fun _ _ => 0) ⟨#[], #[.agg #[.int .i64 0, .slice none 0 0], .int .u32 0, .slice none 0 0], []⟩).memory Try.f18.params.toList Rows.earsAnyOrderSpec.vars false #[(.agg #[.int .i64 0, .slice none 0 0] : Value), (.int .u32 0 : Value), (.slice none 0 0 : Value)].toList 8 = some ([.agg [.lit (.int .i64 0), .nil], .lit (.int .u32 0), .nil], [], places) :=
  ⟨[], by kernel_rfl⟩

set_option maxRecDepth 100000 in
theorem lifted (os : Os) (started : os.Started) (H : Type) (enc : TypeId × Value → H) (F : Stop.Interp) :
    ReturnsInHanded {} Try.checked os 18 .any ((OpenSpec.ofChange Rows.earsAnyOrderSpec).preRow enc Try.prog Try.f18 Rows.earsAnyOrderRow.domain false Rows.earsAnyOrderRow.laid) (((OpenSpec.ofChange Rows.earsAnyOrderSpec).at F).post enc Try.prog Try.f18 false true false false) := by
  obtain ⟨places, hx⟩ := reads os enc
  refine returnsInHanded_of_row (C := Try.checked) (s := OpenSpec.ofChange Rows.earsAnyOrderSpec) own_ started (by kernel_rfl) Try.func18
    (witness_row_at (enc := enc) (C := Try.checked) false (World.holding Try.prog os ⟨#[], #[], []⟩) #[.agg #[.int .i64 0, .slice none 0 0], .int .u32 0, .slice none 0 0] rfl (by kernel_rfl) (by kernel_rfl) (by kernel_rfl)
      (OpenSpec.preRow_of_cond 8 hx (by kernel_rfl) (fun k hk => by cases hk) (by kernel_rfl) (laidMet_of_run' 40 (by kernel_rfl) (by kernel_rfl)))) ?_
  intro W base args ds gs before hval hW _ _ hsz hL _ _
  refine contract H enc W base args ds gs before hval hW ?_
  have h2 : (DataW.weightsEach Try.prog (Try.f18.params.toList ++ []) (ds ++ gs)).all (· ≤ reachBytes) = true := hsz
  simpa using h2

set_option maxRecDepth 100000 in
theorem facts : joinedFacts Try.pinned.checked.prog 18 Try.f18 (OpenSpec.ofChange Rows.earsAnyOrderSpec).bare Rows.earsAnyOrderRow = true := by
  have gen : ∀ P : Program, P.mayEnter = true → P.liftsFinal = false → P.make = some .cut → Try.pinned.checked.prog = P → joinedFacts P 18 Try.f18 (OpenSpec.ofChange Rows.earsAnyOrderSpec).bare Rows.earsAnyOrderRow = true := by
    intro P h1 h2 h3 hp
    unfold joinedFacts
    rw [h1, h2, h3]
    subst hp
    kernel_rfl
  exact gen _ mayEnter_ liftsFinal_ make_ rfl
theorem said : Rows.EarsAnyOrderSaid :=
  OpenClaim.holds_of_cond 18 Try.f18 rfl rfl rfl rfl rfl rfl rfl ⟨rfl, rfl, rfl, rfl, rfl⟩ rfl rfl rfl rfl rfl (by kernel_rfl) Try.func18 facts
    (of_decide_eq_true (by kernel_rfl)) (by unfold Func.isWrapper; first | (rw [if_pos (by decide +kernel)]; kernel_rfl) | (rw [if_neg (by decide +kernel)]; exact ⟨rfl, rfl⟩))
    (fun os started H enc _ F => by rw [OpenClaim.pre_eq_preRow]; exact lifted os started H enc F)

end Go.Proofs.Ytkenbmelhfhidaa.cEarsAnyOrder
