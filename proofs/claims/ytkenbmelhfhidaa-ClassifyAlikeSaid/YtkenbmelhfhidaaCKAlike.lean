/-
  osierlaw17.ClassifyAlike: for every input the call returns true, and the arguments read as they did: the class doesn't hang on the order of the edges, on an edge that stands twice, nor on bits of vertices that there aren't.
  Conditions: none beyond the row's own.
-/
import Derived.Test.YtkenbmelhfhidaaInitF
import Derived.Test.YtkenbmelhfhidaaOpenA
import Derived.Test.YtkenbmelhfhidaaLKAlike
namespace Go.Proofs.Ytkenbmelhfhidaa.cClassifyAlike
open Go.ChangeShapes Go.WideShapes Go.ChangeAt Go.RowKit

set_option maxRecDepth 100000 in
/-- What the walk gives, for every argument and every world. -/
theorem contract (H : Type) (enc : TypeId × Value → H) (W : World) (base : Nat) (args : Array Value) (ds gs : List (DataW H)) (before : List MemPlace)
    (hval : ∀ (j : Nat) t v, Try.f23.params[j]? = some t → args[j]? = some v → Value.okWide Try.prog W .any base t v)
    (hW : DataW.Whole enc Try.prog Try.f23.params.toList Rows.classifyAlikeSpec.vars false W args.toList ds gs before)
    (hsz : (DataW.weightsEach Try.prog Try.f23.params.toList (ds ++ gs)).all (· ≤ reachBytes) = true) :
    Calls Try.prog 23 args W fun e W' => ∃ v, e = .returned v ∧ Rows.classifyAlikeSpec.post enc Try.prog Try.f23 false true false false W args v W' := by
  have hW' := hW
  obtain ⟨p, q, hA0, hV, rfl, hfz, hnd⟩ := hW
  have hA : DataW.TrodAll enc Try.prog W 0 (fun _ => true) true Try.f23.params.toList args.toList ds p := hA0
  rw [Try.params23] at hA hval hsz
  obtain ⟨v0, vs0, d0, ds0, p0, q0, hargs, rfl, rfl, h0, r0⟩ := trodAll_cons hA
  obtain ⟨v1, vs1, d1, ds1, p1, q1, rfl, rfl, rfl, h1, r1⟩ := trodAll_cons r0
  obtain ⟨v2, vs2, d2, ds2, p2, q2, rfl, rfl, rfl, h2, r2⟩ := trodAll_cons r1
  obtain ⟨rfl, rfl, rfl⟩ := trodAll_nil r2
  obtain rfl : args = #[v0, v1, v2] := by cases args; simp_all
  obtain ⟨rfl, rfl⟩ := trodVars_none hV
  have hs : (DataW.weights Try.prog 24 d0 ++ (DataW.weights Try.prog 39 d1 ++ (DataW.weights Try.prog 3 d2 ++ []))).all (· ≤ reachBytes) = true := hsz
  simp only [List.all_append, Bool.and_eq_true] at hs
  obtain ⟨V0, A0, E0, c0, rfl, hR0, hl0, _⟩ := open_graph (hval 0 24 v0 rfl rfl) h0
  obtain ⟨x1, rfl⟩ := open_u32 (hval 1 39 v1 rfl rfl) h1
  obtain ⟨x2, rfl, hx2⟩ := open_i64 (hval 2 3 v2 rfl rfl) h2
  refine (law_kalike V0 A0 E0 c0 x1 x2 W (hl0 hs.1) hR0).mono fun e W' ⟨he, hb⟩ => ?_
  subst he
  exact ⟨_, rfl, post_below (pa := _) (pv := []) hW' (fun _ _ _ => trodAll_cons_mk (shut_bool Try.underlying4 _) trodAll_mk0)
    (fun sp hsp => trodAll_cons_mk (WideElems.Trod_stays Try.laidOut (by kernel_rfl) (of_decide_eq_true (by kernel_rfl)) h0 (fun x hx => hb.same (hW'.lt x (by simp [hx]))) (fun x hx => hsp x (by simp [hx]))) (trodAll_cons_mk (WideElems.Trod_stays Try.laidOut (by kernel_rfl) (of_decide_eq_true (by kernel_rfl)) h1 (fun x hx => hb.same (hW'.lt x (by simp [hx]))) (fun x hx => hsp x (by simp [hx]))) (trodAll_cons_mk (WideElems.Trod_stays Try.laidOut (by kernel_rfl) (of_decide_eq_true (by kernel_rfl)) h2 (fun x hx => hb.same (hW'.lt x (by simp [hx]))) (fun x hx => hsp x (by simp [hx]))) trodAll_mk0)))
    (fun _ _ => rfl) (by simp) hb (ok_one (by kernel_rfl) rfl (okWide_bool_mk Try.underlying4 _))⟩

theorem reads (os : Os) {H : Type} (enc : TypeId × Value → H) : ∃ places, DataW.whole enc Try.prog ((World.holding Try.prog os ⟨#[], #[], []⟩).forCall (fun _ _ => 0) ⟨#[], #[.agg #[.int .i64 0, .slice none 0 0], .int .u32 0, .int .i64 0], []⟩).memory Try.f23.params.toList Rows.classifyAlikeSpec.vars false #[(.agg #[.int .i64 0, .slice none 0 0] : Value), (.int .u32 0 : Value), (.int .i64 0 : Value)].toList 8 = some ([.agg [.lit (.int .i64 0), .nil], .lit (.int .u32 0), .lit (.int .i64 0)], [], places) :=
  ⟨[], by kernel_rfl⟩

set_option maxRecDepth 100000 in
theorem lifted (os : Os) (started : os.Started) (H : Type) (enc : TypeId × Value → H) (F : Stop.Interp) :
    ReturnsInHanded {} Try.checked os 23 .any ((OpenSpec.ofChange Rows.classifyAlikeSpec).preRow enc Try.prog Try.f23 Rows.classifyAlikeRow.domain false Rows.classifyAlikeRow.laid) (((OpenSpec.ofChange Rows.classifyAlikeSpec).at F).post enc Try.prog Try.f23 false true false false) := by
  obtain ⟨places, hx⟩ := reads os enc
  refine returnsInHanded_of_row (C := Try.checked) (s := OpenSpec.ofChange Rows.classifyAlikeSpec) own_ started (by kernel_rfl) Try.func23
    (witness_row_at (enc := enc) (C := Try.checked) false (World.holding Try.prog os ⟨#[], #[], []⟩) #[.agg #[.int .i64 0, .slice none 0 0], .int .u32 0, .int .i64 0] rfl (by kernel_rfl) (by kernel_rfl) (by kernel_rfl)
      (OpenSpec.preRow_of_cond 8 hx (by kernel_rfl) (fun k hk => by cases hk) (by kernel_rfl) (laidMet_of_run' 40 (by kernel_rfl) (by kernel_rfl)))) ?_
  intro W base args ds gs before hval hW _ _ hsz hL _ _
  refine contract H enc W base args ds gs before hval hW ?_
  have h2 : (DataW.weightsEach Try.prog (Try.f23.params.toList ++ []) (ds ++ gs)).all (· ≤ reachBytes) = true := hsz
  simpa using h2

set_option maxRecDepth 100000 in
theorem facts : joinedFacts Try.pinned.checked.prog 23 Try.f23 (OpenSpec.ofChange Rows.classifyAlikeSpec).bare Rows.classifyAlikeRow = true := by
  have gen : ∀ P : Program, P.mayEnter = true → P.liftsFinal = false → P.make = some .cut → Try.pinned.checked.prog = P → joinedFacts P 23 Try.f23 (OpenSpec.ofChange Rows.classifyAlikeSpec).bare Rows.classifyAlikeRow = true := by
    intro P h1 h2 h3 hp
    unfold joinedFacts
    rw [h1, h2, h3]
    subst hp
    kernel_rfl
  exact gen _ mayEnter_ liftsFinal_ make_ rfl
theorem said : Rows.ClassifyAlikeSaid :=
  OpenClaim.holds_of_cond 23 Try.f23 rfl rfl rfl rfl rfl rfl rfl ⟨rfl, rfl, rfl, rfl, rfl⟩ rfl rfl rfl rfl rfl (by kernel_rfl) Try.func23 facts
    (of_decide_eq_true (by kernel_rfl)) (by unfold Func.isWrapper; first | (rw [if_pos (by decide +kernel)]; kernel_rfl) | (rw [if_neg (by decide +kernel)]; exact ⟨rfl, rfl⟩))
    (fun os started H enc _ F => by rw [OpenClaim.pre_eq_preRow]; exact lifted os started H enc F)

end Go.Proofs.Ytkenbmelhfhidaa.cClassifyAlike
