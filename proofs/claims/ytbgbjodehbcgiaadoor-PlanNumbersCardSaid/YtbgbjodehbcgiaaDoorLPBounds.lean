/- The walk of osierlaw18.PlanBounds, and of its awake. -/
import Derived.Test.YtbgbjodehbcgiaaDoorPMake
import Derived.Test.YtbgbjodehbcgiaaDoorBL
import Derived.Deep.RegionHeld3
namespace Go.Proofs.YtbgbjodehbcgiaaDoor
open Go.RowKit

theorem awQ_sz : SzQ awQ := by
  refine ⟨by decide, by decide, fun x hx => ?_, by decide, fun a ha => ?_⟩
  · obtain rfl : x = { data := #[120] } := by simpa [awQ] using hx
    decide
  · obtain rfl : a = ⟨{ data := #[82] }, [⟨{ data := #[120] }, 0, 0, ByteArray.empty⟩]⟩ := by simpa [awQ] using ha
    refine ⟨by decide, by decide, fun t ht => ?_⟩
    obtain rfl : t = ⟨{ data := #[120] }, 0, 0, ByteArray.empty⟩ := by simpa using ht
    exact ⟨by decide, by decide⟩
set_option maxRecDepth 100000 in
set_option maxHeartbeats 4000000 in
theorem awake18_any (w : World) (hT : Tab w) : Calls Tryd.prog 27 #[] w fun e w' => e = .returned (.bool true) ∧ Below w.heap.size w w' := by
  go_enter Tryd.func27, Tryd.ntmps27
  have hb0 : Below w.heap.size w (((w.alloc (.cells #[.string { data := #[120] }] 9)).alloc (.cells #[.string { data := #[120] }, .int .i64 0, .int .i64 0, .string { data := #[] }] 111)).alloc (.cells #[.string { data := #[82] }, .slice (some ⟨w.heap.size + 1, 0, none⟩) 1 1] 82)) := ((below_alloc w _).alloc (by simp) _).alloc (by simp; omega) _
  have hr0 : Row (((w.alloc (.cells #[.string { data := #[120] }] 9)).alloc (.cells #[.string { data := #[120] }, .int .i64 0, .int .i64 0, .string { data := #[] }] 111)).alloc (.cells #[.string { data := #[82] }, .slice (some ⟨w.heap.size + 1, 0, none⟩) 1 1] 82)) w.heap.size 9 [.string { data := #[120] }] := ((Row.new w _ _).alloc _).alloc _
  have hr1 : Row (((w.alloc (.cells #[.string { data := #[120] }] 9)).alloc (.cells #[.string { data := #[120] }, .int .i64 0, .int .i64 0, .string { data := #[] }] 111)).alloc (.cells #[.string { data := #[82] }, .slice (some ⟨w.heap.size + 1, 0, none⟩) 1 1] 82)) (w.heap.size + 1) 111 [.string { data := #[120] }, .int .i64 0, .int .i64 0, .string { data := #[] }] := (Row.new_ (by simp)).alloc _
  have hr2 : Row (((w.alloc (.cells #[.string { data := #[120] }] 9)).alloc (.cells #[.string { data := #[120] }, .int .i64 0, .int .i64 0, .string { data := #[] }] 111)).alloc (.cells #[.string { data := #[82] }, .slice (some ⟨w.heap.size + 1, 0, none⟩) 1 1] 82)) (w.heap.size + 1 + 1) 82 [.string { data := #[82] }, .slice (some ⟨w.heap.size + 1, 0, none⟩) 1 1] := Row.new_ (by simp)
  go_wp2_with fail
  generalize ((w.alloc _).alloc _).alloc _ = w0 at hb0 hr0 hr1 hr2 ⊢
  have hM : Calls Tryd.prog 28 #[.agg #[.string { data := #[81] }, .slice (some ⟨w.heap.size, 0, none⟩) 1 1, .slice (some ⟨w.heap.size + 1 + 1, 0, none⟩) 1 1]] w0 (MakeM w0.heap.size awQ w0) := by
    refine plan_make_any awQ (some ⟨w.heap.size, 0, none⟩) 1 (some ⟨w.heap.size + 1 + 1, 0, none⟩) 1 w0 awQ_sz (Nat.le_refl _) hr0.rd (fun k hk => ?_) (hT.later hb0)
    obtain rfl : k = 0 := by have : awQ.atoms.length = 1 := rfl; omega
    exact ⟨_, rfl, hr2.lt, hr2.cell 0, some ⟨w.heap.size + 1, 0, none⟩, 1, hr2.cell 1, hr1.rd, fun c => by cases c⟩
  refine hM.mono ?_
  clear hM hr0 hr1 hr2
  rintro e w1 ⟨p, code, vv, vh, AN, cN, vt, L, rfl, hIS, hpL, hPM, hb1⟩
  obtain ⟨rfl, rfl⟩ := makeIs_uniq hIS.out awQ_make
  obtain ⟨h1, h2, h3, h4, h5⟩ := awQ_facts
  rw [hpL] at h1 h3 h4
  have hnd := hPM.nodes
  have htp := hPM.tops
  obtain ⟨Av, cv, rfl, _, _, _, _⟩ := Rd.of_own hPM.vars
  obtain ⟨Ah, ch, rfl, _, _, _, _⟩ := Rd.of_own hPM.head
  rw [h5] at htp
  obtain ⟨At, ct, rfl, _, _, _, _⟩ := Rd.of_own htp
  have hL2 : L.length = 2 := by rw [List.length_map] at h1; exact h1
  obtain ⟨gN, cN', e1⟩ := own_some hnd (by omega)
  injection e1 with e1 _ e2
  subst e1 e2
  rw [nd_pl L (by omega)] at h3 h4
  have hR1 := (own_rd hnd).1
  obtain ⟨ad, ea, _, hc⟩ := Rd.flat (f := ndC) (m := 7) (fun _ => rfl) hR1 (show 0 < L.length by omega) (by decide)
  obtain ⟨ad', ea', _, hc'⟩ := Rd.flat (f := ndC) (m := 7) (fun _ => rfl) hR1 (show 1 < L.length by omega) (by decide)
  injection ea with ea
  injection ea' with ea'
  subst ea ea'
  have k0 := hc 0 (by decide)
  have k1 := hc' 0 (by decide)
  rw [show (ndC L[0])[0]? = some (.int .i64 L[0].kind) from rfl, show L[0].kind = 1 from h3] at k0
  rw [show (ndC L[1])[0]? = some (.int .i64 L[1].kind) from rfl, show L[1].kind = 2 from h4] at k1
  have k0' : w1.cell? ⟨gN, 0, none⟩ = some (.int .i64 1) := k0
  have k1' : w1.cell? ⟨gN, 7, none⟩ = some (.int .i64 2) := by simpa [Addr.add] using k1
  have hglt : gN < w1.heap.size := (hnd.lt gN rfl).2
  have hB1 := bthen hb0 hb1
  rw [h2, hL2]
  generalize (planE awQ 0).vars.length = nv
  generalize (planE awQ 0).head.length = nh
  clear hIS hpL hPM h1 h2 h3 h4 h5 hnd htp hR1 hc hc' k0 k1 hb0 hb1
  go_wp2_with fail
  go_ret
  exact ⟨by first | rfl | simp, hB1.alloc hB1.size _⟩
set_option maxRecDepth 100000 in
set_option maxHeartbeats 8000000 in
theorem law_pbounds (q : Qy) (AH : Option Addr) (cH : Nat) (AA : Option Addr) (cA : Nat) (w : World) (hq : SzQ q) (hH : Rd w w.heap.size AH (ss q.head)) (hA : Ats w w.heap.size AA q.atoms) (hT : Tab w) :
    Calls Tryd.prog 8 #[.agg #[.string q.name, .slice AH q.head.length cH, .slice AA q.atoms.length cA]] w fun e w' => e = .returned (.bool true) ∧ Below w.heap.size w w' := by
  go_enter Tryd.func8, Tryd.ntmps8
  go_upto_region 1 with fail
  have hb0 := below_alloc w (.cells #[.string q.name, .slice AH q.head.length cH, .slice AA q.atoms.length cA] 25)
  have hQ0 : Row (w.alloc (.cells #[.string q.name, .slice AH q.head.length cH, .slice AA q.atoms.length cA] 25)) w.heap.size 25 [.string q.name, .slice AH q.head.length cH, .slice AA q.atoms.length cA] := Row.new _ _ _
  generalize w.alloc _ = w0 at hb0 hQ0 ⊢
  have q0 : w0.cell? ⟨w.heap.size, 0, none⟩ = some (.string q.name) := hQ0.cell 0
  have q1 : w0.cell? ⟨w.heap.size, 1, none⟩ = some (.slice AH q.head.length cH) := hQ0.cell 1
  have q2 : w0.cell? ⟨w.heap.size, 2, none⟩ = some (.slice AA q.atoms.length cA) := hQ0.cell 2
  go_wp2_with fail
  refine (copyQ_any q AH cH AA cA w0 hq (hH.later hb0) (hA.later hb0)).mono ?_
  rintro e w1 ⟨gh, A1, c1, rfl, hRh, hA1, hb1⟩
  have hB1 := bthen hb0 hb1
  have hQ1 := hQ0.later hb1
  clear q0 q1 q2 hb0 hQ0 hb1
  go_wp2_with fail
  refine (plan_make_any q (some ⟨gh, 0, none⟩) q.head.length A1 c1 w1 hq (Nat.le_refl _) hRh.rd hA1 (hT.later hB1)).mono ?_
  rintro e w2 ⟨p, code, vv, vh, AN, cN, vt, L, rfl, hIS, hpL, hPM, hb2⟩
  obtain ⟨Av, cv, rfl, _, _, _, _⟩ := Rd.of_own hPM.vars
  obtain ⟨Ah, ch, rfl, _, _, _, _⟩ := Rd.of_own hPM.head
  obtain ⟨At, ct, rfl, _, _, _, _⟩ := Rd.of_own hPM.tops
  have hB2 := bthen hB1 hb2
  have hQ2 := hQ1.later hb2
  have hNR : NdR w2 w2.heap.size AN (L.map pl) := NdR.of_own hPM.nodes hPM.nv
  have HF := Lib.hid (bounds_of hIS.out)
  rw [hpL] at HF
  have hLl : (L.map pl).length = L.length := List.length_map _
  rw [hLl] at HF
  clear hIS hpL hPM hRh hA1 hB1 hQ1 hb2 hH hA
  generalize p.tops = tops at HF ⊢
  generalize p.vars.length = nv
  generalize p.head.length = nh
  generalize p.root = root
  go_upto_region 2 with fail
  have hb3 := below_alloc w2 (.cells #[.slice Av nv cv, .slice Ah nh ch, .slice AN L.length cN, .int .i64 root, .slice At tops.length ct] 62)
  have hP3 : Row (w2.alloc (.cells #[.slice Av nv cv, .slice Ah nh ch, .slice AN L.length cN, .int .i64 root, .slice At tops.length ct] 62)) w2.heap.size 62 [.slice Av nv cv, .slice Ah nh ch, .slice AN L.length cN, .int .i64 root, .slice At tops.length ct] := Row.new _ _ _
  have hB3 := bthen hB2 hb3
  have hQ3 := hQ2.later hb3
  have hN3 := hNR.later hb3
  have hT3 := hT.later hB3
  generalize w2.heap.size = gp at hP3 ⊢
  generalize w2.alloc _ = w3 at hP3 hB3 hQ3 hN3 hT3 ⊢
  clear hb3 hB2 hQ2 hNR
  have HK : Hid (∀ y, Below w3.heap.size w3 y → Below w3.heap.size w3 y ∧ y.cell? ⟨gp, 0, none⟩ = some (.slice Av nv cv) ∧ y.cell? ⟨gp, 1, none⟩ = some (.slice Ah nh ch) ∧ y.cell? ⟨gp, 2, none⟩ = some (.slice AN L.length cN) ∧ y.cell? ⟨gp, 3, none⟩ = some (.int .i64 root) ∧ y.cell? ⟨gp, 4, none⟩ = some (.slice At tops.length ct)) := Lib.hid fun y hy => ⟨hy, (hP3.later hy).cell 0, (hP3.later hy).cell 1, (hP3.later hy).cell 2, (hP3.later hy).cell 3, (hP3.later hy).cell 4⟩
  have C4 : Hid (∀ y, Below w3.heap.size w3 y → Calls Tryd.prog 27 #[] y fun e w' => e = .returned (.bool true) ∧ Below w3.heap.size w3 w') := Lib.hid fun y hy => (awake18_any y (hT3.later hy)).mono fun e w' ⟨he, hb⟩ => ⟨he, bthen hy hb⟩
  have p0 : w3.cell? ⟨gp, 0, none⟩ = some (.slice Av nv cv) := hP3.cell 0
  have p1 : w3.cell? ⟨gp, 1, none⟩ = some (.slice Ah nh ch) := hP3.cell 1
  have p2 : w3.cell? ⟨gp, 2, none⟩ = some (.slice AN L.length cN) := hP3.cell 2
  have p3 : w3.cell? ⟨gp, 3, none⟩ = some (.int .i64 root) := hP3.cell 3
  have p4 : w3.cell? ⟨gp, 4, none⟩ = some (.slice At tops.length ct) := hP3.cell 4
  by_cases hc : code = 0
  case neg =>
    have e0 : (code != 0) = true := by simpa using hc
    have ht0 : tops = [] := by
      rcases HF.out with ⟨_, a, _⟩ | ⟨a, _⟩
      · exact a
      · exact absurd a hc
    subst ht0
    have C1 := Lib.hid (delay_any Av Ah AN At nv cv nh ch L.length cN 0 ct root w3 (by omega))
    clear HF hN3 hQ3 hc
    go_wp2_with fail
    refine C1.out.mono ?_
    rintro e w4 ⟨rfl, hb4⟩
    go_wp2_with fail
    refine (C4.out w4 hb4).mono ?_
    rintro e w5 ⟨rfl, hb5⟩
    go_wp2_with fail
    go_ret
    exact ⟨by first | rfl | simp, bthen hB3 hb5⟩
  case pos =>
    subst hc
    obtain ⟨t1, t2, t3, t4, t5, t6⟩ : 0 < tops.length ∧ tops.length + 2 ≤ 4 * q.atoms.length ∧ L.length + 2 ≤ 5 * q.atoms.length ∧ (q.atoms.length : Int) ≤ updW (L.map pl) L.length ∧ 1 ≤ q.atoms.length ∧ q.atoms.length ≤ 6 := by
      rcases HF.out with ⟨a, _⟩ | ⟨_, a⟩
      · exact absurd rfl a
      · exact a
    have C1 : Hid (∀ y, Below w3.heap.size w3 y → Calls Tryd.prog 34 #[.agg #[.slice Av nv cv, .slice Ah nh ch, .slice AN L.length cN, .int .i64 root, .slice At tops.length ct]] y fun e w' => e = .returned (.int .i64 (2 * (tops.length : Int))) ∧ Below w3.heap.size w3 w') := Lib.hid fun y hy => (delay_any Av Ah AN At nv cv nh ch L.length cN tops.length ct root y (by omega)).mono fun e w' ⟨he, hb⟩ => ⟨he, bthen hy hb⟩
    have C2 : Hid (∀ y, Below w3.heap.size w3 y → Calls Tryd.prog 36 #[.int .i64 (q.atoms.length : Int)] y fun e w' => e = .returned (.int .i64 (8 * (q.atoms.length : Int) - 4)) ∧ Below w3.heap.size w3 w') := Lib.hid fun y hy => (bound_any (q.atoms.length : Int) y).mono fun e w' ⟨he, hb⟩ => ⟨by rw [he]; unfold boundE; rw [if_neg (by omega)], by rw [← hb]; exact hy⟩
    obtain ⟨u, hu⟩ : ∃ u, updW (L.map pl) L.length = u := ⟨_, rfl⟩
    rw [hu] at t4
    have C3 : Hid (∀ y, Below w3.heap.size w3 y → Calls Tryd.prog 37 #[.agg #[.slice Av nv cv, .slice Ah nh ch, .slice AN L.length cN, .int .i64 root, .slice At tops.length ct]] y fun e w' => e = .returned (.int .i64 u) ∧ Below w3.heap.size w3 w') := Lib.hid fun y hy => by
      have h := update_any Av Ah AN At nv cv nh ch cN tops.length ct (L.map pl) root y (by omega) (hN3.later hy)
      rw [hLl, hu] at h
      exact h.mono fun e w' ⟨he, hb⟩ => ⟨he, bthen hy hb⟩
    have q2 : w3.cell? ⟨w.heap.size, 2, none⟩ = some (.slice AA q.atoms.length cA) := hQ3.cell 2
    clear HF hN3 hQ3 hLl hu
    generalize q.atoms.length = a at *
    generalize tops.length = m at *
    generalize L.length = l at *
    have w1 : IntKind.i64.wrap (2 * (m : Int)) = 2 * (m : Int) := IntWalk.i64_in _ (by omega)
    have w2 : IntKind.i64.wrap (8 * (a : Int)) = 8 * (a : Int) := IntWalk.i64_in _ (by omega)
    have w3' : IntKind.i64.wrap (8 * (a : Int) - 4) = 8 * (a : Int) - 4 := IntWalk.i64_in _ (by omega)
    have w4 : IntKind.i64.wrap (5 * (a : Int)) = 5 * (a : Int) := IntWalk.i64_in _ (by omega)
    have w5 : IntKind.i64.wrap (5 * (a : Int) - 2) = 5 * (a : Int) - 2 := IntWalk.i64_in _ (by omega)
    have d1 : decide ((0 : Int) < 2 * (m : Int)) = true := decide_eq_true (by omega)
    have d2 : decide (2 * (m : Int) ≤ 8 * (a : Int) - 4) = true := decide_eq_true (by omega)
    have d3 : decide ((a : Int) ≤ u) = true := decide_eq_true t4
    have d4 : decide ((l : Int) ≤ 5 * (a : Int) - 2) = true := decide_eq_true (by omega)
    go_upto_region 5 with fail
    clear p0 p1 p2 p3 p4 q2
    go_region_held3 (fun y : World => Below w3.heap.size w3 y ∧ y.cell? ⟨gp, 0, none⟩ = some (.slice Av nv cv) ∧ y.cell? ⟨gp, 1, none⟩ = some (.slice Ah nh ch) ∧ y.cell? ⟨gp, 2, none⟩ = some (.slice AN l cN) ∧ y.cell? ⟨gp, 3, none⟩ = some (.int .i64 root) ∧ y.cell? ⟨gp, 4, none⟩ = some (.slice At m ct))
      (first | exact HK.out _ (by assumption) | exact HK.out _ (Below.refl _ _) | exact HK.out _ (Below.refl _ _).drew)
      (first
        | (go_at_call 34; refine (C1.out _ (by first | assumption | exact (Below.refl _ _).drew)).mono ?_; rintro e w12 ⟨rfl, hb12⟩)
        | (go_at_call 36; refine (C2.out _ (by first | assumption | exact (Below.refl _ _).drew)).mono ?_; rintro e w12 ⟨rfl, hb12⟩)
        | (go_at_call 37; refine (C3.out _ (by first | assumption | exact (Below.refl _ _).drew)).mono ?_; rintro e w12 ⟨rfl, hb12⟩)
        | (go_at_call 27; refine (C4.out _ (by first | assumption | exact (Below.refl _ _).drew)).mono ?_; rintro e w12 ⟨rfl, hb12⟩))
    all_goals
      go_wp2_with fail
      go_ret
      exact ⟨by first | rfl | simp, bthen hB3 (by assumption)⟩
end Go.Proofs.YtbgbjodehbcgiaaDoor
