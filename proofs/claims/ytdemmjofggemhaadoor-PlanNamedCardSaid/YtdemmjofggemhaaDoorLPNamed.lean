/- The walk of osierlaw18.PlanNamed. -/
import Derived.Test.YtdemmjofggemhaaDoorPlain9
import Derived.Test.YtdemmjofggemhaaDoorPRs9
import Derived.Test.YtdemmjofggemhaaDoorBL
import Derived.Test.YtdemmjofggemhaaDoorL18Same
import Derived.Test.YtdemmjofggemhaaDoorBT
import Derived.Test.YtdemmjofggemhaaDoorHeldK
import Derived.Deep.RegionHeld3
set_option linter.unusedSimpArgs false
namespace Go.Proofs.YtdemmjofggemhaaDoor
open Go.RowKit

section
open Go
variable {P : Program} {ops : Array Oper} {Q : Exit → Act → World → Prop} {md : Region.Mode} {S : World → Prop} {l : Nat}
theorem wpAnyU_three {i j k : Nat} {oi oj ok : Oper} {fuel : Nat} {listed : Array Bool} {a : Act} {w : World} (hr : Region.ready md ops listed = [i, j, k]) (hi : ops[i]? = some oi) (hj : ops[j]? = some oj) (hk : ops[k]? = some ok)
    (h1 : ∀ K' : Act → World → Prop, Shut (∀ a w, S w → (S w → wpAnyU P md ops Q l S fuel (listed.setIfInBounds i true) a w) → K' a w) → if Region.wanted oi (yielded ops a.tmps) = true then Oper.wp P oi a w K' Q else K' (a.put oi.dst undef) w)
    (h2 : ∀ K' : Act → World → Prop, Shut (∀ a w, S w → (S w → wpAnyU P md ops Q l S fuel (listed.setIfInBounds j true) a w) → K' a w) → if Region.wanted oj (yielded ops a.tmps) = true then Oper.wp P oj a w K' Q else K' (a.put oj.dst undef) w)
    (h3 : ∀ K' : Act → World → Prop, Shut (∀ a w, S w → (S w → wpAnyU P md ops Q l S fuel (listed.setIfInBounds k true) a w) → K' a w) → if Region.wanted ok (yielded ops a.tmps) = true then Oper.wp P ok a w K' Q else K' (a.put ok.dst undef) w) :
    wpAnyU P md ops Q l S (fuel + 1) listed a w :=
  ⟨fun h0 => absurd h0 (by rw [hr]; simp), fun x hx => by
    rw [hr] at hx
    rcases List.mem_cons.1 hx with rfl | hx
    · exact wpOp_step hi fun K' hK => h1 K' fun a w hS hW => hK a w ⟨fun _ => hS, hW hS⟩
    · rcases List.mem_cons.1 hx with rfl | hx
      · exact wpOp_step hj fun K' hK => h2 K' fun a w hS hW => hK a w ⟨fun _ => hS, hW hS⟩
      · obtain rfl := List.mem_singleton.1 hx
        exact wpOp_step hk fun K' hK => h3 K' fun a w hS hW => hK a w ⟨fun _ => hS, hW hS⟩⟩
end
theorem row_put5 {w : World} {g : Nat} {t : TypeId} {zs : List Value} (h : Row w g t zs) (hl : zs.length = 5) (a b c d f : Value) : Row (((((w.setCell ⟨g, 0, none⟩ a).setCell ⟨g, 1, none⟩ b).setCell ⟨g, 2, none⟩ c).setCell ⟨g, 3, none⟩ d).setCell ⟨g, 4, none⟩ f) g t [a, b, c, d, f] := by
  match zs, hl with
  | [x0, x1, x2, x3, x4], _ => exact row_set5 h a b c d f
theorem row_off5 {w : World} {g g' : Nat} {t : TypeId} {xs : List Value} (h : Row w g t xs) (hg : g ≠ g') (a b c d f : Value) : Row (((((w.setCell ⟨g', 0, none⟩ a).setCell ⟨g', 1, none⟩ b).setCell ⟨g', 2, none⟩ c).setCell ⟨g', 3, none⟩ d).setCell ⟨g', 4, none⟩ f) g t xs :=
  ((((h.far (p := ⟨g', 0, none⟩) hg a).far (p := ⟨g', 1, none⟩) hg b).far (p := ⟨g', 2, none⟩) hg c).far (p := ⟨g', 3, none⟩) hg d).far (p := ⟨g', 4, none⟩) hg f
theorem PCp.put1 {base gv gh gt c : Nat} {A : Option Addr} {p : PPlan} {L : List Nd} {w : World} (x : PCp base gv gh gt A c p L w) {g : Nat} {zs : List Value} (hr : Row w g 38 zs) (i : Nat) (u : Value) : PCp base gv gh gt A c p L (w.setCell ⟨g, i, none⟩ u) :=
  have far : ∀ {g' : Nat} {t' : TypeId} {ys : List Value}, Row w g' t' ys → t' ≠ 38 → Row (w.setCell ⟨g, i, none⟩ u) g' t' ys := fun h hn => h.far (p := ⟨g, i, none⟩) (rowq_ne h hr hn) _
  ⟨far x.v (by decide), far x.h (by decide), far x.t (by decide), own_set x.n hr (by decide), fun m hm => own_set (x.s m hm) hr (by decide), x.e⟩
def plC (gv nv gh nh : Nat) (AM : Option Addr) (nn cM : Nat) (rt : Int) (gt nt : Nat) : List Value := [.slice (some ⟨gv, 0, none⟩) nv nv, .slice (some ⟨gh, 0, none⟩) nh nh, .slice AM nn cM, .int .i64 rt, .slice (some ⟨gt, 0, none⟩) nt nt]
def plZ : List Value := [.slice none 0 0, .slice none 0 0, .slice none 0 0, .int .i64 0, .slice none 0 0]
set_option maxRecDepth 100000 in
set_option maxHeartbeats 8000000 in
theorem law_pnamed (q : Qy) (AH : Option Addr) (cH : Nat) (AA : Option Addr) (cA : Nat) (w : World) (hq : SzQ q) (hH : Rd w w.heap.size AH (ss q.head)) (hA : Ats w w.heap.size AA q.atoms) (hT : Tab w) :
    Calls Tryd.prog 3 #[.agg #[.string q.name, .slice AH q.head.length cH, .slice AA q.atoms.length cA]] w fun e w' => e = .returned (.bool true) ∧ Below w.heap.size w w' := by
  go_enter Tryd.func3, Tryd.ntmps3
  go_upto_region 1 with fail
  have hb0 := below_alloc w (.cells #[.string q.name, .slice AH q.head.length cH, .slice AA q.atoms.length cA] 25)
  have hQ0 : Row (w.alloc (.cells #[.string q.name, .slice AH q.head.length cH, .slice AA q.atoms.length cA] 25)) w.heap.size 25 [.string q.name, .slice AH q.head.length cH, .slice AA q.atoms.length cA] := Row.new _ _ _
  generalize w.alloc _ = w0 at hb0 hQ0 ⊢
  have q0 : w0.cell? ⟨w.heap.size, 0, none⟩ = some (.string q.name) := hQ0.cell 0
  have q1 : w0.cell? ⟨w.heap.size, 1, none⟩ = some (.slice AH q.head.length cH) := hQ0.cell 1
  have q2 : w0.cell? ⟨w.heap.size, 2, none⟩ = some (.slice AA q.atoms.length cA) := hQ0.cell 2
  have HS := Lib.hid (r09shape_any q AH cH AA cA w0 hq (hH.later hb0) (hA.later hb0))
  obtain ⟨sc, hsc⟩ : ∃ c, shapeC q = c := ⟨_, rfl⟩
  rw [hsc] at HS
  have HSC := Lib.hid hsc
  clear hsc
  by_cases hs : sc = 0
  · subst hs
    have HG := Lib.hid (shapeC_iff.1 HSC.out)
    go_wp2_with fail
    refine HS.out.mono ?_
    rintro e w1 ⟨rfl, hb1⟩
    have hB1 := bthen hb0 hb1
    have hQ1 := hQ0.later hb1
    clear q0 q1 q2 hb0 hQ0 hb1 HS
    go_upto_region 3 with fail
    have q0 : w1.cell? ⟨w.heap.size, 0, none⟩ = some (.string q.name) := hQ1.cell 0
    have q1 : w1.cell? ⟨w.heap.size, 1, none⟩ = some (.slice AH q.head.length cH) := hQ1.cell 1
    have q2 : w1.cell? ⟨w.heap.size, 2, none⟩ = some (.slice AA q.atoms.length cA) := hQ1.cell 2
    go_wp2_with fail
    refine (copyQ_any q AH cH AA cA w1 hq (hH.later hB1) (hA.later hB1)).mono ?_
    rintro e w2 ⟨gh, A1, c1, rfl, hRh, hA1, hb2⟩
    have hB2 := bthen hB1 hb2
    have hQ2 := hQ1.later hb2
    clear q0 q1 q2 hB1 hQ1 hb2
    go_wp2_with fail
    refine (plan_make_any q (some ⟨gh, 0, none⟩) q.head.length A1 c1 w2 hq (Nat.le_refl _) hRh.rd hA1 (hT.later hB2)).mono ?_
    rintro e w3 ⟨p, code, vv, vh, AN, cN, vt, L, rfl, hIS, hpL, hPM, hb3⟩
    have hLl : L.length = p.nodes.length := by rw [hpL, List.length_map]
    obtain ⟨Av, cv, rfl, _, _, hrv, _⟩ := Rd.of_own hPM.vars
    obtain ⟨Ah, ch, rfl, _, _, hrh, _⟩ := Rd.of_own hPM.head
    obtain ⟨At, ct, rfl, _, _, hrt, _⟩ := Rd.of_own hPM.tops
    have hNR : NdR w3 w3.heap.size AN p.nodes := by rw [hpL]; exact NdR.of_own hPM.nodes hPM.nv
    have hB3 := bthen hB2 hb3
    have hQ3 := hQ2.later hb3
    have hP3 : PRs w3 p Av Ah AN At := ⟨hrv, hrh, hNR, hrt⟩
    have HSZ := Lib.hid (szp_of hq hIS.out)
    rw [hLl]
    clear hLl hpL hPM hNR hrv hrh hrt hB2 hQ2 hb3 hRh hA1
    go_upto_region 4 with fail
    have hb4 := below_alloc w3 (.cells #[.slice Av p.vars.length cv, .slice Ah p.head.length ch, .slice AN p.nodes.length cN, .int .i64 p.root, .slice At p.tops.length ct] 31)
    have hR4 : Row (w3.alloc (.cells #[.slice Av p.vars.length cv, .slice Ah p.head.length ch, .slice AN p.nodes.length cN, .int .i64 p.root, .slice At p.tops.length ct] 31)) w3.heap.size 31 [.slice Av p.vars.length cv, .slice Ah p.head.length ch, .slice AN p.nodes.length cN, .int .i64 p.root, .slice At p.tops.length ct] := Row.new _ _ _
    have hB4 := bthen hB3 hb4
    have hQ4 := hQ3.later hb4
    have hP4 := hP3.later hb4
    generalize w3.heap.size = g3 at hR4 ⊢
    generalize w3.alloc _ = w4 at hR4 hB4 hQ4 hP4 ⊢
    clear hb4 hB3 hQ3 hP3
    have q0 : w4.cell? ⟨w.heap.size, 0, none⟩ = some (.string q.name) := hQ4.cell 0
    have q1 : w4.cell? ⟨w.heap.size, 1, none⟩ = some (.slice AH q.head.length cH) := hQ4.cell 1
    have q2 : w4.cell? ⟨w.heap.size, 2, none⟩ = some (.slice AA q.atoms.length cA) := hQ4.cell 2
    have HPL := Lib.hid (plain9_any q AH cH AA cA w4 hq HG.out (hH.later hB4) (hA.later hB4))
    have HOK := Lib.hid (plain_ok HG.out)
    generalize plainF (seenOf (oldL q)) = F at HPL HOK
    have HSQ := Lib.hid (szq_ren hq HG.out HOK.out)
    have HGR := Lib.hid (ren_good HG.out HOK.out)
    have HMR := Lib.hid (fun (r : PPlan) (b : Int) (h : MakeIs (renQ F q) r b) => make_ren HSC.out HOK.out hIS.out h)
    have HN : Hid (q.name = (renQ F q).name ∧ q.head.length = (renQ F q).head.length ∧ q.atoms.length = (renQ F q).atoms.length) := Lib.hid ⟨rfl, by simp [renQ], by simp [renQ]⟩
    generalize renQ F q = qp at HPL HSQ HGR HMR HN
    clear HOK HSC HG
    go_wp2_with fail
    with_reducible refine HPL.out.mono ?_
    rintro e w5 ⟨gh5, A5, c5, rfl, hRh5, hA5, hb5⟩
    have hB5 := bthen hB4 hb5
    have hR5 := hR4.later hb5
    have hP5 := hP4.later hb5
    rw [HN.out.1, HN.out.2.1, HN.out.2.2]
    clear q0 q1 q2 hB4 hR4 hP4 hQ4 hb5 HPL HN
    go_upto_region 5 with fail
    have hb6 := below_alloc w5 (.cells #[.string qp.name, .slice (some ⟨gh5, 0, none⟩) qp.head.length qp.head.length, .slice A5 qp.atoms.length c5] 25)
    have hI6 : Row (w5.alloc (.cells #[.string qp.name, .slice (some ⟨gh5, 0, none⟩) qp.head.length qp.head.length, .slice A5 qp.atoms.length c5] 25)) w5.heap.size 25 [.string qp.name, .slice (some ⟨gh5, 0, none⟩) qp.head.length qp.head.length, .slice A5 qp.atoms.length c5] := Row.new _ _ _
    have hB6 := bthen hB5 hb6
    have hR6 := hR5.later hb6
    have hP6 := hP5.later hb6
    have hRh6 : Rd (w5.alloc (.cells #[.string qp.name, .slice (some ⟨gh5, 0, none⟩) qp.head.length qp.head.length, .slice A5 qp.atoms.length c5] 25)) (w5.alloc (.cells #[.string qp.name, .slice (some ⟨gh5, 0, none⟩) qp.head.length qp.head.length, .slice A5 qp.atoms.length c5] 25)).heap.size (some ⟨gh5, 0, none⟩) (ss qp.head) := (hRh5.later hb6).rd
    have hA6 := hA5.later hb6
    have hT6 := hT.later hB6
    generalize w5.heap.size = gi at hI6 ⊢
    generalize w5.alloc _ = w6 at hI6 hB6 hR6 hP6 hRh6 hA6 hT6 ⊢
    clear hb6 hB5 hR5 hP5 hRh5 hA5
    have i0 : w6.cell? ⟨gi, 0, none⟩ = some (.string qp.name) := hI6.cell 0
    have i1 : w6.cell? ⟨gi, 1, none⟩ = some (.slice (some ⟨gh5, 0, none⟩) qp.head.length qp.head.length) := hI6.cell 1
    have i2 : w6.cell? ⟨gi, 2, none⟩ = some (.slice A5 qp.atoms.length c5) := hI6.cell 2
    go_wp2_with fail
    refine (plan_make_any qp (some ⟨gh5, 0, none⟩) qp.head.length A5 c5 w6 HSQ.out (Nat.le_refl _) hRh6 hA6 hT6).mono ?_
    rintro e w7 ⟨r, code', vv', vh', AN', cN', vt', L', rfl, hIS', hpL', hPM', hb7⟩
    obtain ⟨hcc, hrv, hpe⟩ := HMR.out r code' hIS'.out
    subst hcc
    have HSR := Lib.hid (szp_of HSQ.out hIS'.out)
    have hLl : L'.length = r.nodes.length := by rw [hpL', List.length_map]
    obtain ⟨Av', cv', rfl, _, _, hrv', _⟩ := Rd.of_own hPM'.vars
    obtain ⟨Ah', ch', rfl, _, _, hrh', _⟩ := Rd.of_own hPM'.head
    obtain ⟨At', ct', rfl, _, _, hrt', _⟩ := Rd.of_own hPM'.tops
    have hNR : NdR w7 w7.heap.size AN' r.nodes := by rw [hpL']; exact NdR.of_own hPM'.nodes hPM'.nv
    have hB7 := bthen hB6 hb7
    have hR7 := hR6.later hb7
    have hP7 := hP6.later hb7
    have hI7 := hI6.later hb7
    have hA7 := hA6.later hb7
    have hP7' : PRs w7 r Av' Ah' AN' At' := ⟨hrv', hrh', hNR, hrt'⟩
    have HV := Lib.hid hrv
    rw [hLl]
    clear hLl hpL' hPM' hNR hrv' hrh' hrt' hIS' hIS HMR hrv i0 i1 i2 hB6 hR6 hP6 hI6 hRh6 hA6 hT6 hb7
    go_upto_region 6 with fail
    have hb8 := below_alloc w7 (.cells #[.slice Av' r.vars.length cv', .slice Ah' r.head.length ch', .slice AN' r.nodes.length cN', .int .i64 r.root, .slice At' r.tops.length ct'] 31)
    have hR8' : Row (w7.alloc (.cells #[.slice Av' r.vars.length cv', .slice Ah' r.head.length ch', .slice AN' r.nodes.length cN', .int .i64 r.root, .slice At' r.tops.length ct'] 31)) w7.heap.size 31 [.slice Av' r.vars.length cv', .slice Ah' r.head.length ch', .slice AN' r.nodes.length cN', .int .i64 r.root, .slice At' r.tops.length ct'] := Row.new _ _ _
    have hB8 := bthen hB7 hb8
    have hR8 := hR7.later hb8
    have hP8 := hP7.later hb8
    have hI8 := hI7.later hb8
    have hA8 := hA7.later hb8
    have hP8' := hP7'.later hb8
    generalize w7.heap.size = g6 at hR8' ⊢
    generalize w7.alloc _ = w8 at hR8' hB8 hR8 hP8 hI8 hA8 hP8' ⊢
    clear hb8 hB7 hR7 hP7 hI7 hA7 hP7'
    have gcc : (code != code) = false := by simp
    go_upto_region 8 with fail
    have C1 : Hid (∀ y, Below w8.drew.heap.size w8.drew y → Calls Tryd.prog 9 #[.agg #[.slice Av p.vars.length cv, .slice Ah p.head.length ch, .slice AN p.nodes.length cN, .int .i64 p.root, .slice At p.tops.length ct]] y fun e w' => ∃ gv gh gt AN' cN' L, e = .returned (.agg #[.slice (some ⟨gv, 0, none⟩) p.vars.length p.vars.length, .slice (some ⟨gh, 0, none⟩) p.head.length p.head.length, .slice AN' p.nodes.length cN', .int .i64 p.root, .slice (some ⟨gt, 0, none⟩) p.tops.length p.tops.length]) ∧ PCp w8.heap.size gv gh gt AN' cN' p L w' ∧ Below y.heap.size y w') := Lib.hid fun y hy => by
      have h := hP8.later (below_undrew hy)
      refine (of18_own p Av cv Ah ch AN cN At ct y HSZ.out h.1 h.2.1 h.2.2.1 h.2.2.2).mono ?_
      rintro e w' ⟨gv, gh, gt, AN', cN', L, rfl, h, hb⟩
      exact ⟨gv, gh, gt, AN', cN', L, rfl, ⟨h.v, h.h, h.t, own_less h.n hy.size, fun m hm => own_less (h.s m hm) hy.size, h.e⟩, hb⟩
    have C2 : Hid (∀ y, Below w8.drew.heap.size w8.drew y → Calls Tryd.prog 9 #[.agg #[.slice Av' r.vars.length cv', .slice Ah' r.head.length ch', .slice AN' r.nodes.length cN', .int .i64 r.root, .slice At' r.tops.length ct']] y fun e w' => ∃ gv gh gt AN' cN' L, e = .returned (.agg #[.slice (some ⟨gv, 0, none⟩) r.vars.length r.vars.length, .slice (some ⟨gh, 0, none⟩) r.head.length r.head.length, .slice AN' r.nodes.length cN', .int .i64 r.root, .slice (some ⟨gt, 0, none⟩) r.tops.length r.tops.length]) ∧ PCp w8.heap.size gv gh gt AN' cN' r L w' ∧ Below y.heap.size y w') := Lib.hid fun y hy => by
      have h := hP8'.later (below_undrew hy)
      refine (of18_own r Av' cv' Ah' ch' AN' cN' At' ct' y HSR.out h.1 h.2.1 h.2.2.1 h.2.2.2).mono ?_
      rintro e w' ⟨gv, gh, gt, AN', cN', L, rfl, h, hb⟩
      exact ⟨gv, gh, gt, AN', cN', L, rfl, ⟨h.v, h.h, h.t, own_less h.n hy.size, fun m hm => own_less (h.s m hm) hy.size, h.e⟩, hb⟩
    have HK : Hid (∀ y, Below w8.drew.heap.size w8.drew y → y.cell? ⟨g3, 0, none⟩ = some (.slice Av p.vars.length cv) ∧ y.cell? ⟨g3, 1, none⟩ = some (.slice Ah p.head.length ch) ∧ y.cell? ⟨g3, 2, none⟩ = some (.slice AN p.nodes.length cN) ∧ y.cell? ⟨g3, 3, none⟩ = some (.int .i64 p.root) ∧ y.cell? ⟨g3, 4, none⟩ = some (.slice At p.tops.length ct) ∧ y.cell? ⟨g6, 0, none⟩ = some (.slice Av' r.vars.length cv') ∧ y.cell? ⟨g6, 1, none⟩ = some (.slice Ah' r.head.length ch') ∧ y.cell? ⟨g6, 2, none⟩ = some (.slice AN' r.nodes.length cN') ∧ y.cell? ⟨g6, 3, none⟩ = some (.int .i64 r.root) ∧ y.cell? ⟨g6, 4, none⟩ = some (.slice At' r.tops.length ct')) := Lib.hid fun y hy =>
      have h1 := hR8.later (below_undrew hy)
      have h2 := hR8'.later (below_undrew hy)
      ⟨h1.cell 0, h1.cell 1, h1.cell 2, h1.cell 3, h1.cell 4, h2.cell 0, h2.cell 1, h2.cell 2, h2.cell 3, h2.cell 4⟩
    go_cut [8, 9] (fun xa xb wx => ∃ ga gb gv gh gt AM cM L gv' gh' gt' AM' cM' L', xa = .pointer (some ⟨ga, 0, none⟩) ∧ xb = .pointer (some ⟨gb, 0, none⟩) ∧ w8.heap.size ≤ gb ∧ ga ≠ gb ∧ Row wx ga 38 (plC gv p.vars.length gh p.head.length AM p.nodes.length cM p.root gt p.tops.length) ∧ Row wx gb 38 (plC gv' r.vars.length gh' r.head.length AM' r.nodes.length cM' r.root gt' r.tops.length) ∧ PCp w8.heap.size gv gh gt AM cM p L wx ∧ PCp w8.heap.size gv' gh' gt' AM' cM' r L' wx ∧ Below w8.heap.size w8 wx)
    case first =>
      clear hR8' hB8 hR8 hP8 hI8 hA8 hP8' HSZ HSR HV hpe HGR HSQ hq hH hA hT
      generalize p.vars.length = nv at *
      generalize p.head.length = nh at *
      generalize p.nodes.length = nn at *
      generalize p.tops.length = nt at *
      generalize p.root = root at *
      generalize r.vars.length = nv' at *
      generalize r.head.length = nh' at *
      generalize r.nodes.length = nn' at *
      generalize r.tops.length = nt' at *
      generalize r.root = root' at *
      refine wp_region_until 7 (fun y : World => y.cell? ⟨g3, 0, none⟩ = some (.slice Av nv cv) ∧ y.cell? ⟨g3, 1, none⟩ = some (.slice Ah nh ch) ∧ y.cell? ⟨g3, 2, none⟩ = some (.slice AN nn cN) ∧ y.cell? ⟨g3, 3, none⟩ = some (.int .i64 root) ∧ y.cell? ⟨g3, 4, none⟩ = some (.slice At nt ct) ∧ y.cell? ⟨g6, 0, none⟩ = some (.slice Av' nv' cv') ∧ y.cell? ⟨g6, 1, none⟩ = some (.slice Ah' nh' ch') ∧ y.cell? ⟨g6, 2, none⟩ = some (.slice AN' nn' cN') ∧ y.cell? ⟨g6, 3, none⟩ = some (.int .i64 root') ∧ y.cell? ⟨g6, 4, none⟩ = some (.slice At' nt' ct')) (by kernel_rfl) (HK.out _ (Below.refl _ _)) (fun hHeld => ?_)
      generalize hwq : w8.drew = wq at hHeld ⊢
      have hB : Below w8.drew.heap.size w8.drew wq := by rw [← hwq]; exact Below.refl _ _
      clear hwq
      refine uL 0 [0] hHeld ?_
      try simp only [Act.put, uA, u0, u1]
      refine uL 2 [2] hHeld ?_
      try simp only [Act.put, uA, u0, u1]
      refine wpAnyU_three (i := 1) (j := 4) (k := 5) (by kernel_rfl) rfl rfl rfl (fun K hK => ?_) (fun K hK => ?_) (fun K hK => ?_)
      · go_simp
        go_at_call 9
        refine (C1.out _ hB).mono ?_
        rintro e wn ⟨gv, gx, gt, AM, cM, L, rfl, hCa, hb⟩
        replace hB := bthen hB hb
        try replace hZa := hZa.later hb
        try replace hZb := hZb.later hb
        go_wp2_with fail
        rename World => wq
        refine hK.out _ _ (HK.out _ hB) (fun hNew => ?_)
        clear hK K hHeld
        have hHeld := hNew
        clear hNew
        try simp only [Act.put, uA, u0, u1]
        refine wpAnyU_three (i := 3) (j := 4) (k := 5) (by kernel_rfl) rfl rfl rfl (fun K hK => ?_) (fun K hK => ?_) (fun K hK => ?_)
        · go_simp
          go_at_call 9
          refine (C2.out _ hB).mono ?_
          rintro e wn ⟨gv', gx', gt', AM', cM', L', rfl, hCb, hb⟩
          replace hB := bthen hB hb
          try replace hZa := hZa.later hb
          try replace hZb := hZb.later hb
          replace hCa := hCa.later hb
          go_wp2_with fail
          rename World => wq
          refine hK.out _ _ (HK.out _ hB) (fun hNew => ?_)
          clear hK K hHeld
          have hHeld := hNew
          clear hNew
          try simp only [Act.put, uA, u0, u1]
          refine wpAnyU_two (i := 4) (j := 5) (by kernel_rfl) rfl rfl (fun K hK => ?_) (fun K hK => ?_)
          · go_simp
            generalize hwn : wq.alloc (.cells #[.slice none 0 0, .slice none 0 0, .slice none 0 0, .int .i64 0, .slice none 0 0] 38) = wn
            have hb : Below wq.heap.size wq wn := by rw [← hwn]; exact below_alloc _ _
            have hZa : Row wn wq.heap.size 38 plZ := by rw [← hwn]; exact Row.new _ _ _
            have hza : w8.heap.size ≤ wq.heap.size := hB.size
            generalize hga : wq.heap.size = ga at hZa hza ⊢
            try have hne : ga ≠ gb := by (have h1 := hZb.lt; omega)
            clear hga hwn
            replace hB := bthen hB hb
            try replace hZb := hZb.later hb
            try replace hCa := hCa.later hb
            try replace hCb := hCb.later hb
            rename World => wq
            refine hK.out _ _ (HK.out _ hB) (fun hNew => ?_)
            clear hK K hHeld
            have hHeld := hNew
            clear hNew
            try simp only [Act.put, uA, u0, u1]
            refine wpAnyU_one (i := 5) (by kernel_rfl) rfl (fun K hK => ?_)
            go_simp
            generalize hwn : wq.alloc (.cells #[.slice none 0 0, .slice none 0 0, .slice none 0 0, .int .i64 0, .slice none 0 0] 38) = wn
            have hb : Below wq.heap.size wq wn := by rw [← hwn]; exact below_alloc _ _
            have hZb : Row wn wq.heap.size 38 plZ := by rw [← hwn]; exact Row.new _ _ _
            have hzb : w8.heap.size ≤ wq.heap.size := hB.size
            generalize hgb : wq.heap.size = gb at hZb hzb ⊢
            try have hne : ga ≠ gb := by (have h1 := hZa.lt; omega)
            clear hgb hwn
            replace hB := bthen hB hb
            try replace hZa := hZa.later hb
            try replace hCa := hCa.later hb
            try replace hCb := hCb.later hb
            rename World => wq
            refine hK.out _ _ (HK.out _ hB) (fun hNew => ?_)
            clear hK K hHeld
            have hHeld := hNew
            clear hNew
            try simp only [Act.put, uA, u0, u1]
            refine wpAnyU_one (i := 6) (by kernel_rfl) rfl (fun K hK => ?_)
            have z0 : wq.cell? ⟨ga, 0, none⟩ = some (.slice none 0 0) := hZa.cell 0
            have z1 : wq.cell? ⟨ga, 1, none⟩ = some (.slice none 0 0) := hZa.cell 1
            have z2 : wq.cell? ⟨ga, 2, none⟩ = some (.slice none 0 0) := hZa.cell 2
            have z3 : wq.cell? ⟨ga, 3, none⟩ = some (.int .i64 0) := hZa.cell 3
            have z4 : wq.cell? ⟨ga, 4, none⟩ = some (.slice none 0 0) := hZa.cell 4
            have f0 := hZa.frozen 0
            have f1 := hZa.frozen 1
            have f2 := hZa.frozen 2
            have f3 := hZa.frozen 3
            have f4 := hZa.frozen 4
            have fl := hZa.lt
            go_simp
            refine hK.out _ _ (HK.out _ (below_set5 hB hza (.slice (some ⟨gv, 0, none⟩) nv nv) (.slice (some ⟨gx, 0, none⟩) nh nh) (.slice AM nn cM) (.int .i64 root) (.slice (some ⟨gt, 0, none⟩) nt nt))) (fun hNew => ?_)
            clear hK K hHeld
            have hHeld := hNew
            clear hNew
            try simp only [Act.put, uA, u0, u1]
            refine wpAnyU_last (i := 7) (by kernel_rfl) rfl (by kernel_rfl) (fun K hK => ?_)
            have hZa2 := row_put5 hZa rfl (.slice (some ⟨gv, 0, none⟩) nv nv) (.slice (some ⟨gx, 0, none⟩) nh nh) (.slice AM nn cM) (.int .i64 root) (.slice (some ⟨gt, 0, none⟩) nt nt)
            have hZb2 := row_off5 hZb (Ne.symm hne) (.slice (some ⟨gv, 0, none⟩) nv nv) (.slice (some ⟨gx, 0, none⟩) nh nh) (.slice AM nn cM) (.int .i64 root) (.slice (some ⟨gt, 0, none⟩) nt nt)
            have hCa2 := hCa.put5 hZa (.slice (some ⟨gv, 0, none⟩) nv nv) (.slice (some ⟨gx, 0, none⟩) nh nh) (.slice AM nn cM) (.int .i64 root) (.slice (some ⟨gt, 0, none⟩) nt nt)
            have hCb2 := hCb.put5 hZa (.slice (some ⟨gv, 0, none⟩) nv nv) (.slice (some ⟨gx, 0, none⟩) nh nh) (.slice AM nn cM) (.int .i64 root) (.slice (some ⟨gt, 0, none⟩) nt nt)
            have hB2 := below_set5 hB hza (.slice (some ⟨gv, 0, none⟩) nv nv) (.slice (some ⟨gx, 0, none⟩) nh nh) (.slice AM nn cM) (.int .i64 root) (.slice (some ⟨gt, 0, none⟩) nt nt)
            clear z0 z1 z2 z3 z4 f0 f1 f2 f3 f4 fl hZa hZb hCa hCb hB
            generalize (((((wq.setCell _ _).setCell _ _).setCell _ _).setCell _ _).setCell _ _) = wn at hHeld hZa2 hZb2 hCa2 hCb2 hB2 ⊢
            rename World => wq
            have z0 : wq.cell? ⟨gb, 0, none⟩ = some (.slice none 0 0) := hZb2.cell 0
            have z1 : wq.cell? ⟨gb, 1, none⟩ = some (.slice none 0 0) := hZb2.cell 1
            have z2 : wq.cell? ⟨gb, 2, none⟩ = some (.slice none 0 0) := hZb2.cell 2
            have z3 : wq.cell? ⟨gb, 3, none⟩ = some (.int .i64 0) := hZb2.cell 3
            have z4 : wq.cell? ⟨gb, 4, none⟩ = some (.slice none 0 0) := hZb2.cell 4
            have f0 := hZb2.frozen 0
            have f1 := hZb2.frozen 1
            have f2 := hZb2.frozen 2
            have f3 := hZb2.frozen 3
            have f4 := hZb2.frozen 4
            have fl := hZb2.lt
            go_simp
            refine hK.out _ _ ?_
            clear hK K hHeld
            try simp only [Act.put]
            refine wpAnyU_done (by kernel_rfl) ?_ _
            have hZb3 := row_put5 hZb2 rfl (.slice (some ⟨gv', 0, none⟩) nv' nv') (.slice (some ⟨gx', 0, none⟩) nh' nh') (.slice AM' nn' cM') (.int .i64 root') (.slice (some ⟨gt', 0, none⟩) nt' nt')
            have hZa3 := row_off5 hZa2 hne (.slice (some ⟨gv', 0, none⟩) nv' nv') (.slice (some ⟨gx', 0, none⟩) nh' nh') (.slice AM' nn' cM') (.int .i64 root') (.slice (some ⟨gt', 0, none⟩) nt' nt')
            have hCa3 := hCa2.put5 hZb2 (.slice (some ⟨gv', 0, none⟩) nv' nv') (.slice (some ⟨gx', 0, none⟩) nh' nh') (.slice AM' nn' cM') (.int .i64 root') (.slice (some ⟨gt', 0, none⟩) nt' nt')
            have hCb3 := hCb2.put5 hZb2 (.slice (some ⟨gv', 0, none⟩) nv' nv') (.slice (some ⟨gx', 0, none⟩) nh' nh') (.slice AM' nn' cM') (.int .i64 root') (.slice (some ⟨gt', 0, none⟩) nt' nt')
            have hB3 := below_undrew (below_set5 hB2 hzb (.slice (some ⟨gv', 0, none⟩) nv' nv') (.slice (some ⟨gx', 0, none⟩) nh' nh') (.slice AM' nn' cM') (.int .i64 root') (.slice (some ⟨gt', 0, none⟩) nt' nt'))
            go_wp2_with fail
            go_meet
            exact ⟨_, _, _, _, _, _, _, _, _, _, _, _, _, _, rfl, rfl, hzb, hne, hZa3, hZb3, hCa3, hCb3, hB3⟩
          · go_simp
            generalize hwn : wq.alloc (.cells #[.slice none 0 0, .slice none 0 0, .slice none 0 0, .int .i64 0, .slice none 0 0] 38) = wn
            have hb : Below wq.heap.size wq wn := by rw [← hwn]; exact below_alloc _ _
            have hZb : Row wn wq.heap.size 38 plZ := by rw [← hwn]; exact Row.new _ _ _
            have hzb : w8.heap.size ≤ wq.heap.size := hB.size
            generalize hgb : wq.heap.size = gb at hZb hzb ⊢
            try have hne : ga ≠ gb := by (have h1 := hZa.lt; omega)
            clear hgb hwn
            replace hB := bthen hB hb
            try replace hZa := hZa.later hb
            try replace hCa := hCa.later hb
            try replace hCb := hCb.later hb
            rename World => wq
            refine hK.out _ _ (HK.out _ hB) (fun hNew => ?_)
            clear hK K hHeld
            have hHeld := hNew
            clear hNew
            try simp only [Act.put, uA, u0, u1]
            refine wpAnyU_one (i := 4) (by kernel_rfl) rfl (fun K hK => ?_)
            go_simp
            generalize hwn : wq.alloc (.cells #[.slice none 0 0, .slice none 0 0, .slice none 0 0, .int .i64 0, .slice none 0 0] 38) = wn
            have hb : Below wq.heap.size wq wn := by rw [← hwn]; exact below_alloc _ _
            have hZa : Row wn wq.heap.size 38 plZ := by rw [← hwn]; exact Row.new _ _ _
            have hza : w8.heap.size ≤ wq.heap.size := hB.size
            generalize hga : wq.heap.size = ga at hZa hza ⊢
            try have hne : ga ≠ gb := by (have h1 := hZb.lt; omega)
            clear hga hwn
            replace hB := bthen hB hb
            try replace hZb := hZb.later hb
            try replace hCa := hCa.later hb
            try replace hCb := hCb.later hb
            rename World => wq
            refine hK.out _ _ (HK.out _ hB) (fun hNew => ?_)
            clear hK K hHeld
            have hHeld := hNew
            clear hNew
            try simp only [Act.put, uA, u0, u1]
            refine wpAnyU_one (i := 6) (by kernel_rfl) rfl (fun K hK => ?_)
            have z0 : wq.cell? ⟨ga, 0, none⟩ = some (.slice none 0 0) := hZa.cell 0
            have z1 : wq.cell? ⟨ga, 1, none⟩ = some (.slice none 0 0) := hZa.cell 1
            have z2 : wq.cell? ⟨ga, 2, none⟩ = some (.slice none 0 0) := hZa.cell 2
            have z3 : wq.cell? ⟨ga, 3, none⟩ = some (.int .i64 0) := hZa.cell 3
            have z4 : wq.cell? ⟨ga, 4, none⟩ = some (.slice none 0 0) := hZa.cell 4
            have f0 := hZa.frozen 0
            have f1 := hZa.frozen 1
            have f2 := hZa.frozen 2
            have f3 := hZa.frozen 3
            have f4 := hZa.frozen 4
            have fl := hZa.lt
            go_simp
            refine hK.out _ _ (HK.out _ (below_set5 hB hza (.slice (some ⟨gv, 0, none⟩) nv nv) (.slice (some ⟨gx, 0, none⟩) nh nh) (.slice AM nn cM) (.int .i64 root) (.slice (some ⟨gt, 0, none⟩) nt nt))) (fun hNew => ?_)
            clear hK K hHeld
            have hHeld := hNew
            clear hNew
            try simp only [Act.put, uA, u0, u1]
            refine wpAnyU_last (i := 7) (by kernel_rfl) rfl (by kernel_rfl) (fun K hK => ?_)
            have hZa2 := row_put5 hZa rfl (.slice (some ⟨gv, 0, none⟩) nv nv) (.slice (some ⟨gx, 0, none⟩) nh nh) (.slice AM nn cM) (.int .i64 root) (.slice (some ⟨gt, 0, none⟩) nt nt)
            have hZb2 := row_off5 hZb (Ne.symm hne) (.slice (some ⟨gv, 0, none⟩) nv nv) (.slice (some ⟨gx, 0, none⟩) nh nh) (.slice AM nn cM) (.int .i64 root) (.slice (some ⟨gt, 0, none⟩) nt nt)
            have hCa2 := hCa.put5 hZa (.slice (some ⟨gv, 0, none⟩) nv nv) (.slice (some ⟨gx, 0, none⟩) nh nh) (.slice AM nn cM) (.int .i64 root) (.slice (some ⟨gt, 0, none⟩) nt nt)
            have hCb2 := hCb.put5 hZa (.slice (some ⟨gv, 0, none⟩) nv nv) (.slice (some ⟨gx, 0, none⟩) nh nh) (.slice AM nn cM) (.int .i64 root) (.slice (some ⟨gt, 0, none⟩) nt nt)
            have hB2 := below_set5 hB hza (.slice (some ⟨gv, 0, none⟩) nv nv) (.slice (some ⟨gx, 0, none⟩) nh nh) (.slice AM nn cM) (.int .i64 root) (.slice (some ⟨gt, 0, none⟩) nt nt)
            clear z0 z1 z2 z3 z4 f0 f1 f2 f3 f4 fl hZa hZb hCa hCb hB
            generalize (((((wq.setCell _ _).setCell _ _).setCell _ _).setCell _ _).setCell _ _) = wn at hHeld hZa2 hZb2 hCa2 hCb2 hB2 ⊢
            rename World => wq
            have z0 : wq.cell? ⟨gb, 0, none⟩ = some (.slice none 0 0) := hZb2.cell 0
            have z1 : wq.cell? ⟨gb, 1, none⟩ = some (.slice none 0 0) := hZb2.cell 1
            have z2 : wq.cell? ⟨gb, 2, none⟩ = some (.slice none 0 0) := hZb2.cell 2
            have z3 : wq.cell? ⟨gb, 3, none⟩ = some (.int .i64 0) := hZb2.cell 3
            have z4 : wq.cell? ⟨gb, 4, none⟩ = some (.slice none 0 0) := hZb2.cell 4
            have f0 := hZb2.frozen 0
            have f1 := hZb2.frozen 1
            have f2 := hZb2.frozen 2
            have f3 := hZb2.frozen 3
            have f4 := hZb2.frozen 4
            have fl := hZb2.lt
            go_simp
            refine hK.out _ _ ?_
            clear hK K hHeld
            try simp only [Act.put]
            refine wpAnyU_done (by kernel_rfl) ?_ _
            have hZb3 := row_put5 hZb2 rfl (.slice (some ⟨gv', 0, none⟩) nv' nv') (.slice (some ⟨gx', 0, none⟩) nh' nh') (.slice AM' nn' cM') (.int .i64 root') (.slice (some ⟨gt', 0, none⟩) nt' nt')
            have hZa3 := row_off5 hZa2 hne (.slice (some ⟨gv', 0, none⟩) nv' nv') (.slice (some ⟨gx', 0, none⟩) nh' nh') (.slice AM' nn' cM') (.int .i64 root') (.slice (some ⟨gt', 0, none⟩) nt' nt')
            have hCa3 := hCa2.put5 hZb2 (.slice (some ⟨gv', 0, none⟩) nv' nv') (.slice (some ⟨gx', 0, none⟩) nh' nh') (.slice AM' nn' cM') (.int .i64 root') (.slice (some ⟨gt', 0, none⟩) nt' nt')
            have hCb3 := hCb2.put5 hZb2 (.slice (some ⟨gv', 0, none⟩) nv' nv') (.slice (some ⟨gx', 0, none⟩) nh' nh') (.slice AM' nn' cM') (.int .i64 root') (.slice (some ⟨gt', 0, none⟩) nt' nt')
            have hB3 := below_undrew (below_set5 hB2 hzb (.slice (some ⟨gv', 0, none⟩) nv' nv') (.slice (some ⟨gx', 0, none⟩) nh' nh') (.slice AM' nn' cM') (.int .i64 root') (.slice (some ⟨gt', 0, none⟩) nt' nt'))
            go_wp2_with fail
            go_meet
            exact ⟨_, _, _, _, _, _, _, _, _, _, _, _, _, _, rfl, rfl, hzb, hne, hZa3, hZb3, hCa3, hCb3, hB3⟩
        · go_simp
          generalize hwn : wq.alloc (.cells #[.slice none 0 0, .slice none 0 0, .slice none 0 0, .int .i64 0, .slice none 0 0] 38) = wn
          have hb : Below wq.heap.size wq wn := by rw [← hwn]; exact below_alloc _ _
          have hZa : Row wn wq.heap.size 38 plZ := by rw [← hwn]; exact Row.new _ _ _
          have hza : w8.heap.size ≤ wq.heap.size := hB.size
          generalize hga : wq.heap.size = ga at hZa hza ⊢
          try have hne : ga ≠ gb := by (have h1 := hZb.lt; omega)
          clear hga hwn
          replace hB := bthen hB hb
          try replace hZb := hZb.later hb
          try replace hCa := hCa.later hb
          try replace hCb := hCb.later hb
          rename World => wq
          refine hK.out _ _ (HK.out _ hB) (fun hNew => ?_)
          clear hK K hHeld
          have hHeld := hNew
          clear hNew
          try simp only [Act.put, uA, u0, u1]
          refine wpAnyU_two (i := 3) (j := 5) (by kernel_rfl) rfl rfl (fun K hK => ?_) (fun K hK => ?_)
          · go_simp
            go_at_call 9
            refine (C2.out _ hB).mono ?_
            rintro e wn ⟨gv', gx', gt', AM', cM', L', rfl, hCb, hb⟩
            replace hB := bthen hB hb
            try replace hZa := hZa.later hb
            try replace hZb := hZb.later hb
            replace hCa := hCa.later hb
            go_wp2_with fail
            rename World => wq
            refine hK.out _ _ (HK.out _ hB) (fun hNew => ?_)
            clear hK K hHeld
            have hHeld := hNew
            clear hNew
            try simp only [Act.put, uA, u0, u1]
            refine wpAnyU_one (i := 5) (by kernel_rfl) rfl (fun K hK => ?_)
            go_simp
            generalize hwn : wq.alloc (.cells #[.slice none 0 0, .slice none 0 0, .slice none 0 0, .int .i64 0, .slice none 0 0] 38) = wn
            have hb : Below wq.heap.size wq wn := by rw [← hwn]; exact below_alloc _ _
            have hZb : Row wn wq.heap.size 38 plZ := by rw [← hwn]; exact Row.new _ _ _
            have hzb : w8.heap.size ≤ wq.heap.size := hB.size
            generalize hgb : wq.heap.size = gb at hZb hzb ⊢
            try have hne : ga ≠ gb := by (have h1 := hZa.lt; omega)
            clear hgb hwn
            replace hB := bthen hB hb
            try replace hZa := hZa.later hb
            try replace hCa := hCa.later hb
            try replace hCb := hCb.later hb
            rename World => wq
            refine hK.out _ _ (HK.out _ hB) (fun hNew => ?_)
            clear hK K hHeld
            have hHeld := hNew
            clear hNew
            try simp only [Act.put, uA, u0, u1]
            refine wpAnyU_one (i := 6) (by kernel_rfl) rfl (fun K hK => ?_)
            have z0 : wq.cell? ⟨ga, 0, none⟩ = some (.slice none 0 0) := hZa.cell 0
            have z1 : wq.cell? ⟨ga, 1, none⟩ = some (.slice none 0 0) := hZa.cell 1
            have z2 : wq.cell? ⟨ga, 2, none⟩ = some (.slice none 0 0) := hZa.cell 2
            have z3 : wq.cell? ⟨ga, 3, none⟩ = some (.int .i64 0) := hZa.cell 3
            have z4 : wq.cell? ⟨ga, 4, none⟩ = some (.slice none 0 0) := hZa.cell 4
            have f0 := hZa.frozen 0
            have f1 := hZa.frozen 1
            have f2 := hZa.frozen 2
            have f3 := hZa.frozen 3
            have f4 := hZa.frozen 4
            have fl := hZa.lt
            go_simp
            refine hK.out _ _ (HK.out _ (below_set5 hB hza (.slice (some ⟨gv, 0, none⟩) nv nv) (.slice (some ⟨gx, 0, none⟩) nh nh) (.slice AM nn cM) (.int .i64 root) (.slice (some ⟨gt, 0, none⟩) nt nt))) (fun hNew => ?_)
            clear hK K hHeld
            have hHeld := hNew
            clear hNew
            try simp only [Act.put, uA, u0, u1]
            refine wpAnyU_last (i := 7) (by kernel_rfl) rfl (by kernel_rfl) (fun K hK => ?_)
            have hZa2 := row_put5 hZa rfl (.slice (some ⟨gv, 0, none⟩) nv nv) (.slice (some ⟨gx, 0, none⟩) nh nh) (.slice AM nn cM) (.int .i64 root) (.slice (some ⟨gt, 0, none⟩) nt nt)
            have hZb2 := row_off5 hZb (Ne.symm hne) (.slice (some ⟨gv, 0, none⟩) nv nv) (.slice (some ⟨gx, 0, none⟩) nh nh) (.slice AM nn cM) (.int .i64 root) (.slice (some ⟨gt, 0, none⟩) nt nt)
            have hCa2 := hCa.put5 hZa (.slice (some ⟨gv, 0, none⟩) nv nv) (.slice (some ⟨gx, 0, none⟩) nh nh) (.slice AM nn cM) (.int .i64 root) (.slice (some ⟨gt, 0, none⟩) nt nt)
            have hCb2 := hCb.put5 hZa (.slice (some ⟨gv, 0, none⟩) nv nv) (.slice (some ⟨gx, 0, none⟩) nh nh) (.slice AM nn cM) (.int .i64 root) (.slice (some ⟨gt, 0, none⟩) nt nt)
            have hB2 := below_set5 hB hza (.slice (some ⟨gv, 0, none⟩) nv nv) (.slice (some ⟨gx, 0, none⟩) nh nh) (.slice AM nn cM) (.int .i64 root) (.slice (some ⟨gt, 0, none⟩) nt nt)
            clear z0 z1 z2 z3 z4 f0 f1 f2 f3 f4 fl hZa hZb hCa hCb hB
            generalize (((((wq.setCell _ _).setCell _ _).setCell _ _).setCell _ _).setCell _ _) = wn at hHeld hZa2 hZb2 hCa2 hCb2 hB2 ⊢
            rename World => wq
            have z0 : wq.cell? ⟨gb, 0, none⟩ = some (.slice none 0 0) := hZb2.cell 0
            have z1 : wq.cell? ⟨gb, 1, none⟩ = some (.slice none 0 0) := hZb2.cell 1
            have z2 : wq.cell? ⟨gb, 2, none⟩ = some (.slice none 0 0) := hZb2.cell 2
            have z3 : wq.cell? ⟨gb, 3, none⟩ = some (.int .i64 0) := hZb2.cell 3
            have z4 : wq.cell? ⟨gb, 4, none⟩ = some (.slice none 0 0) := hZb2.cell 4
            have f0 := hZb2.frozen 0
            have f1 := hZb2.frozen 1
            have f2 := hZb2.frozen 2
            have f3 := hZb2.frozen 3
            have f4 := hZb2.frozen 4
            have fl := hZb2.lt
            go_simp
            refine hK.out _ _ ?_
            clear hK K hHeld
            try simp only [Act.put]
            refine wpAnyU_done (by kernel_rfl) ?_ _
            have hZb3 := row_put5 hZb2 rfl (.slice (some ⟨gv', 0, none⟩) nv' nv') (.slice (some ⟨gx', 0, none⟩) nh' nh') (.slice AM' nn' cM') (.int .i64 root') (.slice (some ⟨gt', 0, none⟩) nt' nt')
            have hZa3 := row_off5 hZa2 hne (.slice (some ⟨gv', 0, none⟩) nv' nv') (.slice (some ⟨gx', 0, none⟩) nh' nh') (.slice AM' nn' cM') (.int .i64 root') (.slice (some ⟨gt', 0, none⟩) nt' nt')
            have hCa3 := hCa2.put5 hZb2 (.slice (some ⟨gv', 0, none⟩) nv' nv') (.slice (some ⟨gx', 0, none⟩) nh' nh') (.slice AM' nn' cM') (.int .i64 root') (.slice (some ⟨gt', 0, none⟩) nt' nt')
            have hCb3 := hCb2.put5 hZb2 (.slice (some ⟨gv', 0, none⟩) nv' nv') (.slice (some ⟨gx', 0, none⟩) nh' nh') (.slice AM' nn' cM') (.int .i64 root') (.slice (some ⟨gt', 0, none⟩) nt' nt')
            have hB3 := below_undrew (below_set5 hB2 hzb (.slice (some ⟨gv', 0, none⟩) nv' nv') (.slice (some ⟨gx', 0, none⟩) nh' nh') (.slice AM' nn' cM') (.int .i64 root') (.slice (some ⟨gt', 0, none⟩) nt' nt'))
            go_wp2_with fail
            go_meet
            exact ⟨_, _, _, _, _, _, _, _, _, _, _, _, _, _, rfl, rfl, hzb, hne, hZa3, hZb3, hCa3, hCb3, hB3⟩
          · go_simp
            generalize hwn : wq.alloc (.cells #[.slice none 0 0, .slice none 0 0, .slice none 0 0, .int .i64 0, .slice none 0 0] 38) = wn
            have hb : Below wq.heap.size wq wn := by rw [← hwn]; exact below_alloc _ _
            have hZb : Row wn wq.heap.size 38 plZ := by rw [← hwn]; exact Row.new _ _ _
            have hzb : w8.heap.size ≤ wq.heap.size := hB.size
            generalize hgb : wq.heap.size = gb at hZb hzb ⊢
            try have hne : ga ≠ gb := by (have h1 := hZa.lt; omega)
            clear hgb hwn
            replace hB := bthen hB hb
            try replace hZa := hZa.later hb
            try replace hCa := hCa.later hb
            try replace hCb := hCb.later hb
            rename World => wq
            refine hK.out _ _ (HK.out _ hB) (fun hNew => ?_)
            clear hK K hHeld
            have hHeld := hNew
            clear hNew
            try simp only [Act.put, uA, u0, u1]
            refine wpAnyU_one (i := 3) (by kernel_rfl) rfl (fun K hK => ?_)
            go_simp
            go_at_call 9
            refine (C2.out _ hB).mono ?_
            rintro e wn ⟨gv', gx', gt', AM', cM', L', rfl, hCb, hb⟩
            replace hB := bthen hB hb
            try replace hZa := hZa.later hb
            try replace hZb := hZb.later hb
            replace hCa := hCa.later hb
            go_wp2_with fail
            rename World => wq
            refine hK.out _ _ (HK.out _ hB) (fun hNew => ?_)
            clear hK K hHeld
            have hHeld := hNew
            clear hNew
            try simp only [Act.put, uA, u0, u1]
            refine wpAnyU_one (i := 6) (by kernel_rfl) rfl (fun K hK => ?_)
            have z0 : wq.cell? ⟨ga, 0, none⟩ = some (.slice none 0 0) := hZa.cell 0
            have z1 : wq.cell? ⟨ga, 1, none⟩ = some (.slice none 0 0) := hZa.cell 1
            have z2 : wq.cell? ⟨ga, 2, none⟩ = some (.slice none 0 0) := hZa.cell 2
            have z3 : wq.cell? ⟨ga, 3, none⟩ = some (.int .i64 0) := hZa.cell 3
            have z4 : wq.cell? ⟨ga, 4, none⟩ = some (.slice none 0 0) := hZa.cell 4
            have f0 := hZa.frozen 0
            have f1 := hZa.frozen 1
            have f2 := hZa.frozen 2
            have f3 := hZa.frozen 3
            have f4 := hZa.frozen 4
            have fl := hZa.lt
            go_simp
            refine hK.out _ _ (HK.out _ (below_set5 hB hza (.slice (some ⟨gv, 0, none⟩) nv nv) (.slice (some ⟨gx, 0, none⟩) nh nh) (.slice AM nn cM) (.int .i64 root) (.slice (some ⟨gt, 0, none⟩) nt nt))) (fun hNew => ?_)
            clear hK K hHeld
            have hHeld := hNew
            clear hNew
            try simp only [Act.put, uA, u0, u1]
            refine wpAnyU_last (i := 7) (by kernel_rfl) rfl (by kernel_rfl) (fun K hK => ?_)
            have hZa2 := row_put5 hZa rfl (.slice (some ⟨gv, 0, none⟩) nv nv) (.slice (some ⟨gx, 0, none⟩) nh nh) (.slice AM nn cM) (.int .i64 root) (.slice (some ⟨gt, 0, none⟩) nt nt)
            have hZb2 := row_off5 hZb (Ne.symm hne) (.slice (some ⟨gv, 0, none⟩) nv nv) (.slice (some ⟨gx, 0, none⟩) nh nh) (.slice AM nn cM) (.int .i64 root) (.slice (some ⟨gt, 0, none⟩) nt nt)
            have hCa2 := hCa.put5 hZa (.slice (some ⟨gv, 0, none⟩) nv nv) (.slice (some ⟨gx, 0, none⟩) nh nh) (.slice AM nn cM) (.int .i64 root) (.slice (some ⟨gt, 0, none⟩) nt nt)
            have hCb2 := hCb.put5 hZa (.slice (some ⟨gv, 0, none⟩) nv nv) (.slice (some ⟨gx, 0, none⟩) nh nh) (.slice AM nn cM) (.int .i64 root) (.slice (some ⟨gt, 0, none⟩) nt nt)
            have hB2 := below_set5 hB hza (.slice (some ⟨gv, 0, none⟩) nv nv) (.slice (some ⟨gx, 0, none⟩) nh nh) (.slice AM nn cM) (.int .i64 root) (.slice (some ⟨gt, 0, none⟩) nt nt)
            clear z0 z1 z2 z3 z4 f0 f1 f2 f3 f4 fl hZa hZb hCa hCb hB
            generalize (((((wq.setCell _ _).setCell _ _).setCell _ _).setCell _ _).setCell _ _) = wn at hHeld hZa2 hZb2 hCa2 hCb2 hB2 ⊢
            rename World => wq
            have z0 : wq.cell? ⟨gb, 0, none⟩ = some (.slice none 0 0) := hZb2.cell 0
            have z1 : wq.cell? ⟨gb, 1, none⟩ = some (.slice none 0 0) := hZb2.cell 1
            have z2 : wq.cell? ⟨gb, 2, none⟩ = some (.slice none 0 0) := hZb2.cell 2
            have z3 : wq.cell? ⟨gb, 3, none⟩ = some (.int .i64 0) := hZb2.cell 3
            have z4 : wq.cell? ⟨gb, 4, none⟩ = some (.slice none 0 0) := hZb2.cell 4
            have f0 := hZb2.frozen 0
            have f1 := hZb2.frozen 1
            have f2 := hZb2.frozen 2
            have f3 := hZb2.frozen 3
            have f4 := hZb2.frozen 4
            have fl := hZb2.lt
            go_simp
            refine hK.out _ _ ?_
            clear hK K hHeld
            try simp only [Act.put]
            refine wpAnyU_done (by kernel_rfl) ?_ _
            have hZb3 := row_put5 hZb2 rfl (.slice (some ⟨gv', 0, none⟩) nv' nv') (.slice (some ⟨gx', 0, none⟩) nh' nh') (.slice AM' nn' cM') (.int .i64 root') (.slice (some ⟨gt', 0, none⟩) nt' nt')
            have hZa3 := row_off5 hZa2 hne (.slice (some ⟨gv', 0, none⟩) nv' nv') (.slice (some ⟨gx', 0, none⟩) nh' nh') (.slice AM' nn' cM') (.int .i64 root') (.slice (some ⟨gt', 0, none⟩) nt' nt')
            have hCa3 := hCa2.put5 hZb2 (.slice (some ⟨gv', 0, none⟩) nv' nv') (.slice (some ⟨gx', 0, none⟩) nh' nh') (.slice AM' nn' cM') (.int .i64 root') (.slice (some ⟨gt', 0, none⟩) nt' nt')
            have hCb3 := hCb2.put5 hZb2 (.slice (some ⟨gv', 0, none⟩) nv' nv') (.slice (some ⟨gx', 0, none⟩) nh' nh') (.slice AM' nn' cM') (.int .i64 root') (.slice (some ⟨gt', 0, none⟩) nt' nt')
            have hB3 := below_undrew (below_set5 hB2 hzb (.slice (some ⟨gv', 0, none⟩) nv' nv') (.slice (some ⟨gx', 0, none⟩) nh' nh') (.slice AM' nn' cM') (.int .i64 root') (.slice (some ⟨gt', 0, none⟩) nt' nt'))
            go_wp2_with fail
            go_meet
            exact ⟨_, _, _, _, _, _, _, _, _, _, _, _, _, _, rfl, rfl, hzb, hne, hZa3, hZb3, hCa3, hCb3, hB3⟩
        · go_simp
          generalize hwn : wq.alloc (.cells #[.slice none 0 0, .slice none 0 0, .slice none 0 0, .int .i64 0, .slice none 0 0] 38) = wn
          have hb : Below wq.heap.size wq wn := by rw [← hwn]; exact below_alloc _ _
          have hZb : Row wn wq.heap.size 38 plZ := by rw [← hwn]; exact Row.new _ _ _
          have hzb : w8.heap.size ≤ wq.heap.size := hB.size
          generalize hgb : wq.heap.size = gb at hZb hzb ⊢
          try have hne : ga ≠ gb := by (have h1 := hZa.lt; omega)
          clear hgb hwn
          replace hB := bthen hB hb
          try replace hZa := hZa.later hb
          try replace hCa := hCa.later hb
          try replace hCb := hCb.later hb
          rename World => wq
          refine hK.out _ _ (HK.out _ hB) (fun hNew => ?_)
          clear hK K hHeld
          have hHeld := hNew
          clear hNew
          try simp only [Act.put, uA, u0, u1]
          refine wpAnyU_two (i := 3) (j := 4) (by kernel_rfl) rfl rfl (fun K hK => ?_) (fun K hK => ?_)
          · go_simp
            go_at_call 9
            refine (C2.out _ hB).mono ?_
            rintro e wn ⟨gv', gx', gt', AM', cM', L', rfl, hCb, hb⟩
            replace hB := bthen hB hb
            try replace hZa := hZa.later hb
            try replace hZb := hZb.later hb
            replace hCa := hCa.later hb
            go_wp2_with fail
            rename World => wq
            refine hK.out _ _ (HK.out _ hB) (fun hNew => ?_)
            clear hK K hHeld
            have hHeld := hNew
            clear hNew
            try simp only [Act.put, uA, u0, u1]
            refine wpAnyU_one (i := 4) (by kernel_rfl) rfl (fun K hK => ?_)
            go_simp
            generalize hwn : wq.alloc (.cells #[.slice none 0 0, .slice none 0 0, .slice none 0 0, .int .i64 0, .slice none 0 0] 38) = wn
            have hb : Below wq.heap.size wq wn := by rw [← hwn]; exact below_alloc _ _
            have hZa : Row wn wq.heap.size 38 plZ := by rw [← hwn]; exact Row.new _ _ _
            have hza : w8.heap.size ≤ wq.heap.size := hB.size
            generalize hga : wq.heap.size = ga at hZa hza ⊢
            try have hne : ga ≠ gb := by (have h1 := hZb.lt; omega)
            clear hga hwn
            replace hB := bthen hB hb
            try replace hZb := hZb.later hb
            try replace hCa := hCa.later hb
            try replace hCb := hCb.later hb
            rename World => wq
            refine hK.out _ _ (HK.out _ hB) (fun hNew => ?_)
            clear hK K hHeld
            have hHeld := hNew
            clear hNew
            try simp only [Act.put, uA, u0, u1]
            refine wpAnyU_one (i := 6) (by kernel_rfl) rfl (fun K hK => ?_)
            have z0 : wq.cell? ⟨ga, 0, none⟩ = some (.slice none 0 0) := hZa.cell 0
            have z1 : wq.cell? ⟨ga, 1, none⟩ = some (.slice none 0 0) := hZa.cell 1
            have z2 : wq.cell? ⟨ga, 2, none⟩ = some (.slice none 0 0) := hZa.cell 2
            have z3 : wq.cell? ⟨ga, 3, none⟩ = some (.int .i64 0) := hZa.cell 3
            have z4 : wq.cell? ⟨ga, 4, none⟩ = some (.slice none 0 0) := hZa.cell 4
            have f0 := hZa.frozen 0
            have f1 := hZa.frozen 1
            have f2 := hZa.frozen 2
            have f3 := hZa.frozen 3
            have f4 := hZa.frozen 4
            have fl := hZa.lt
            go_simp
            refine hK.out _ _ (HK.out _ (below_set5 hB hza (.slice (some ⟨gv, 0, none⟩) nv nv) (.slice (some ⟨gx, 0, none⟩) nh nh) (.slice AM nn cM) (.int .i64 root) (.slice (some ⟨gt, 0, none⟩) nt nt))) (fun hNew => ?_)
            clear hK K hHeld
            have hHeld := hNew
            clear hNew
            try simp only [Act.put, uA, u0, u1]
            refine wpAnyU_last (i := 7) (by kernel_rfl) rfl (by kernel_rfl) (fun K hK => ?_)
            have hZa2 := row_put5 hZa rfl (.slice (some ⟨gv, 0, none⟩) nv nv) (.slice (some ⟨gx, 0, none⟩) nh nh) (.slice AM nn cM) (.int .i64 root) (.slice (some ⟨gt, 0, none⟩) nt nt)
            have hZb2 := row_off5 hZb (Ne.symm hne) (.slice (some ⟨gv, 0, none⟩) nv nv) (.slice (some ⟨gx, 0, none⟩) nh nh) (.slice AM nn cM) (.int .i64 root) (.slice (some ⟨gt, 0, none⟩) nt nt)
            have hCa2 := hCa.put5 hZa (.slice (some ⟨gv, 0, none⟩) nv nv) (.slice (some ⟨gx, 0, none⟩) nh nh) (.slice AM nn cM) (.int .i64 root) (.slice (some ⟨gt, 0, none⟩) nt nt)
            have hCb2 := hCb.put5 hZa (.slice (some ⟨gv, 0, none⟩) nv nv) (.slice (some ⟨gx, 0, none⟩) nh nh) (.slice AM nn cM) (.int .i64 root) (.slice (some ⟨gt, 0, none⟩) nt nt)
            have hB2 := below_set5 hB hza (.slice (some ⟨gv, 0, none⟩) nv nv) (.slice (some ⟨gx, 0, none⟩) nh nh) (.slice AM nn cM) (.int .i64 root) (.slice (some ⟨gt, 0, none⟩) nt nt)
            clear z0 z1 z2 z3 z4 f0 f1 f2 f3 f4 fl hZa hZb hCa hCb hB
            generalize (((((wq.setCell _ _).setCell _ _).setCell _ _).setCell _ _).setCell _ _) = wn at hHeld hZa2 hZb2 hCa2 hCb2 hB2 ⊢
            rename World => wq
            have z0 : wq.cell? ⟨gb, 0, none⟩ = some (.slice none 0 0) := hZb2.cell 0
            have z1 : wq.cell? ⟨gb, 1, none⟩ = some (.slice none 0 0) := hZb2.cell 1
            have z2 : wq.cell? ⟨gb, 2, none⟩ = some (.slice none 0 0) := hZb2.cell 2
            have z3 : wq.cell? ⟨gb, 3, none⟩ = some (.int .i64 0) := hZb2.cell 3
            have z4 : wq.cell? ⟨gb, 4, none⟩ = some (.slice none 0 0) := hZb2.cell 4
            have f0 := hZb2.frozen 0
            have f1 := hZb2.frozen 1
            have f2 := hZb2.frozen 2
            have f3 := hZb2.frozen 3
            have f4 := hZb2.frozen 4
            have fl := hZb2.lt
            go_simp
            refine hK.out _ _ ?_
            clear hK K hHeld
            try simp only [Act.put]
            refine wpAnyU_done (by kernel_rfl) ?_ _
            have hZb3 := row_put5 hZb2 rfl (.slice (some ⟨gv', 0, none⟩) nv' nv') (.slice (some ⟨gx', 0, none⟩) nh' nh') (.slice AM' nn' cM') (.int .i64 root') (.slice (some ⟨gt', 0, none⟩) nt' nt')
            have hZa3 := row_off5 hZa2 hne (.slice (some ⟨gv', 0, none⟩) nv' nv') (.slice (some ⟨gx', 0, none⟩) nh' nh') (.slice AM' nn' cM') (.int .i64 root') (.slice (some ⟨gt', 0, none⟩) nt' nt')
            have hCa3 := hCa2.put5 hZb2 (.slice (some ⟨gv', 0, none⟩) nv' nv') (.slice (some ⟨gx', 0, none⟩) nh' nh') (.slice AM' nn' cM') (.int .i64 root') (.slice (some ⟨gt', 0, none⟩) nt' nt')
            have hCb3 := hCb2.put5 hZb2 (.slice (some ⟨gv', 0, none⟩) nv' nv') (.slice (some ⟨gx', 0, none⟩) nh' nh') (.slice AM' nn' cM') (.int .i64 root') (.slice (some ⟨gt', 0, none⟩) nt' nt')
            have hB3 := below_undrew (below_set5 hB2 hzb (.slice (some ⟨gv', 0, none⟩) nv' nv') (.slice (some ⟨gx', 0, none⟩) nh' nh') (.slice AM' nn' cM') (.int .i64 root') (.slice (some ⟨gt', 0, none⟩) nt' nt'))
            go_wp2_with fail
            go_meet
            exact ⟨_, _, _, _, _, _, _, _, _, _, _, _, _, _, rfl, rfl, hzb, hne, hZa3, hZb3, hCa3, hCb3, hB3⟩
          · go_simp
            generalize hwn : wq.alloc (.cells #[.slice none 0 0, .slice none 0 0, .slice none 0 0, .int .i64 0, .slice none 0 0] 38) = wn
            have hb : Below wq.heap.size wq wn := by rw [← hwn]; exact below_alloc _ _
            have hZa : Row wn wq.heap.size 38 plZ := by rw [← hwn]; exact Row.new _ _ _
            have hza : w8.heap.size ≤ wq.heap.size := hB.size
            generalize hga : wq.heap.size = ga at hZa hza ⊢
            try have hne : ga ≠ gb := by (have h1 := hZb.lt; omega)
            clear hga hwn
            replace hB := bthen hB hb
            try replace hZb := hZb.later hb
            try replace hCa := hCa.later hb
            try replace hCb := hCb.later hb
            rename World => wq
            refine hK.out _ _ (HK.out _ hB) (fun hNew => ?_)
            clear hK K hHeld
            have hHeld := hNew
            clear hNew
            try simp only [Act.put, uA, u0, u1]
            refine wpAnyU_one (i := 3) (by kernel_rfl) rfl (fun K hK => ?_)
            go_simp
            go_at_call 9
            refine (C2.out _ hB).mono ?_
            rintro e wn ⟨gv', gx', gt', AM', cM', L', rfl, hCb, hb⟩
            replace hB := bthen hB hb
            try replace hZa := hZa.later hb
            try replace hZb := hZb.later hb
            replace hCa := hCa.later hb
            go_wp2_with fail
            rename World => wq
            refine hK.out _ _ (HK.out _ hB) (fun hNew => ?_)
            clear hK K hHeld
            have hHeld := hNew
            clear hNew
            try simp only [Act.put, uA, u0, u1]
            refine wpAnyU_one (i := 6) (by kernel_rfl) rfl (fun K hK => ?_)
            have z0 : wq.cell? ⟨ga, 0, none⟩ = some (.slice none 0 0) := hZa.cell 0
            have z1 : wq.cell? ⟨ga, 1, none⟩ = some (.slice none 0 0) := hZa.cell 1
            have z2 : wq.cell? ⟨ga, 2, none⟩ = some (.slice none 0 0) := hZa.cell 2
            have z3 : wq.cell? ⟨ga, 3, none⟩ = some (.int .i64 0) := hZa.cell 3
            have z4 : wq.cell? ⟨ga, 4, none⟩ = some (.slice none 0 0) := hZa.cell 4
            have f0 := hZa.frozen 0
            have f1 := hZa.frozen 1
            have f2 := hZa.frozen 2
            have f3 := hZa.frozen 3
            have f4 := hZa.frozen 4
            have fl := hZa.lt
            go_simp
            refine hK.out _ _ (HK.out _ (below_set5 hB hza (.slice (some ⟨gv, 0, none⟩) nv nv) (.slice (some ⟨gx, 0, none⟩) nh nh) (.slice AM nn cM) (.int .i64 root) (.slice (some ⟨gt, 0, none⟩) nt nt))) (fun hNew => ?_)
            clear hK K hHeld
            have hHeld := hNew
            clear hNew
            try simp only [Act.put, uA, u0, u1]
            refine wpAnyU_last (i := 7) (by kernel_rfl) rfl (by kernel_rfl) (fun K hK => ?_)
            have hZa2 := row_put5 hZa rfl (.slice (some ⟨gv, 0, none⟩) nv nv) (.slice (some ⟨gx, 0, none⟩) nh nh) (.slice AM nn cM) (.int .i64 root) (.slice (some ⟨gt, 0, none⟩) nt nt)
            have hZb2 := row_off5 hZb (Ne.symm hne) (.slice (some ⟨gv, 0, none⟩) nv nv) (.slice (some ⟨gx, 0, none⟩) nh nh) (.slice AM nn cM) (.int .i64 root) (.slice (some ⟨gt, 0, none⟩) nt nt)
            have hCa2 := hCa.put5 hZa (.slice (some ⟨gv, 0, none⟩) nv nv) (.slice (some ⟨gx, 0, none⟩) nh nh) (.slice AM nn cM) (.int .i64 root) (.slice (some ⟨gt, 0, none⟩) nt nt)
            have hCb2 := hCb.put5 hZa (.slice (some ⟨gv, 0, none⟩) nv nv) (.slice (some ⟨gx, 0, none⟩) nh nh) (.slice AM nn cM) (.int .i64 root) (.slice (some ⟨gt, 0, none⟩) nt nt)
            have hB2 := below_set5 hB hza (.slice (some ⟨gv, 0, none⟩) nv nv) (.slice (some ⟨gx, 0, none⟩) nh nh) (.slice AM nn cM) (.int .i64 root) (.slice (some ⟨gt, 0, none⟩) nt nt)
            clear z0 z1 z2 z3 z4 f0 f1 f2 f3 f4 fl hZa hZb hCa hCb hB
            generalize (((((wq.setCell _ _).setCell _ _).setCell _ _).setCell _ _).setCell _ _) = wn at hHeld hZa2 hZb2 hCa2 hCb2 hB2 ⊢
            rename World => wq
            have z0 : wq.cell? ⟨gb, 0, none⟩ = some (.slice none 0 0) := hZb2.cell 0
            have z1 : wq.cell? ⟨gb, 1, none⟩ = some (.slice none 0 0) := hZb2.cell 1
            have z2 : wq.cell? ⟨gb, 2, none⟩ = some (.slice none 0 0) := hZb2.cell 2
            have z3 : wq.cell? ⟨gb, 3, none⟩ = some (.int .i64 0) := hZb2.cell 3
            have z4 : wq.cell? ⟨gb, 4, none⟩ = some (.slice none 0 0) := hZb2.cell 4
            have f0 := hZb2.frozen 0
            have f1 := hZb2.frozen 1
            have f2 := hZb2.frozen 2
            have f3 := hZb2.frozen 3
            have f4 := hZb2.frozen 4
            have fl := hZb2.lt
            go_simp
            refine hK.out _ _ ?_
            clear hK K hHeld
            try simp only [Act.put]
            refine wpAnyU_done (by kernel_rfl) ?_ _
            have hZb3 := row_put5 hZb2 rfl (.slice (some ⟨gv', 0, none⟩) nv' nv') (.slice (some ⟨gx', 0, none⟩) nh' nh') (.slice AM' nn' cM') (.int .i64 root') (.slice (some ⟨gt', 0, none⟩) nt' nt')
            have hZa3 := row_off5 hZa2 hne (.slice (some ⟨gv', 0, none⟩) nv' nv') (.slice (some ⟨gx', 0, none⟩) nh' nh') (.slice AM' nn' cM') (.int .i64 root') (.slice (some ⟨gt', 0, none⟩) nt' nt')
            have hCa3 := hCa2.put5 hZb2 (.slice (some ⟨gv', 0, none⟩) nv' nv') (.slice (some ⟨gx', 0, none⟩) nh' nh') (.slice AM' nn' cM') (.int .i64 root') (.slice (some ⟨gt', 0, none⟩) nt' nt')
            have hCb3 := hCb2.put5 hZb2 (.slice (some ⟨gv', 0, none⟩) nv' nv') (.slice (some ⟨gx', 0, none⟩) nh' nh') (.slice AM' nn' cM') (.int .i64 root') (.slice (some ⟨gt', 0, none⟩) nt' nt')
            have hB3 := below_undrew (below_set5 hB2 hzb (.slice (some ⟨gv', 0, none⟩) nv' nv') (.slice (some ⟨gx', 0, none⟩) nh' nh') (.slice AM' nn' cM') (.int .i64 root') (.slice (some ⟨gt', 0, none⟩) nt' nt'))
            go_wp2_with fail
            go_meet
            exact ⟨_, _, _, _, _, _, _, _, _, _, _, _, _, _, rfl, rfl, hzb, hne, hZa3, hZb3, hCa3, hCb3, hB3⟩
      · go_simp
        generalize hwn : wq.alloc (.cells #[.slice none 0 0, .slice none 0 0, .slice none 0 0, .int .i64 0, .slice none 0 0] 38) = wn
        have hb : Below wq.heap.size wq wn := by rw [← hwn]; exact below_alloc _ _
        have hZa : Row wn wq.heap.size 38 plZ := by rw [← hwn]; exact Row.new _ _ _
        have hza : w8.heap.size ≤ wq.heap.size := hB.size
        generalize hga : wq.heap.size = ga at hZa hza ⊢
        try have hne : ga ≠ gb := by (have h1 := hZb.lt; omega)
        clear hga hwn
        replace hB := bthen hB hb
        try replace hZb := hZb.later hb
        try replace hCa := hCa.later hb
        try replace hCb := hCb.later hb
        rename World => wq
        refine hK.out _ _ (HK.out _ hB) (fun hNew => ?_)
        clear hK K hHeld
        have hHeld := hNew
        clear hNew
        try simp only [Act.put, uA, u0, u1]
        refine wpAnyU_two (i := 1) (j := 5) (by kernel_rfl) rfl rfl (fun K hK => ?_) (fun K hK => ?_)
        · go_simp
          go_at_call 9
          refine (C1.out _ hB).mono ?_
          rintro e wn ⟨gv, gx, gt, AM, cM, L, rfl, hCa, hb⟩
          replace hB := bthen hB hb
          try replace hZa := hZa.later hb
          try replace hZb := hZb.later hb
          go_wp2_with fail
          rename World => wq
          refine hK.out _ _ (HK.out _ hB) (fun hNew => ?_)
          clear hK K hHeld
          have hHeld := hNew
          clear hNew
          try simp only [Act.put, uA, u0, u1]
          refine wpAnyU_two (i := 3) (j := 5) (by kernel_rfl) rfl rfl (fun K hK => ?_) (fun K hK => ?_)
          · go_simp
            go_at_call 9
            refine (C2.out _ hB).mono ?_
            rintro e wn ⟨gv', gx', gt', AM', cM', L', rfl, hCb, hb⟩
            replace hB := bthen hB hb
            try replace hZa := hZa.later hb
            try replace hZb := hZb.later hb
            replace hCa := hCa.later hb
            go_wp2_with fail
            rename World => wq
            refine hK.out _ _ (HK.out _ hB) (fun hNew => ?_)
            clear hK K hHeld
            have hHeld := hNew
            clear hNew
            try simp only [Act.put, uA, u0, u1]
            refine wpAnyU_one (i := 5) (by kernel_rfl) rfl (fun K hK => ?_)
            go_simp
            generalize hwn : wq.alloc (.cells #[.slice none 0 0, .slice none 0 0, .slice none 0 0, .int .i64 0, .slice none 0 0] 38) = wn
            have hb : Below wq.heap.size wq wn := by rw [← hwn]; exact below_alloc _ _
            have hZb : Row wn wq.heap.size 38 plZ := by rw [← hwn]; exact Row.new _ _ _
            have hzb : w8.heap.size ≤ wq.heap.size := hB.size
            generalize hgb : wq.heap.size = gb at hZb hzb ⊢
            try have hne : ga ≠ gb := by (have h1 := hZa.lt; omega)
            clear hgb hwn
            replace hB := bthen hB hb
            try replace hZa := hZa.later hb
            try replace hCa := hCa.later hb
            try replace hCb := hCb.later hb
            rename World => wq
            refine hK.out _ _ (HK.out _ hB) (fun hNew => ?_)
            clear hK K hHeld
            have hHeld := hNew
            clear hNew
            try simp only [Act.put, uA, u0, u1]
            refine wpAnyU_one (i := 6) (by kernel_rfl) rfl (fun K hK => ?_)
            have z0 : wq.cell? ⟨ga, 0, none⟩ = some (.slice none 0 0) := hZa.cell 0
            have z1 : wq.cell? ⟨ga, 1, none⟩ = some (.slice none 0 0) := hZa.cell 1
            have z2 : wq.cell? ⟨ga, 2, none⟩ = some (.slice none 0 0) := hZa.cell 2
            have z3 : wq.cell? ⟨ga, 3, none⟩ = some (.int .i64 0) := hZa.cell 3
            have z4 : wq.cell? ⟨ga, 4, none⟩ = some (.slice none 0 0) := hZa.cell 4
            have f0 := hZa.frozen 0
            have f1 := hZa.frozen 1
            have f2 := hZa.frozen 2
            have f3 := hZa.frozen 3
            have f4 := hZa.frozen 4
            have fl := hZa.lt
            go_simp
            refine hK.out _ _ (HK.out _ (below_set5 hB hza (.slice (some ⟨gv, 0, none⟩) nv nv) (.slice (some ⟨gx, 0, none⟩) nh nh) (.slice AM nn cM) (.int .i64 root) (.slice (some ⟨gt, 0, none⟩) nt nt))) (fun hNew => ?_)
            clear hK K hHeld
            have hHeld := hNew
            clear hNew
            try simp only [Act.put, uA, u0, u1]
            refine wpAnyU_last (i := 7) (by kernel_rfl) rfl (by kernel_rfl) (fun K hK => ?_)
            have hZa2 := row_put5 hZa rfl (.slice (some ⟨gv, 0, none⟩) nv nv) (.slice (some ⟨gx, 0, none⟩) nh nh) (.slice AM nn cM) (.int .i64 root) (.slice (some ⟨gt, 0, none⟩) nt nt)
            have hZb2 := row_off5 hZb (Ne.symm hne) (.slice (some ⟨gv, 0, none⟩) nv nv) (.slice (some ⟨gx, 0, none⟩) nh nh) (.slice AM nn cM) (.int .i64 root) (.slice (some ⟨gt, 0, none⟩) nt nt)
            have hCa2 := hCa.put5 hZa (.slice (some ⟨gv, 0, none⟩) nv nv) (.slice (some ⟨gx, 0, none⟩) nh nh) (.slice AM nn cM) (.int .i64 root) (.slice (some ⟨gt, 0, none⟩) nt nt)
            have hCb2 := hCb.put5 hZa (.slice (some ⟨gv, 0, none⟩) nv nv) (.slice (some ⟨gx, 0, none⟩) nh nh) (.slice AM nn cM) (.int .i64 root) (.slice (some ⟨gt, 0, none⟩) nt nt)
            have hB2 := below_set5 hB hza (.slice (some ⟨gv, 0, none⟩) nv nv) (.slice (some ⟨gx, 0, none⟩) nh nh) (.slice AM nn cM) (.int .i64 root) (.slice (some ⟨gt, 0, none⟩) nt nt)
            clear z0 z1 z2 z3 z4 f0 f1 f2 f3 f4 fl hZa hZb hCa hCb hB
            generalize (((((wq.setCell _ _).setCell _ _).setCell _ _).setCell _ _).setCell _ _) = wn at hHeld hZa2 hZb2 hCa2 hCb2 hB2 ⊢
            rename World => wq
            have z0 : wq.cell? ⟨gb, 0, none⟩ = some (.slice none 0 0) := hZb2.cell 0
            have z1 : wq.cell? ⟨gb, 1, none⟩ = some (.slice none 0 0) := hZb2.cell 1
            have z2 : wq.cell? ⟨gb, 2, none⟩ = some (.slice none 0 0) := hZb2.cell 2
            have z3 : wq.cell? ⟨gb, 3, none⟩ = some (.int .i64 0) := hZb2.cell 3
            have z4 : wq.cell? ⟨gb, 4, none⟩ = some (.slice none 0 0) := hZb2.cell 4
            have f0 := hZb2.frozen 0
            have f1 := hZb2.frozen 1
            have f2 := hZb2.frozen 2
            have f3 := hZb2.frozen 3
            have f4 := hZb2.frozen 4
            have fl := hZb2.lt
            go_simp
            refine hK.out _ _ ?_
            clear hK K hHeld
            try simp only [Act.put]
            refine wpAnyU_done (by kernel_rfl) ?_ _
            have hZb3 := row_put5 hZb2 rfl (.slice (some ⟨gv', 0, none⟩) nv' nv') (.slice (some ⟨gx', 0, none⟩) nh' nh') (.slice AM' nn' cM') (.int .i64 root') (.slice (some ⟨gt', 0, none⟩) nt' nt')
            have hZa3 := row_off5 hZa2 hne (.slice (some ⟨gv', 0, none⟩) nv' nv') (.slice (some ⟨gx', 0, none⟩) nh' nh') (.slice AM' nn' cM') (.int .i64 root') (.slice (some ⟨gt', 0, none⟩) nt' nt')
            have hCa3 := hCa2.put5 hZb2 (.slice (some ⟨gv', 0, none⟩) nv' nv') (.slice (some ⟨gx', 0, none⟩) nh' nh') (.slice AM' nn' cM') (.int .i64 root') (.slice (some ⟨gt', 0, none⟩) nt' nt')
            have hCb3 := hCb2.put5 hZb2 (.slice (some ⟨gv', 0, none⟩) nv' nv') (.slice (some ⟨gx', 0, none⟩) nh' nh') (.slice AM' nn' cM') (.int .i64 root') (.slice (some ⟨gt', 0, none⟩) nt' nt')
            have hB3 := below_undrew (below_set5 hB2 hzb (.slice (some ⟨gv', 0, none⟩) nv' nv') (.slice (some ⟨gx', 0, none⟩) nh' nh') (.slice AM' nn' cM') (.int .i64 root') (.slice (some ⟨gt', 0, none⟩) nt' nt'))
            go_wp2_with fail
            go_meet
            exact ⟨_, _, _, _, _, _, _, _, _, _, _, _, _, _, rfl, rfl, hzb, hne, hZa3, hZb3, hCa3, hCb3, hB3⟩
          · go_simp
            generalize hwn : wq.alloc (.cells #[.slice none 0 0, .slice none 0 0, .slice none 0 0, .int .i64 0, .slice none 0 0] 38) = wn
            have hb : Below wq.heap.size wq wn := by rw [← hwn]; exact below_alloc _ _
            have hZb : Row wn wq.heap.size 38 plZ := by rw [← hwn]; exact Row.new _ _ _
            have hzb : w8.heap.size ≤ wq.heap.size := hB.size
            generalize hgb : wq.heap.size = gb at hZb hzb ⊢
            try have hne : ga ≠ gb := by (have h1 := hZa.lt; omega)
            clear hgb hwn
            replace hB := bthen hB hb
            try replace hZa := hZa.later hb
            try replace hCa := hCa.later hb
            try replace hCb := hCb.later hb
            rename World => wq
            refine hK.out _ _ (HK.out _ hB) (fun hNew => ?_)
            clear hK K hHeld
            have hHeld := hNew
            clear hNew
            try simp only [Act.put, uA, u0, u1]
            refine wpAnyU_one (i := 3) (by kernel_rfl) rfl (fun K hK => ?_)
            go_simp
            go_at_call 9
            refine (C2.out _ hB).mono ?_
            rintro e wn ⟨gv', gx', gt', AM', cM', L', rfl, hCb, hb⟩
            replace hB := bthen hB hb
            try replace hZa := hZa.later hb
            try replace hZb := hZb.later hb
            replace hCa := hCa.later hb
            go_wp2_with fail
            rename World => wq
            refine hK.out _ _ (HK.out _ hB) (fun hNew => ?_)
            clear hK K hHeld
            have hHeld := hNew
            clear hNew
            try simp only [Act.put, uA, u0, u1]
            refine wpAnyU_one (i := 6) (by kernel_rfl) rfl (fun K hK => ?_)
            have z0 : wq.cell? ⟨ga, 0, none⟩ = some (.slice none 0 0) := hZa.cell 0
            have z1 : wq.cell? ⟨ga, 1, none⟩ = some (.slice none 0 0) := hZa.cell 1
            have z2 : wq.cell? ⟨ga, 2, none⟩ = some (.slice none 0 0) := hZa.cell 2
            have z3 : wq.cell? ⟨ga, 3, none⟩ = some (.int .i64 0) := hZa.cell 3
            have z4 : wq.cell? ⟨ga, 4, none⟩ = some (.slice none 0 0) := hZa.cell 4
            have f0 := hZa.frozen 0
            have f1 := hZa.frozen 1
            have f2 := hZa.frozen 2
            have f3 := hZa.frozen 3
            have f4 := hZa.frozen 4
            have fl := hZa.lt
            go_simp
            refine hK.out _ _ (HK.out _ (below_set5 hB hza (.slice (some ⟨gv, 0, none⟩) nv nv) (.slice (some ⟨gx, 0, none⟩) nh nh) (.slice AM nn cM) (.int .i64 root) (.slice (some ⟨gt, 0, none⟩) nt nt))) (fun hNew => ?_)
            clear hK K hHeld
            have hHeld := hNew
            clear hNew
            try simp only [Act.put, uA, u0, u1]
            refine wpAnyU_last (i := 7) (by kernel_rfl) rfl (by kernel_rfl) (fun K hK => ?_)
            have hZa2 := row_put5 hZa rfl (.slice (some ⟨gv, 0, none⟩) nv nv) (.slice (some ⟨gx, 0, none⟩) nh nh) (.slice AM nn cM) (.int .i64 root) (.slice (some ⟨gt, 0, none⟩) nt nt)
            have hZb2 := row_off5 hZb (Ne.symm hne) (.slice (some ⟨gv, 0, none⟩) nv nv) (.slice (some ⟨gx, 0, none⟩) nh nh) (.slice AM nn cM) (.int .i64 root) (.slice (some ⟨gt, 0, none⟩) nt nt)
            have hCa2 := hCa.put5 hZa (.slice (some ⟨gv, 0, none⟩) nv nv) (.slice (some ⟨gx, 0, none⟩) nh nh) (.slice AM nn cM) (.int .i64 root) (.slice (some ⟨gt, 0, none⟩) nt nt)
            have hCb2 := hCb.put5 hZa (.slice (some ⟨gv, 0, none⟩) nv nv) (.slice (some ⟨gx, 0, none⟩) nh nh) (.slice AM nn cM) (.int .i64 root) (.slice (some ⟨gt, 0, none⟩) nt nt)
            have hB2 := below_set5 hB hza (.slice (some ⟨gv, 0, none⟩) nv nv) (.slice (some ⟨gx, 0, none⟩) nh nh) (.slice AM nn cM) (.int .i64 root) (.slice (some ⟨gt, 0, none⟩) nt nt)
            clear z0 z1 z2 z3 z4 f0 f1 f2 f3 f4 fl hZa hZb hCa hCb hB
            generalize (((((wq.setCell _ _).setCell _ _).setCell _ _).setCell _ _).setCell _ _) = wn at hHeld hZa2 hZb2 hCa2 hCb2 hB2 ⊢
            rename World => wq
            have z0 : wq.cell? ⟨gb, 0, none⟩ = some (.slice none 0 0) := hZb2.cell 0
            have z1 : wq.cell? ⟨gb, 1, none⟩ = some (.slice none 0 0) := hZb2.cell 1
            have z2 : wq.cell? ⟨gb, 2, none⟩ = some (.slice none 0 0) := hZb2.cell 2
            have z3 : wq.cell? ⟨gb, 3, none⟩ = some (.int .i64 0) := hZb2.cell 3
            have z4 : wq.cell? ⟨gb, 4, none⟩ = some (.slice none 0 0) := hZb2.cell 4
            have f0 := hZb2.frozen 0
            have f1 := hZb2.frozen 1
            have f2 := hZb2.frozen 2
            have f3 := hZb2.frozen 3
            have f4 := hZb2.frozen 4
            have fl := hZb2.lt
            go_simp
            refine hK.out _ _ ?_
            clear hK K hHeld
            try simp only [Act.put]
            refine wpAnyU_done (by kernel_rfl) ?_ _
            have hZb3 := row_put5 hZb2 rfl (.slice (some ⟨gv', 0, none⟩) nv' nv') (.slice (some ⟨gx', 0, none⟩) nh' nh') (.slice AM' nn' cM') (.int .i64 root') (.slice (some ⟨gt', 0, none⟩) nt' nt')
            have hZa3 := row_off5 hZa2 hne (.slice (some ⟨gv', 0, none⟩) nv' nv') (.slice (some ⟨gx', 0, none⟩) nh' nh') (.slice AM' nn' cM') (.int .i64 root') (.slice (some ⟨gt', 0, none⟩) nt' nt')
            have hCa3 := hCa2.put5 hZb2 (.slice (some ⟨gv', 0, none⟩) nv' nv') (.slice (some ⟨gx', 0, none⟩) nh' nh') (.slice AM' nn' cM') (.int .i64 root') (.slice (some ⟨gt', 0, none⟩) nt' nt')
            have hCb3 := hCb2.put5 hZb2 (.slice (some ⟨gv', 0, none⟩) nv' nv') (.slice (some ⟨gx', 0, none⟩) nh' nh') (.slice AM' nn' cM') (.int .i64 root') (.slice (some ⟨gt', 0, none⟩) nt' nt')
            have hB3 := below_undrew (below_set5 hB2 hzb (.slice (some ⟨gv', 0, none⟩) nv' nv') (.slice (some ⟨gx', 0, none⟩) nh' nh') (.slice AM' nn' cM') (.int .i64 root') (.slice (some ⟨gt', 0, none⟩) nt' nt'))
            go_wp2_with fail
            go_meet
            exact ⟨_, _, _, _, _, _, _, _, _, _, _, _, _, _, rfl, rfl, hzb, hne, hZa3, hZb3, hCa3, hCb3, hB3⟩
        · go_simp
          generalize hwn : wq.alloc (.cells #[.slice none 0 0, .slice none 0 0, .slice none 0 0, .int .i64 0, .slice none 0 0] 38) = wn
          have hb : Below wq.heap.size wq wn := by rw [← hwn]; exact below_alloc _ _
          have hZb : Row wn wq.heap.size 38 plZ := by rw [← hwn]; exact Row.new _ _ _
          have hzb : w8.heap.size ≤ wq.heap.size := hB.size
          generalize hgb : wq.heap.size = gb at hZb hzb ⊢
          try have hne : ga ≠ gb := by (have h1 := hZa.lt; omega)
          clear hgb hwn
          replace hB := bthen hB hb
          try replace hZa := hZa.later hb
          try replace hCa := hCa.later hb
          try replace hCb := hCb.later hb
          rename World => wq
          refine hK.out _ _ (HK.out _ hB) (fun hNew => ?_)
          clear hK K hHeld
          have hHeld := hNew
          clear hNew
          try simp only [Act.put, uA, u0, u1]
          refine wpAnyU_one (i := 1) (by kernel_rfl) rfl (fun K hK => ?_)
          go_simp
          go_at_call 9
          refine (C1.out _ hB).mono ?_
          rintro e wn ⟨gv, gx, gt, AM, cM, L, rfl, hCa, hb⟩
          replace hB := bthen hB hb
          try replace hZa := hZa.later hb
          try replace hZb := hZb.later hb
          go_wp2_with fail
          rename World => wq
          refine hK.out _ _ (HK.out _ hB) (fun hNew => ?_)
          clear hK K hHeld
          have hHeld := hNew
          clear hNew
          try simp only [Act.put, uA, u0, u1]
          refine wpAnyU_one (i := 3) (by kernel_rfl) rfl (fun K hK => ?_)
          go_simp
          go_at_call 9
          refine (C2.out _ hB).mono ?_
          rintro e wn ⟨gv', gx', gt', AM', cM', L', rfl, hCb, hb⟩
          replace hB := bthen hB hb
          try replace hZa := hZa.later hb
          try replace hZb := hZb.later hb
          replace hCa := hCa.later hb
          go_wp2_with fail
          rename World => wq
          refine hK.out _ _ (HK.out _ hB) (fun hNew => ?_)
          clear hK K hHeld
          have hHeld := hNew
          clear hNew
          try simp only [Act.put, uA, u0, u1]
          refine wpAnyU_one (i := 6) (by kernel_rfl) rfl (fun K hK => ?_)
          have z0 : wq.cell? ⟨ga, 0, none⟩ = some (.slice none 0 0) := hZa.cell 0
          have z1 : wq.cell? ⟨ga, 1, none⟩ = some (.slice none 0 0) := hZa.cell 1
          have z2 : wq.cell? ⟨ga, 2, none⟩ = some (.slice none 0 0) := hZa.cell 2
          have z3 : wq.cell? ⟨ga, 3, none⟩ = some (.int .i64 0) := hZa.cell 3
          have z4 : wq.cell? ⟨ga, 4, none⟩ = some (.slice none 0 0) := hZa.cell 4
          have f0 := hZa.frozen 0
          have f1 := hZa.frozen 1
          have f2 := hZa.frozen 2
          have f3 := hZa.frozen 3
          have f4 := hZa.frozen 4
          have fl := hZa.lt
          go_simp
          refine hK.out _ _ (HK.out _ (below_set5 hB hza (.slice (some ⟨gv, 0, none⟩) nv nv) (.slice (some ⟨gx, 0, none⟩) nh nh) (.slice AM nn cM) (.int .i64 root) (.slice (some ⟨gt, 0, none⟩) nt nt))) (fun hNew => ?_)
          clear hK K hHeld
          have hHeld := hNew
          clear hNew
          try simp only [Act.put, uA, u0, u1]
          refine wpAnyU_last (i := 7) (by kernel_rfl) rfl (by kernel_rfl) (fun K hK => ?_)
          have hZa2 := row_put5 hZa rfl (.slice (some ⟨gv, 0, none⟩) nv nv) (.slice (some ⟨gx, 0, none⟩) nh nh) (.slice AM nn cM) (.int .i64 root) (.slice (some ⟨gt, 0, none⟩) nt nt)
          have hZb2 := row_off5 hZb (Ne.symm hne) (.slice (some ⟨gv, 0, none⟩) nv nv) (.slice (some ⟨gx, 0, none⟩) nh nh) (.slice AM nn cM) (.int .i64 root) (.slice (some ⟨gt, 0, none⟩) nt nt)
          have hCa2 := hCa.put5 hZa (.slice (some ⟨gv, 0, none⟩) nv nv) (.slice (some ⟨gx, 0, none⟩) nh nh) (.slice AM nn cM) (.int .i64 root) (.slice (some ⟨gt, 0, none⟩) nt nt)
          have hCb2 := hCb.put5 hZa (.slice (some ⟨gv, 0, none⟩) nv nv) (.slice (some ⟨gx, 0, none⟩) nh nh) (.slice AM nn cM) (.int .i64 root) (.slice (some ⟨gt, 0, none⟩) nt nt)
          have hB2 := below_set5 hB hza (.slice (some ⟨gv, 0, none⟩) nv nv) (.slice (some ⟨gx, 0, none⟩) nh nh) (.slice AM nn cM) (.int .i64 root) (.slice (some ⟨gt, 0, none⟩) nt nt)
          clear z0 z1 z2 z3 z4 f0 f1 f2 f3 f4 fl hZa hZb hCa hCb hB
          generalize (((((wq.setCell _ _).setCell _ _).setCell _ _).setCell _ _).setCell _ _) = wn at hHeld hZa2 hZb2 hCa2 hCb2 hB2 ⊢
          rename World => wq
          have z0 : wq.cell? ⟨gb, 0, none⟩ = some (.slice none 0 0) := hZb2.cell 0
          have z1 : wq.cell? ⟨gb, 1, none⟩ = some (.slice none 0 0) := hZb2.cell 1
          have z2 : wq.cell? ⟨gb, 2, none⟩ = some (.slice none 0 0) := hZb2.cell 2
          have z3 : wq.cell? ⟨gb, 3, none⟩ = some (.int .i64 0) := hZb2.cell 3
          have z4 : wq.cell? ⟨gb, 4, none⟩ = some (.slice none 0 0) := hZb2.cell 4
          have f0 := hZb2.frozen 0
          have f1 := hZb2.frozen 1
          have f2 := hZb2.frozen 2
          have f3 := hZb2.frozen 3
          have f4 := hZb2.frozen 4
          have fl := hZb2.lt
          go_simp
          refine hK.out _ _ ?_
          clear hK K hHeld
          try simp only [Act.put]
          refine wpAnyU_done (by kernel_rfl) ?_ _
          have hZb3 := row_put5 hZb2 rfl (.slice (some ⟨gv', 0, none⟩) nv' nv') (.slice (some ⟨gx', 0, none⟩) nh' nh') (.slice AM' nn' cM') (.int .i64 root') (.slice (some ⟨gt', 0, none⟩) nt' nt')
          have hZa3 := row_off5 hZa2 hne (.slice (some ⟨gv', 0, none⟩) nv' nv') (.slice (some ⟨gx', 0, none⟩) nh' nh') (.slice AM' nn' cM') (.int .i64 root') (.slice (some ⟨gt', 0, none⟩) nt' nt')
          have hCa3 := hCa2.put5 hZb2 (.slice (some ⟨gv', 0, none⟩) nv' nv') (.slice (some ⟨gx', 0, none⟩) nh' nh') (.slice AM' nn' cM') (.int .i64 root') (.slice (some ⟨gt', 0, none⟩) nt' nt')
          have hCb3 := hCb2.put5 hZb2 (.slice (some ⟨gv', 0, none⟩) nv' nv') (.slice (some ⟨gx', 0, none⟩) nh' nh') (.slice AM' nn' cM') (.int .i64 root') (.slice (some ⟨gt', 0, none⟩) nt' nt')
          have hB3 := below_undrew (below_set5 hB2 hzb (.slice (some ⟨gv', 0, none⟩) nv' nv') (.slice (some ⟨gx', 0, none⟩) nh' nh') (.slice AM' nn' cM') (.int .i64 root') (.slice (some ⟨gt', 0, none⟩) nt' nt'))
          go_wp2_with fail
          go_meet
          exact ⟨_, _, _, _, _, _, _, _, _, _, _, _, _, _, rfl, rfl, hzb, hne, hZa3, hZb3, hCa3, hCb3, hB3⟩
      · go_simp
        generalize hwn : wq.alloc (.cells #[.slice none 0 0, .slice none 0 0, .slice none 0 0, .int .i64 0, .slice none 0 0] 38) = wn
        have hb : Below wq.heap.size wq wn := by rw [← hwn]; exact below_alloc _ _
        have hZb : Row wn wq.heap.size 38 plZ := by rw [← hwn]; exact Row.new _ _ _
        have hzb : w8.heap.size ≤ wq.heap.size := hB.size
        generalize hgb : wq.heap.size = gb at hZb hzb ⊢
        try have hne : ga ≠ gb := by (have h1 := hZa.lt; omega)
        clear hgb hwn
        replace hB := bthen hB hb
        try replace hZa := hZa.later hb
        try replace hCa := hCa.later hb
        try replace hCb := hCb.later hb
        rename World => wq
        refine hK.out _ _ (HK.out _ hB) (fun hNew => ?_)
        clear hK K hHeld
        have hHeld := hNew
        clear hNew
        try simp only [Act.put, uA, u0, u1]
        refine wpAnyU_two (i := 1) (j := 4) (by kernel_rfl) rfl rfl (fun K hK => ?_) (fun K hK => ?_)
        · go_simp
          go_at_call 9
          refine (C1.out _ hB).mono ?_
          rintro e wn ⟨gv, gx, gt, AM, cM, L, rfl, hCa, hb⟩
          replace hB := bthen hB hb
          try replace hZa := hZa.later hb
          try replace hZb := hZb.later hb
          go_wp2_with fail
          rename World => wq
          refine hK.out _ _ (HK.out _ hB) (fun hNew => ?_)
          clear hK K hHeld
          have hHeld := hNew
          clear hNew
          try simp only [Act.put, uA, u0, u1]
          refine wpAnyU_two (i := 3) (j := 4) (by kernel_rfl) rfl rfl (fun K hK => ?_) (fun K hK => ?_)
          · go_simp
            go_at_call 9
            refine (C2.out _ hB).mono ?_
            rintro e wn ⟨gv', gx', gt', AM', cM', L', rfl, hCb, hb⟩
            replace hB := bthen hB hb
            try replace hZa := hZa.later hb
            try replace hZb := hZb.later hb
            replace hCa := hCa.later hb
            go_wp2_with fail
            rename World => wq
            refine hK.out _ _ (HK.out _ hB) (fun hNew => ?_)
            clear hK K hHeld
            have hHeld := hNew
            clear hNew
            try simp only [Act.put, uA, u0, u1]
            refine wpAnyU_one (i := 4) (by kernel_rfl) rfl (fun K hK => ?_)
            go_simp
            generalize hwn : wq.alloc (.cells #[.slice none 0 0, .slice none 0 0, .slice none 0 0, .int .i64 0, .slice none 0 0] 38) = wn
            have hb : Below wq.heap.size wq wn := by rw [← hwn]; exact below_alloc _ _
            have hZa : Row wn wq.heap.size 38 plZ := by rw [← hwn]; exact Row.new _ _ _
            have hza : w8.heap.size ≤ wq.heap.size := hB.size
            generalize hga : wq.heap.size = ga at hZa hza ⊢
            try have hne : ga ≠ gb := by (have h1 := hZb.lt; omega)
            clear hga hwn
            replace hB := bthen hB hb
            try replace hZb := hZb.later hb
            try replace hCa := hCa.later hb
            try replace hCb := hCb.later hb
            rename World => wq
            refine hK.out _ _ (HK.out _ hB) (fun hNew => ?_)
            clear hK K hHeld
            have hHeld := hNew
            clear hNew
            try simp only [Act.put, uA, u0, u1]
            refine wpAnyU_one (i := 6) (by kernel_rfl) rfl (fun K hK => ?_)
            have z0 : wq.cell? ⟨ga, 0, none⟩ = some (.slice none 0 0) := hZa.cell 0
            have z1 : wq.cell? ⟨ga, 1, none⟩ = some (.slice none 0 0) := hZa.cell 1
            have z2 : wq.cell? ⟨ga, 2, none⟩ = some (.slice none 0 0) := hZa.cell 2
            have z3 : wq.cell? ⟨ga, 3, none⟩ = some (.int .i64 0) := hZa.cell 3
            have z4 : wq.cell? ⟨ga, 4, none⟩ = some (.slice none 0 0) := hZa.cell 4
            have f0 := hZa.frozen 0
            have f1 := hZa.frozen 1
            have f2 := hZa.frozen 2
            have f3 := hZa.frozen 3
            have f4 := hZa.frozen 4
            have fl := hZa.lt
            go_simp
            refine hK.out _ _ (HK.out _ (below_set5 hB hza (.slice (some ⟨gv, 0, none⟩) nv nv) (.slice (some ⟨gx, 0, none⟩) nh nh) (.slice AM nn cM) (.int .i64 root) (.slice (some ⟨gt, 0, none⟩) nt nt))) (fun hNew => ?_)
            clear hK K hHeld
            have hHeld := hNew
            clear hNew
            try simp only [Act.put, uA, u0, u1]
            refine wpAnyU_last (i := 7) (by kernel_rfl) rfl (by kernel_rfl) (fun K hK => ?_)
            have hZa2 := row_put5 hZa rfl (.slice (some ⟨gv, 0, none⟩) nv nv) (.slice (some ⟨gx, 0, none⟩) nh nh) (.slice AM nn cM) (.int .i64 root) (.slice (some ⟨gt, 0, none⟩) nt nt)
            have hZb2 := row_off5 hZb (Ne.symm hne) (.slice (some ⟨gv, 0, none⟩) nv nv) (.slice (some ⟨gx, 0, none⟩) nh nh) (.slice AM nn cM) (.int .i64 root) (.slice (some ⟨gt, 0, none⟩) nt nt)
            have hCa2 := hCa.put5 hZa (.slice (some ⟨gv, 0, none⟩) nv nv) (.slice (some ⟨gx, 0, none⟩) nh nh) (.slice AM nn cM) (.int .i64 root) (.slice (some ⟨gt, 0, none⟩) nt nt)
            have hCb2 := hCb.put5 hZa (.slice (some ⟨gv, 0, none⟩) nv nv) (.slice (some ⟨gx, 0, none⟩) nh nh) (.slice AM nn cM) (.int .i64 root) (.slice (some ⟨gt, 0, none⟩) nt nt)
            have hB2 := below_set5 hB hza (.slice (some ⟨gv, 0, none⟩) nv nv) (.slice (some ⟨gx, 0, none⟩) nh nh) (.slice AM nn cM) (.int .i64 root) (.slice (some ⟨gt, 0, none⟩) nt nt)
            clear z0 z1 z2 z3 z4 f0 f1 f2 f3 f4 fl hZa hZb hCa hCb hB
            generalize (((((wq.setCell _ _).setCell _ _).setCell _ _).setCell _ _).setCell _ _) = wn at hHeld hZa2 hZb2 hCa2 hCb2 hB2 ⊢
            rename World => wq
            have z0 : wq.cell? ⟨gb, 0, none⟩ = some (.slice none 0 0) := hZb2.cell 0
            have z1 : wq.cell? ⟨gb, 1, none⟩ = some (.slice none 0 0) := hZb2.cell 1
            have z2 : wq.cell? ⟨gb, 2, none⟩ = some (.slice none 0 0) := hZb2.cell 2
            have z3 : wq.cell? ⟨gb, 3, none⟩ = some (.int .i64 0) := hZb2.cell 3
            have z4 : wq.cell? ⟨gb, 4, none⟩ = some (.slice none 0 0) := hZb2.cell 4
            have f0 := hZb2.frozen 0
            have f1 := hZb2.frozen 1
            have f2 := hZb2.frozen 2
            have f3 := hZb2.frozen 3
            have f4 := hZb2.frozen 4
            have fl := hZb2.lt
            go_simp
            refine hK.out _ _ ?_
            clear hK K hHeld
            try simp only [Act.put]
            refine wpAnyU_done (by kernel_rfl) ?_ _
            have hZb3 := row_put5 hZb2 rfl (.slice (some ⟨gv', 0, none⟩) nv' nv') (.slice (some ⟨gx', 0, none⟩) nh' nh') (.slice AM' nn' cM') (.int .i64 root') (.slice (some ⟨gt', 0, none⟩) nt' nt')
            have hZa3 := row_off5 hZa2 hne (.slice (some ⟨gv', 0, none⟩) nv' nv') (.slice (some ⟨gx', 0, none⟩) nh' nh') (.slice AM' nn' cM') (.int .i64 root') (.slice (some ⟨gt', 0, none⟩) nt' nt')
            have hCa3 := hCa2.put5 hZb2 (.slice (some ⟨gv', 0, none⟩) nv' nv') (.slice (some ⟨gx', 0, none⟩) nh' nh') (.slice AM' nn' cM') (.int .i64 root') (.slice (some ⟨gt', 0, none⟩) nt' nt')
            have hCb3 := hCb2.put5 hZb2 (.slice (some ⟨gv', 0, none⟩) nv' nv') (.slice (some ⟨gx', 0, none⟩) nh' nh') (.slice AM' nn' cM') (.int .i64 root') (.slice (some ⟨gt', 0, none⟩) nt' nt')
            have hB3 := below_undrew (below_set5 hB2 hzb (.slice (some ⟨gv', 0, none⟩) nv' nv') (.slice (some ⟨gx', 0, none⟩) nh' nh') (.slice AM' nn' cM') (.int .i64 root') (.slice (some ⟨gt', 0, none⟩) nt' nt'))
            go_wp2_with fail
            go_meet
            exact ⟨_, _, _, _, _, _, _, _, _, _, _, _, _, _, rfl, rfl, hzb, hne, hZa3, hZb3, hCa3, hCb3, hB3⟩
          · go_simp
            generalize hwn : wq.alloc (.cells #[.slice none 0 0, .slice none 0 0, .slice none 0 0, .int .i64 0, .slice none 0 0] 38) = wn
            have hb : Below wq.heap.size wq wn := by rw [← hwn]; exact below_alloc _ _
            have hZa : Row wn wq.heap.size 38 plZ := by rw [← hwn]; exact Row.new _ _ _
            have hza : w8.heap.size ≤ wq.heap.size := hB.size
            generalize hga : wq.heap.size = ga at hZa hza ⊢
            try have hne : ga ≠ gb := by (have h1 := hZb.lt; omega)
            clear hga hwn
            replace hB := bthen hB hb
            try replace hZb := hZb.later hb
            try replace hCa := hCa.later hb
            try replace hCb := hCb.later hb
            rename World => wq
            refine hK.out _ _ (HK.out _ hB) (fun hNew => ?_)
            clear hK K hHeld
            have hHeld := hNew
            clear hNew
            try simp only [Act.put, uA, u0, u1]
            refine wpAnyU_one (i := 3) (by kernel_rfl) rfl (fun K hK => ?_)
            go_simp
            go_at_call 9
            refine (C2.out _ hB).mono ?_
            rintro e wn ⟨gv', gx', gt', AM', cM', L', rfl, hCb, hb⟩
            replace hB := bthen hB hb
            try replace hZa := hZa.later hb
            try replace hZb := hZb.later hb
            replace hCa := hCa.later hb
            go_wp2_with fail
            rename World => wq
            refine hK.out _ _ (HK.out _ hB) (fun hNew => ?_)
            clear hK K hHeld
            have hHeld := hNew
            clear hNew
            try simp only [Act.put, uA, u0, u1]
            refine wpAnyU_one (i := 6) (by kernel_rfl) rfl (fun K hK => ?_)
            have z0 : wq.cell? ⟨ga, 0, none⟩ = some (.slice none 0 0) := hZa.cell 0
            have z1 : wq.cell? ⟨ga, 1, none⟩ = some (.slice none 0 0) := hZa.cell 1
            have z2 : wq.cell? ⟨ga, 2, none⟩ = some (.slice none 0 0) := hZa.cell 2
            have z3 : wq.cell? ⟨ga, 3, none⟩ = some (.int .i64 0) := hZa.cell 3
            have z4 : wq.cell? ⟨ga, 4, none⟩ = some (.slice none 0 0) := hZa.cell 4
            have f0 := hZa.frozen 0
            have f1 := hZa.frozen 1
            have f2 := hZa.frozen 2
            have f3 := hZa.frozen 3
            have f4 := hZa.frozen 4
            have fl := hZa.lt
            go_simp
            refine hK.out _ _ (HK.out _ (below_set5 hB hza (.slice (some ⟨gv, 0, none⟩) nv nv) (.slice (some ⟨gx, 0, none⟩) nh nh) (.slice AM nn cM) (.int .i64 root) (.slice (some ⟨gt, 0, none⟩) nt nt))) (fun hNew => ?_)
            clear hK K hHeld
            have hHeld := hNew
            clear hNew
            try simp only [Act.put, uA, u0, u1]
            refine wpAnyU_last (i := 7) (by kernel_rfl) rfl (by kernel_rfl) (fun K hK => ?_)
            have hZa2 := row_put5 hZa rfl (.slice (some ⟨gv, 0, none⟩) nv nv) (.slice (some ⟨gx, 0, none⟩) nh nh) (.slice AM nn cM) (.int .i64 root) (.slice (some ⟨gt, 0, none⟩) nt nt)
            have hZb2 := row_off5 hZb (Ne.symm hne) (.slice (some ⟨gv, 0, none⟩) nv nv) (.slice (some ⟨gx, 0, none⟩) nh nh) (.slice AM nn cM) (.int .i64 root) (.slice (some ⟨gt, 0, none⟩) nt nt)
            have hCa2 := hCa.put5 hZa (.slice (some ⟨gv, 0, none⟩) nv nv) (.slice (some ⟨gx, 0, none⟩) nh nh) (.slice AM nn cM) (.int .i64 root) (.slice (some ⟨gt, 0, none⟩) nt nt)
            have hCb2 := hCb.put5 hZa (.slice (some ⟨gv, 0, none⟩) nv nv) (.slice (some ⟨gx, 0, none⟩) nh nh) (.slice AM nn cM) (.int .i64 root) (.slice (some ⟨gt, 0, none⟩) nt nt)
            have hB2 := below_set5 hB hza (.slice (some ⟨gv, 0, none⟩) nv nv) (.slice (some ⟨gx, 0, none⟩) nh nh) (.slice AM nn cM) (.int .i64 root) (.slice (some ⟨gt, 0, none⟩) nt nt)
            clear z0 z1 z2 z3 z4 f0 f1 f2 f3 f4 fl hZa hZb hCa hCb hB
            generalize (((((wq.setCell _ _).setCell _ _).setCell _ _).setCell _ _).setCell _ _) = wn at hHeld hZa2 hZb2 hCa2 hCb2 hB2 ⊢
            rename World => wq
            have z0 : wq.cell? ⟨gb, 0, none⟩ = some (.slice none 0 0) := hZb2.cell 0
            have z1 : wq.cell? ⟨gb, 1, none⟩ = some (.slice none 0 0) := hZb2.cell 1
            have z2 : wq.cell? ⟨gb, 2, none⟩ = some (.slice none 0 0) := hZb2.cell 2
            have z3 : wq.cell? ⟨gb, 3, none⟩ = some (.int .i64 0) := hZb2.cell 3
            have z4 : wq.cell? ⟨gb, 4, none⟩ = some (.slice none 0 0) := hZb2.cell 4
            have f0 := hZb2.frozen 0
            have f1 := hZb2.frozen 1
            have f2 := hZb2.frozen 2
            have f3 := hZb2.frozen 3
            have f4 := hZb2.frozen 4
            have fl := hZb2.lt
            go_simp
            refine hK.out _ _ ?_
            clear hK K hHeld
            try simp only [Act.put]
            refine wpAnyU_done (by kernel_rfl) ?_ _
            have hZb3 := row_put5 hZb2 rfl (.slice (some ⟨gv', 0, none⟩) nv' nv') (.slice (some ⟨gx', 0, none⟩) nh' nh') (.slice AM' nn' cM') (.int .i64 root') (.slice (some ⟨gt', 0, none⟩) nt' nt')
            have hZa3 := row_off5 hZa2 hne (.slice (some ⟨gv', 0, none⟩) nv' nv') (.slice (some ⟨gx', 0, none⟩) nh' nh') (.slice AM' nn' cM') (.int .i64 root') (.slice (some ⟨gt', 0, none⟩) nt' nt')
            have hCa3 := hCa2.put5 hZb2 (.slice (some ⟨gv', 0, none⟩) nv' nv') (.slice (some ⟨gx', 0, none⟩) nh' nh') (.slice AM' nn' cM') (.int .i64 root') (.slice (some ⟨gt', 0, none⟩) nt' nt')
            have hCb3 := hCb2.put5 hZb2 (.slice (some ⟨gv', 0, none⟩) nv' nv') (.slice (some ⟨gx', 0, none⟩) nh' nh') (.slice AM' nn' cM') (.int .i64 root') (.slice (some ⟨gt', 0, none⟩) nt' nt')
            have hB3 := below_undrew (below_set5 hB2 hzb (.slice (some ⟨gv', 0, none⟩) nv' nv') (.slice (some ⟨gx', 0, none⟩) nh' nh') (.slice AM' nn' cM') (.int .i64 root') (.slice (some ⟨gt', 0, none⟩) nt' nt'))
            go_wp2_with fail
            go_meet
            exact ⟨_, _, _, _, _, _, _, _, _, _, _, _, _, _, rfl, rfl, hzb, hne, hZa3, hZb3, hCa3, hCb3, hB3⟩
        · go_simp
          generalize hwn : wq.alloc (.cells #[.slice none 0 0, .slice none 0 0, .slice none 0 0, .int .i64 0, .slice none 0 0] 38) = wn
          have hb : Below wq.heap.size wq wn := by rw [← hwn]; exact below_alloc _ _
          have hZa : Row wn wq.heap.size 38 plZ := by rw [← hwn]; exact Row.new _ _ _
          have hza : w8.heap.size ≤ wq.heap.size := hB.size
          generalize hga : wq.heap.size = ga at hZa hza ⊢
          try have hne : ga ≠ gb := by (have h1 := hZb.lt; omega)
          clear hga hwn
          replace hB := bthen hB hb
          try replace hZb := hZb.later hb
          try replace hCa := hCa.later hb
          try replace hCb := hCb.later hb
          rename World => wq
          refine hK.out _ _ (HK.out _ hB) (fun hNew => ?_)
          clear hK K hHeld
          have hHeld := hNew
          clear hNew
          try simp only [Act.put, uA, u0, u1]
          refine wpAnyU_one (i := 1) (by kernel_rfl) rfl (fun K hK => ?_)
          go_simp
          go_at_call 9
          refine (C1.out _ hB).mono ?_
          rintro e wn ⟨gv, gx, gt, AM, cM, L, rfl, hCa, hb⟩
          replace hB := bthen hB hb
          try replace hZa := hZa.later hb
          try replace hZb := hZb.later hb
          go_wp2_with fail
          rename World => wq
          refine hK.out _ _ (HK.out _ hB) (fun hNew => ?_)
          clear hK K hHeld
          have hHeld := hNew
          clear hNew
          try simp only [Act.put, uA, u0, u1]
          refine wpAnyU_one (i := 3) (by kernel_rfl) rfl (fun K hK => ?_)
          go_simp
          go_at_call 9
          refine (C2.out _ hB).mono ?_
          rintro e wn ⟨gv', gx', gt', AM', cM', L', rfl, hCb, hb⟩
          replace hB := bthen hB hb
          try replace hZa := hZa.later hb
          try replace hZb := hZb.later hb
          replace hCa := hCa.later hb
          go_wp2_with fail
          rename World => wq
          refine hK.out _ _ (HK.out _ hB) (fun hNew => ?_)
          clear hK K hHeld
          have hHeld := hNew
          clear hNew
          try simp only [Act.put, uA, u0, u1]
          refine wpAnyU_one (i := 6) (by kernel_rfl) rfl (fun K hK => ?_)
          have z0 : wq.cell? ⟨ga, 0, none⟩ = some (.slice none 0 0) := hZa.cell 0
          have z1 : wq.cell? ⟨ga, 1, none⟩ = some (.slice none 0 0) := hZa.cell 1
          have z2 : wq.cell? ⟨ga, 2, none⟩ = some (.slice none 0 0) := hZa.cell 2
          have z3 : wq.cell? ⟨ga, 3, none⟩ = some (.int .i64 0) := hZa.cell 3
          have z4 : wq.cell? ⟨ga, 4, none⟩ = some (.slice none 0 0) := hZa.cell 4
          have f0 := hZa.frozen 0
          have f1 := hZa.frozen 1
          have f2 := hZa.frozen 2
          have f3 := hZa.frozen 3
          have f4 := hZa.frozen 4
          have fl := hZa.lt
          go_simp
          refine hK.out _ _ (HK.out _ (below_set5 hB hza (.slice (some ⟨gv, 0, none⟩) nv nv) (.slice (some ⟨gx, 0, none⟩) nh nh) (.slice AM nn cM) (.int .i64 root) (.slice (some ⟨gt, 0, none⟩) nt nt))) (fun hNew => ?_)
          clear hK K hHeld
          have hHeld := hNew
          clear hNew
          try simp only [Act.put, uA, u0, u1]
          refine wpAnyU_last (i := 7) (by kernel_rfl) rfl (by kernel_rfl) (fun K hK => ?_)
          have hZa2 := row_put5 hZa rfl (.slice (some ⟨gv, 0, none⟩) nv nv) (.slice (some ⟨gx, 0, none⟩) nh nh) (.slice AM nn cM) (.int .i64 root) (.slice (some ⟨gt, 0, none⟩) nt nt)
          have hZb2 := row_off5 hZb (Ne.symm hne) (.slice (some ⟨gv, 0, none⟩) nv nv) (.slice (some ⟨gx, 0, none⟩) nh nh) (.slice AM nn cM) (.int .i64 root) (.slice (some ⟨gt, 0, none⟩) nt nt)
          have hCa2 := hCa.put5 hZa (.slice (some ⟨gv, 0, none⟩) nv nv) (.slice (some ⟨gx, 0, none⟩) nh nh) (.slice AM nn cM) (.int .i64 root) (.slice (some ⟨gt, 0, none⟩) nt nt)
          have hCb2 := hCb.put5 hZa (.slice (some ⟨gv, 0, none⟩) nv nv) (.slice (some ⟨gx, 0, none⟩) nh nh) (.slice AM nn cM) (.int .i64 root) (.slice (some ⟨gt, 0, none⟩) nt nt)
          have hB2 := below_set5 hB hza (.slice (some ⟨gv, 0, none⟩) nv nv) (.slice (some ⟨gx, 0, none⟩) nh nh) (.slice AM nn cM) (.int .i64 root) (.slice (some ⟨gt, 0, none⟩) nt nt)
          clear z0 z1 z2 z3 z4 f0 f1 f2 f3 f4 fl hZa hZb hCa hCb hB
          generalize (((((wq.setCell _ _).setCell _ _).setCell _ _).setCell _ _).setCell _ _) = wn at hHeld hZa2 hZb2 hCa2 hCb2 hB2 ⊢
          rename World => wq
          have z0 : wq.cell? ⟨gb, 0, none⟩ = some (.slice none 0 0) := hZb2.cell 0
          have z1 : wq.cell? ⟨gb, 1, none⟩ = some (.slice none 0 0) := hZb2.cell 1
          have z2 : wq.cell? ⟨gb, 2, none⟩ = some (.slice none 0 0) := hZb2.cell 2
          have z3 : wq.cell? ⟨gb, 3, none⟩ = some (.int .i64 0) := hZb2.cell 3
          have z4 : wq.cell? ⟨gb, 4, none⟩ = some (.slice none 0 0) := hZb2.cell 4
          have f0 := hZb2.frozen 0
          have f1 := hZb2.frozen 1
          have f2 := hZb2.frozen 2
          have f3 := hZb2.frozen 3
          have f4 := hZb2.frozen 4
          have fl := hZb2.lt
          go_simp
          refine hK.out _ _ ?_
          clear hK K hHeld
          try simp only [Act.put]
          refine wpAnyU_done (by kernel_rfl) ?_ _
          have hZb3 := row_put5 hZb2 rfl (.slice (some ⟨gv', 0, none⟩) nv' nv') (.slice (some ⟨gx', 0, none⟩) nh' nh') (.slice AM' nn' cM') (.int .i64 root') (.slice (some ⟨gt', 0, none⟩) nt' nt')
          have hZa3 := row_off5 hZa2 hne (.slice (some ⟨gv', 0, none⟩) nv' nv') (.slice (some ⟨gx', 0, none⟩) nh' nh') (.slice AM' nn' cM') (.int .i64 root') (.slice (some ⟨gt', 0, none⟩) nt' nt')
          have hCa3 := hCa2.put5 hZb2 (.slice (some ⟨gv', 0, none⟩) nv' nv') (.slice (some ⟨gx', 0, none⟩) nh' nh') (.slice AM' nn' cM') (.int .i64 root') (.slice (some ⟨gt', 0, none⟩) nt' nt')
          have hCb3 := hCb2.put5 hZb2 (.slice (some ⟨gv', 0, none⟩) nv' nv') (.slice (some ⟨gx', 0, none⟩) nh' nh') (.slice AM' nn' cM') (.int .i64 root') (.slice (some ⟨gt', 0, none⟩) nt' nt')
          have hB3 := below_undrew (below_set5 hB2 hzb (.slice (some ⟨gv', 0, none⟩) nv' nv') (.slice (some ⟨gx', 0, none⟩) nh' nh') (.slice AM' nn' cM') (.int .i64 root') (.slice (some ⟨gt', 0, none⟩) nt' nt'))
          go_wp2_with fail
          go_meet
          exact ⟨_, _, _, _, _, _, _, _, _, _, _, _, _, _, rfl, rfl, hzb, hne, hZa3, hZb3, hCa3, hCb3, hB3⟩
    case rest =>
      obtain ⟨ga, gb, gv, gx, gt, AM, cM, L, gv', gx', gt', AM', cM', L', rfl, rfl, hzb, hne, hRa, hRb, hCa, hCb, hbc⟩ := hcut
      obtain ⟨w9, hw9⟩ : ∃ wo, wo = wc := ⟨_, rfl⟩
      subst hw9
      unfold plC at hRa hRb
      have hlow : w.heap.size ≤ gb := Nat.le_trans hB8.size hzb
      have hB9 := bthen hB8 hbc
      have hI9 := hI8.later hbc
      have hA9 := hA8.later hbc
      clear HK C1 C2 hR8' hB8 hR8 hP8 hI8 hA8 hP8' hbc
      have HUL := Lib.hid (qvars_length HGR.out.narrow HGR.out.few)
      have CV : Hid (∀ y, Below w9.heap.size w9 y → Calls Tryd.prog 11 #[.agg #[.string qp.name, .slice (some ⟨gh5, 0, none⟩) qp.head.length qp.head.length, .slice A5 qp.atoms.length c5]] y fun e w' => ∃ A c, e = .returned (.slice A (qvars qp.atoms).length c) ∧ Rd w' w'.heap.size A (ss (qvars qp.atoms)) ∧ Below w9.heap.size w9 w') := Lib.hid fun y hy => by
        refine (r09vars_any qp.name (some ⟨gh5, 0, none⟩) qp.head.length qp.head.length A5 qp.atoms c5 y HGR.out.few HGR.out.narrow (hA9.later hy)).mono ?_
        rintro e w' ⟨v, rfl, hv, hb⟩
        obtain ⟨A, c, rfl, _, _, hR, _⟩ := Rd.of_own hv
        exact ⟨A, c, rfl, hR, bthen hy hb⟩
      have CS : Hid (code = 0 → ∀ y A c, Below w9.heap.size w9 y → Rd y y.heap.size A (ss (qvars qp.atoms)) → Calls Tryd.prog 10 #[.slice (some ⟨gv', 0, none⟩) r.vars.length r.vars.length, .slice A (qvars qp.atoms).length c] y fun e w' => e = .returned (.bool true) ∧ Below w9.heap.size w9 w') := Lib.hid fun hc y A c hy hR => by
        have h1 := sameTexts_any (some ⟨gv', 0, none⟩) A r.vars (qvars qp.atoms) r.vars.length c y (by have := HSR.out.vars; omega) (by have := HUL.out; omega) (hCb.v.later hy).rd hR
        rw [decide_eq_true (HV.out hc)] at h1
        exact h1.mono fun e w' ⟨he, hb⟩ => ⟨he, bthen hy hb⟩
      have HK : Hid (∀ y, Below w9.heap.size w9 y → Below w9.heap.size w9 y ∧ y.cell? ⟨gb, 0, none⟩ = some (.slice (some ⟨gv', 0, none⟩) r.vars.length r.vars.length) ∧ y.cell? ⟨gi, 0, none⟩ = some (.string qp.name) ∧ y.cell? ⟨gi, 1, none⟩ = some (.slice (some ⟨gh5, 0, none⟩) qp.head.length qp.head.length) ∧ y.cell? ⟨gi, 2, none⟩ = some (.slice A5 qp.atoms.length c5)) := Lib.hid fun y hy => ⟨hy, (hRb.later hy).cell 0, (hI9.later hy).cell 0, (hI9.later hy).cell 1, (hI9.later hy).cell 2⟩
      have HT2 := Lib.hid (fun (y : World) (hy : Below w9.heap.size w9 y) => hT.later (bthen hB9 hy))
      go_upto_region 9 with fail
      go_cut [43] (fun x wx => x = .bool false ∧ Below w9.heap.size w9 wx)
      case first =>
        have hwd := HK.out _ (Below.refl w9.heap.size w9).drew
        clear hRa hRb hCa hCb hI9 hA9 hB9 HT2 HGR HSR HSZ HSQ hpe HUL HV hq hH hA hT
        generalize qvars qp.atoms = U at *
        refine wp_region_held_drew (S := (fun y : World => Below w9.heap.size w9 y ∧ y.cell? ⟨gb, 0, none⟩ = some (.slice (some ⟨gv', 0, none⟩) r.vars.length r.vars.length) ∧ y.cell? ⟨gi, 0, none⟩ = some (.string qp.name) ∧ y.cell? ⟨gi, 1, none⟩ = some (.slice (some ⟨gh5, 0, none⟩) qp.head.length qp.head.length) ∧ y.cell? ⟨gi, 2, none⟩ = some (.slice A5 qp.atoms.length c5))) (by kernel_rfl) hwd (fun hHeld => ?_)
        refine kY 0 hHeld ?_
        simp only [Act.put, k0, k1, k2]
        refine kY 1 hHeld ?_
        simp only [Act.put, k0, k1, k2]
        by_cases q35 : code = 0
        · obtain ⟨d35, e35, f35⟩ := ceT q35
          have H35 := Lib.hid q35; clear q35; try simp only [d35, e35, f35]
          refine kY 2 hHeld ?_
          simp only [Act.put, k0, k1, k2]
          refine kY 3 hHeld ?_
          simp only [Act.put, k0, k1, k2]
          refine kY 4 hHeld ?_
          simp only [Act.put, k0, k1, k2]
          refine kY 5 hHeld ?_
          simp only [Act.put, k0, k1, k2]
          refine kC 6 rfl (by kernel_rfl) (fun K hK => ?_)
          go_simp
          go_at_call 11
          refine (CV.out _ hHeld.1).mono ?_
          rintro e wq ⟨Av2, cv2, rfl, hRv2, hbq⟩
          go_wp2_with fail
          refine hK.out _ _ (HK.out _ hbq) (fun hNew => ?_)
          clear hK K hHeld; have hHeld := hNew; clear hNew
          try simp only [Act.put, k0, k1, k2]
          refine kC 7 rfl (by kernel_rfl) (fun K hK => ?_)
          go_simp
          go_at_call 10
          refine (CS.out H35.out _ _ _ hHeld.1 hRv2).mono ?_
          rintro e wz ⟨rfl, hbz⟩
          go_wp2_with fail
          refine hK.out _ _ (HK.out _ hbz) (fun hNew => ?_)
          clear hK K hHeld; have hHeld := hNew; clear hNew
          try simp only [Act.put, k0, k1, k2]
          refine kY 8 hHeld ?_
          simp only [Act.put, k0, k1, k2]
          refine kY 9 hHeld ?_
          simp only [Act.put, k0, k1, k2]
          refine wpAnyH_done (by kernel_rfl) ?_ _
          go_wp2_with fail
          go_meet
          exact ⟨rfl, hHeld.1⟩
        · obtain ⟨d35, e35, f35⟩ := ceF q35
          have H35 := Lib.hid q35; clear q35; try simp only [d35, e35, f35]
          refine kY 2 hHeld ?_
          simp only [Act.put, k0, k1, k2]
          refine kN 1 [(3, 37), (4, 38), (5, 39), (6, 40), (7, 41), (8, 42)] rfl (by kernel_rfl) (fun _ _ _ _ h => h) hHeld ?_
          simp only [k3, k4, Act.put, k0, k1, k2]
          refine kY 9 hHeld ?_
          simp only [Act.put, k0, k1, k2]
          refine wpAnyH_done (by kernel_rfl) ?_ _
          go_wp2_with fail
          go_meet
          exact ⟨rfl, hHeld.1⟩
      case rest =>
        obtain ⟨rfl, hbd⟩ := hcut
        obtain ⟨w10, hw10⟩ : ∃ wo, wo = wc := ⟨_, rfl⟩
        subst hw10
        have hB10 := bthen hB9 hbd
        replace hRa := hRa.later hbd
        replace hRb := hRb.later hbd
        replace hCa := hCa.later hbd
        replace hCb := hCb.later hbd
        have xa : w10.cell? ⟨ga, 0, none⟩ = some (.slice (some ⟨gv, 0, none⟩) p.vars.length p.vars.length) := hRa.cell 0
        have xb : w10.cell? ⟨gb, 0, none⟩ = some (.slice (some ⟨gv', 0, none⟩) r.vars.length r.vars.length) := hRb.cell 0
        have xf := hRb.frozen 0
        have xl := hRb.lt
        have hRb2 := hRb.set_ 0 (.slice (some ⟨gv, 0, none⟩) p.vars.length p.vars.length)
        have hRa2 := hRa.far (p := ⟨gb, 0, none⟩) hne (.slice (some ⟨gv, 0, none⟩) p.vars.length p.vars.length)
        have hCa2 := hCa.put1 hRb 0 (.slice (some ⟨gv, 0, none⟩) p.vars.length p.vars.length)
        have hCb2 := hCb.put1 hRb 0 (.slice (some ⟨gv, 0, none⟩) p.vars.length p.vars.length)
        have hB11 := hB10.setCell (p := ⟨gb, 0, none⟩) hlow (.slice (some ⟨gv, 0, none⟩) p.vars.length p.vars.length)
        have e1 : r.head = p.head := by have h := congrArg PPlan.head hpe; exact h
        have e2 : r.nodes = p.nodes := by have h := congrArg PPlan.nodes hpe; exact h
        have e3 : r.root = p.root := by have h := congrArg PPlan.root hpe; exact h
        have e4 : r.tops = p.tops := by have h := congrArg PPlan.tops hpe; exact h
        rw [e1, e2, e3, e4] at hRb2
        clear hRa hRb hCa hCb hB10 hpe HV HK CV CS hI9 hA9 HT2
        obtain ⟨E1, E2, E4⟩ : Hid (r.head = p.head) ∧ Hid (r.nodes = p.nodes) ∧ Hid (r.tops = p.tops) := ⟨Lib.hid e1, Lib.hid e2, Lib.hid e4⟩
        clear e1 e2 e3 e4
        go_upto_region 12 with fail
        clear xa xb xf xl
        generalize w10.setCell _ _ = w11 at hRb2 hRa2 hCa2 hCb2 hB11 ⊢
        have k1 : Rd w11 w11.heap.size (some ⟨gx', 0, none⟩) (is p.head) := by rw [← E1.out]; exact hCb2.h.rd
        have k2 : NdR w11 w11.heap.size AM' p.nodes := by rw [← E2.out]; exact hCb2.nodes
        have k4 : Rd w11 w11.heap.size (some ⟨gt', 0, none⟩) (is p.tops) := by rw [← E4.out]; exact hCb2.t.rd
        have HSM := Lib.hid (same18_any p (some ⟨gv, 0, none⟩) (some ⟨gx, 0, none⟩) AM (some ⟨gt, 0, none⟩) (some ⟨gv, 0, none⟩) (some ⟨gx', 0, none⟩) AM' (some ⟨gt', 0, none⟩) p.vars.length p.head.length cM p.tops.length p.vars.length p.head.length cM' p.tops.length w11 HSZ.out hCa2.v.rd hCa2.h.rd hCa2.nodes hCa2.t.rd hCa2.v.rd k1 k2 k4)
        have HTA := Lib.hid (fun (y : World) (hy : Below w11.heap.size w11 y) => awake18_any y (hT.later (bthen hB11 hy)))
        have a0 : w11.cell? ⟨ga, 0, none⟩ = some (.slice (some ⟨gv, 0, none⟩) p.vars.length p.vars.length) := hRa2.cell 0
        have a1 : w11.cell? ⟨ga, 1, none⟩ = some (.slice (some ⟨gx, 0, none⟩) p.head.length p.head.length) := hRa2.cell 1
        have a2 : w11.cell? ⟨ga, 2, none⟩ = some (.slice AM p.nodes.length cM) := hRa2.cell 2
        have a3 : w11.cell? ⟨ga, 3, none⟩ = some (.int .i64 p.root) := hRa2.cell 3
        have a4 : w11.cell? ⟨ga, 4, none⟩ = some (.slice (some ⟨gt, 0, none⟩) p.tops.length p.tops.length) := hRa2.cell 4
        have b0 : w11.cell? ⟨gb, 0, none⟩ = some (.slice (some ⟨gv, 0, none⟩) p.vars.length p.vars.length) := hRb2.cell 0
        have b1 : w11.cell? ⟨gb, 1, none⟩ = some (.slice (some ⟨gx', 0, none⟩) p.head.length p.head.length) := hRb2.cell 1
        have b2 : w11.cell? ⟨gb, 2, none⟩ = some (.slice AM' p.nodes.length cM') := hRb2.cell 2
        have b3 : w11.cell? ⟨gb, 3, none⟩ = some (.int .i64 p.root) := hRb2.cell 3
        have b4 : w11.cell? ⟨gb, 4, none⟩ = some (.slice (some ⟨gt', 0, none⟩) p.tops.length p.tops.length) := hRb2.cell 4
        clear hRa2 hRb2 hCa2 hCb2 k1 k2 k4 E1 E2 E4
        go_wp2_with fail
        with_reducible refine HSM.out.mono ?_
        rintro e w12 ⟨rfl, hb12⟩
        go_wp2_with fail
        refine (HTA.out _ hb12).mono ?_
        rintro e w13 ⟨rfl, hb13⟩
        go_wp2_with fail
        go_ret
        exact ⟨by first | rfl | simp, bthen (bthen hB11 hb12) hb13⟩
  · have d1 : (sc == 0) = false := by simpa using hs
    have d2 : (sc != 0) = true := by simpa using hs
    have HTA := Lib.hid (fun (y : World) (hy : Below w.heap.size w y) => awake18_any y (hT.later hy))
    clear hs HSC
    go_wp2_with fail
    refine HS.out.mono ?_
    rintro e w1 ⟨rfl, hb1⟩
    have hB1 := bthen hb0 hb1
    go_wp2_with fail
    refine (HTA.out _ hB1).mono ?_
    rintro e w2 ⟨rfl, hb2⟩
    go_wp2_with fail
    go_ret
    exact ⟨rfl, bthen hB1 hb2⟩
end Go.Proofs.YtdemmjofggemhaaDoor
