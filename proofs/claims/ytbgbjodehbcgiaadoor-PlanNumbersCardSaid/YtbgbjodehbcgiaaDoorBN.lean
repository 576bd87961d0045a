/- Several texts in one: R18Upd LPNums. -/
import Derived.Test.YtbgbjodehbcgiaaDoorBL
import Derived.Test.YtbgbjodehbcgiaaDoorBO
import Derived.Test.YtbgbjodehbcgiaaDoorLPBounds
import Derived.Deep.RegionHeld3
/- osierref18.Update: the contract. -/
namespace Go.Proofs.YtbgbjodehbcgiaaDoor
open Go.RowKit

theorem r18is_any (Av Ah A At : Option Addr) (nv cv nh ch n c nt ct : Nat) (root u : Int) (w : World) :
    Calls Tryd.prog 82 #[.agg #[.slice Av nv cv, .slice Ah nh ch, .slice A n c, .int .i64 root, .slice At nt ct], .int .i64 u] w fun e w' => e = .returned (.bool (decide (0 ≤ u) && decide (u < n))) ∧ Below w.heap.size w w' := by
  go_enter Tryd.func82, Tryd.ntmps82
  cases h : decide (0 ≤ u)
  · go_wp2_with fail
    go_ret
    exact ⟨rfl, below_alloc _ _⟩
  · cases k : decide (u < n) <;> (go_wp2_with fail; go_ret; exact ⟨rfl, below_alloc _ _⟩)
set_option maxRecDepth 100000 in
set_option maxHeartbeats 4000000 in
theorem r18update_any (Av Ah A At : Option Addr) (nv cv nh ch c nt ct : Nat) (N : List PNd) (root : Int) (w : World) (hl : N.length ≤ 35184372087808) (hN : NdR w w.heap.size A N) :
    Calls Tryd.prog 38 #[.agg #[.slice Av nv cv, .slice Ah nh ch, .slice A N.length c, .int .i64 root, .slice At nt ct]] w fun e w' => e = .returned (.int .i64 (updW N N.length)) ∧ Below w.heap.size w w' := by
  go_enter Tryd.func38, Tryd.ntmps38
  go_upto_region 1 with fail
  have hb0 := below_alloc w (.cells #[.slice Av nv cv, .slice Ah nh ch, .slice A N.length c, .int .i64 root, .slice At nt ct] 67)
  have hP0 : Row (w.alloc (.cells #[.slice Av nv cv, .slice Ah nh ch, .slice A N.length c, .int .i64 root, .slice At nt ct] 67)) w.heap.size 67 [.slice Av nv cv, .slice Ah nh ch, .slice A N.length c, .int .i64 root, .slice At nt ct] := Row.new _ _ _
  have hN0 := hN.later hb0
  generalize w.alloc _ = w0 at hb0 hP0 hN0 ⊢
  go_wp2_with fail
  go_loopw [3, 4, 5, 6] (fun s x _ _ wr => ∃ k : Nat, k ≤ N.length ∧ s = .int .i64 (updW N k) ∧ x = .int .i64 k ∧ Below w0.heap.size w0 wr) (fun _ x _ _ _ => N.length - (intOf x).toNat)
  case atStart => exact ⟨0, Nat.zero_le _, rfl, rfl, Below.refl _ _⟩
  case round =>
    obtain ⟨k, hk, rfl, rfl, hb⟩ := hrel
    have hNr := hN0.later hb
    have hPr := hP0.later hb
    have p2 : wr.cell? ⟨w.heap.size, 2, none⟩ = some (.slice A N.length c) := hPr.cell 2
    by_cases hlt : k < N.length
    · obtain ⟨ad, hA, hal, T, cT, _, c0, c1, c2, c3, c4, c5, c6⟩ := hNr.cells hlt
      subst hA
      have b1 : (0 : Int) ≤ k := by omega
      have b2 : (k : Int) < N.length := by omega
      have HY := Lib.hid (updW_of N (k := k))
      have HN := Lib.hid (updW_not N (k := k))
      have HU1 := Lib.hid (fun f acc u => upW_yes N (f := f) (acc := acc) (u := u))
      have HU2 := Lib.hid (fun f acc u => upW_no N (f := f) (acc := acc) (u := u))
      obtain ⟨R, hR⟩ : ∃ R, updW N (k + 1) = R := ⟨_, rfl⟩
      rw [hR] at HY HN
      have HE := Lib.hid hR
      clear hR
      generalize updW N k = S at HY HN
      generalize nd N k = x at c0 c1 c2 c3 c4 c5 c6 HY HN
      by_cases hk1 : x.kind = 1
      · have e1 : (x.kind != 1) = false := by simp [hk1]
        have HR := Lib.hid (HY.out hk1)
        clear HY HN hk1
        go_wp2_with fail
        go_loopw [3, 5, 6] (fun s u x wi => ∃ (m : Nat) (acc v : Int), m ≤ N.length ∧ s = .int .i64 acc ∧ u = .int .i64 v ∧ x = .int .i64 m ∧ Hid (R = upW N (N.length - m) acc v) ∧ Below w0.heap.size w0 wi) (fun _ _ x _ => N.length - (intOf x).toNat)
        case atStart => exact ⟨0, _, _, Nat.zero_le _, rfl, rfl, rfl, Lib.hid (by rw [Nat.sub_zero]; exact HR.out), hb⟩
        case round =>
          clear hb hNr hPr p2 c0 c1 c2 c3 c4 c5 c6
          obtain ⟨m, acc, v, hm, rfl, rfl, rfl, HI, hb⟩ := hrel
          have hPr := hP0.later hb
          have hNr := hN0.later hb
          have p0 : wr.cell? ⟨w.heap.size, 0, none⟩ = some (.slice Av nv cv) := hPr.cell 0
          have p1 : wr.cell? ⟨w.heap.size, 1, none⟩ = some (.slice Ah nh ch) := hPr.cell 1
          have p2 : wr.cell? ⟨w.heap.size, 2, none⟩ = some (.slice (some ad) N.length c) := hPr.cell 2
          have p3 : wr.cell? ⟨w.heap.size, 3, none⟩ = some (.int .i64 root) := hPr.cell 3
          have p4 : wr.cell? ⟨w.heap.size, 4, none⟩ = some (.slice At nt ct) := hPr.cell 4
          by_cases hlm : m < N.length
          · have g1 : decide ((m : Int) < N.length) = true := decide_eq_true (by omega)
            have g1n : decide (m < N.length) = true := decide_eq_true hlm
            have HISN := Lib.hid (r18is_any Av Ah (some ad) At nv cv nh ch N.length c nt ct root v wr)
            cases hv : (decide (0 ≤ v) && decide (v < N.length))
            · have hT : R = acc := HI.out.trans (HU2.out _ _ _ hv)
              rw [hv] at HISN
              clear hv HI
              go_wp2_with fail
              refine HISN.out.mono ?_
              rintro e w2 ⟨rfl, hb2⟩
              have hB2 := bthen hb hb2
              go_wp2_with fail
              go_roundw
              case rel => exact ⟨k + 1, by omega, by rw [HE.out, hT], by go_num, hB2⟩
              case measure => simp [intOf]; omega
            · rw [hv] at HISN
              have HT := Lib.hid (HI.out.trans (HU1.out _ _ _ hv (by omega)))
              have hv2 : 0 ≤ v ∧ v < N.length := by simpa using hv
              obtain ⟨j, rfl⟩ : ∃ j : Nat, v = j := ⟨v.toNat, by omega⟩
              rw [Int.toNat_natCast] at HT
              have g2 : (0 : Int) ≤ j := by omega
              have g3 : (j : Int) < N.length := by omega
              clear hv HI
              go_wp2_with fail
              refine HISN.out.mono ?_
              rintro e w2 ⟨rfl, hb2⟩
              have hB2 := bthen hb hb2
              obtain ⟨ad2, hA2, _, T2, cT2, _, _, _, _, _, _, d5, _⟩ := (hNr.later hb2).cells (k := j) (by omega)
              injection hA2 with hA2
              subst hA2
              have r2 : w2.cell? ⟨w.heap.size, 2, none⟩ = some (.slice (some ad) N.length c) := (hPr.later hb2).cell 2
              clear hv2 p0 p1 p2 p3 p4
              generalize nd N j = y at d5 HT
              go_wp2_with fail
              go_roundw
              case rel => exact ⟨m + 1, _, _, by omega, rfl, rfl, by go_num, Lib.hid (by rw [HT.out]; congr 1), hB2⟩
              case measure => simp [intOf]; omega
          · obtain rfl : m = N.length := by omega
            have hT : R = acc := by have := HI.out; rwa [Nat.sub_self] at this
            have g1 : decide ((N.length : Int) < N.length) = false := decide_eq_false (by omega)
            clear HI
            go_wp2_with fail
            go_roundw
            case rel => exact ⟨k + 1, by omega, by rw [HE.out, hT], by go_num, hb⟩
            case measure => simp [intOf]; omega
      · have e1 : (x.kind != 1) = true := by simp [hk1]
        have HR := Lib.hid (HN.out hk1)
        clear HY HN hk1
        go_wp2_with fail
        go_roundw
        case rel => exact ⟨k + 1, by omega, by rw [HE.out, HR.out], by go_num, hb⟩
        case measure => simp [intOf]; omega
    · obtain rfl : k = N.length := by omega
      go_wp2_with fail
      go_ret
      exact ⟨rfl, bthen hb0 hb⟩
end Go.Proofs.YtbgbjodehbcgiaaDoor

/- The walk of osierlaw18.PlanNumbers. -/
namespace Go.Proofs.YtbgbjodehbcgiaaDoor
open Go.RowKit

/-- A plan to be read, wherever its parts lie. -/
def PRd (w : World) (p : PPlan) (AV AH AN AT : Option Addr) : Prop := Rd w w.heap.size AV (ss p.vars) ∧ Rd w w.heap.size AH (is p.head) ∧ NdR w w.heap.size AN p.nodes ∧ Rd w w.heap.size AT (is p.tops)
theorem PRd.later {w w' : World} {p : PPlan} {AV AH AN AT : Option Addr} (h : PRd w p AV AH AN AT) (hb : Below w.heap.size w w') : PRd w' p AV AH AN AT := ⟨h.1.later hb, h.2.1.later hb, h.2.2.1.later hb, h.2.2.2.later hb⟩
set_option maxRecDepth 100000 in
set_option maxHeartbeats 8000000 in
theorem law_pnumbers (p : PPlan) (AV : Option Addr) (cV : Nat) (AH : Option Addr) (cH : Nat) (AN : Option Addr) (cN : Nat) (AT : Option Addr) (cT : Nat) (a : Int) (w : World) (hp : SzP p) (hV : Rd w w.heap.size AV (ss p.vars)) (hH : Rd w w.heap.size AH (is p.head)) (hN : NdR w w.heap.size AN p.nodes) (hT : Rd w w.heap.size AT (is p.tops)) (hTab : Tab w) :
    Calls Tryd.prog 7 #[.agg #[.slice AV p.vars.length cV, .slice AH p.head.length cH, .slice AN p.nodes.length cN, .int .i64 p.root, .slice AT p.tops.length cT], .int .i64 a] w fun e w' => e = .returned (.bool true) ∧ Below w.heap.size w w' := by
  go_enter Tryd.func7, Tryd.ntmps7
  go_upto_region 2 with fail
  have hb0 := below_alloc w (.cells #[.slice AV p.vars.length cV, .slice AH p.head.length cH, .slice AN p.nodes.length cN, .int .i64 p.root, .slice AT p.tops.length cT] 62)
  have hP0 : Row (w.alloc (.cells #[.slice AV p.vars.length cV, .slice AH p.head.length cH, .slice AN p.nodes.length cN, .int .i64 p.root, .slice AT p.tops.length cT] 62)) w.heap.size 62 [.slice AV p.vars.length cV, .slice AH p.head.length cH, .slice AN p.nodes.length cN, .int .i64 p.root, .slice AT p.tops.length cT] := Row.new _ _ _
  have hR0 : PRd (w.alloc (.cells #[.slice AV p.vars.length cV, .slice AH p.head.length cH, .slice AN p.nodes.length cN, .int .i64 p.root, .slice AT p.tops.length cT] 62)) p AV AH AN AT := ⟨hV.later hb0, hH.later hb0, hN.later hb0, hT.later hb0⟩
  have hT0 := hTab.later hb0
  generalize w.alloc _ = w0 at hb0 hP0 hR0 hT0 ⊢
  have HK : Hid (∀ y, Below w0.heap.size w0 y → Below w0.heap.size w0 y ∧ y.cell? ⟨w.heap.size, 0, none⟩ = some (.slice AV p.vars.length cV) ∧ y.cell? ⟨w.heap.size, 1, none⟩ = some (.slice AH p.head.length cH) ∧ y.cell? ⟨w.heap.size, 2, none⟩ = some (.slice AN p.nodes.length cN) ∧ y.cell? ⟨w.heap.size, 3, none⟩ = some (.int .i64 p.root) ∧ y.cell? ⟨w.heap.size, 4, none⟩ = some (.slice AT p.tops.length cT)) := Lib.hid fun y hy => ⟨hy, (hP0.later hy).cell 0, (hP0.later hy).cell 1, (hP0.later hy).cell 2, (hP0.later hy).cell 3, (hP0.later hy).cell 4⟩
  have C1 : Hid (∀ y, Below w0.heap.size w0 y → Calls Tryd.prog 27 #[] y fun e w' => e = .returned (.bool true) ∧ Below w0.heap.size w0 w') := Lib.hid fun y hy => (awake18_any y (hT0.later hy)).mono fun e w' ⟨he, hb⟩ => ⟨he, bthen hy hb⟩
  have C2 : Hid (∀ y, Below w0.heap.size w0 y → Calls Tryd.prog 30 #[.agg #[.slice AV p.vars.length cV, .slice AH p.head.length cH, .slice AN p.nodes.length cN, .int .i64 p.root, .slice AT p.tops.length cT]] y fun e w' => ∃ gv gh gt AN' cN', e = .returned (.agg #[.slice (some ⟨gv, 0, none⟩) p.vars.length p.vars.length, .slice (some ⟨gh, 0, none⟩) p.head.length p.head.length, .slice AN' p.nodes.length cN', .int .i64 p.root, .slice (some ⟨gt, 0, none⟩) p.tops.length p.tops.length]) ∧ PRd w' p (some ⟨gv, 0, none⟩) (some ⟨gh, 0, none⟩) AN' (some ⟨gt, 0, none⟩) ∧ Below w0.heap.size w0 w') := Lib.hid fun y hy => by
    have h := hR0.later hy
    refine (of18_any p AV cV AH cH AN cN AT cT y hp h.1 h.2.1 h.2.2.1 h.2.2.2).mono ?_
    rintro e w' ⟨gv, gh, gt, AN', cN', rfl, h1, h2, h3, h4, hb⟩
    exact ⟨gv, gh, gt, AN', cN', rfl, ⟨h1, h2, h3, h4⟩, bthen hy hb⟩
  have C3 : Hid (∀ y gv gh gt AN' cN', Below w0.heap.size w0 y → PRd y p (some ⟨gv, 0, none⟩) (some ⟨gh, 0, none⟩) AN' (some ⟨gt, 0, none⟩) → Calls Tryd.prog 35 #[.agg #[.slice (some ⟨gv, 0, none⟩) p.vars.length p.vars.length, .slice (some ⟨gh, 0, none⟩) p.head.length p.head.length, .slice AN' p.nodes.length cN', .int .i64 p.root, .slice (some ⟨gt, 0, none⟩) p.tops.length p.tops.length]] y fun e w' => ∃ gv gh gt AN' cN', e = .returned (.agg #[.slice (some ⟨gv, 0, none⟩) p.vars.length p.vars.length, .slice (some ⟨gh, 0, none⟩) p.head.length p.head.length, .slice AN' p.nodes.length cN', .int .i64 p.root, .slice (some ⟨gt, 0, none⟩) p.tops.length p.tops.length]) ∧ PRd w' p (some ⟨gv, 0, none⟩) (some ⟨gh, 0, none⟩) AN' (some ⟨gt, 0, none⟩) ∧ Below w0.heap.size w0 w') := Lib.hid fun y gv gh gt AN' cN' hy h => by
    refine (back18_any p (some ⟨gv, 0, none⟩) p.vars.length (some ⟨gh, 0, none⟩) p.head.length AN' cN' (some ⟨gt, 0, none⟩) p.tops.length y hp h.1 h.2.1 h.2.2.1 h.2.2.2).mono ?_
    rintro e w' ⟨gv, gh, gt, AN', cN', rfl, h1, h2, h3, h4, hb⟩
    exact ⟨gv, gh, gt, AN', cN', rfl, ⟨h1, h2, h3, h4⟩, bthen hy hb⟩
  have C4 : Hid (∀ y gv gh gt AN' cN', Below w0.heap.size w0 y → Calls Tryd.prog 34 #[.agg #[.slice (some ⟨gv, 0, none⟩) p.vars.length p.vars.length, .slice (some ⟨gh, 0, none⟩) p.head.length p.head.length, .slice AN' p.nodes.length cN', .int .i64 p.root, .slice (some ⟨gt, 0, none⟩) p.tops.length p.tops.length]] y fun e w' => e = .returned (.int .i64 (2 * (p.tops.length : Int))) ∧ Below w0.heap.size w0 w') := Lib.hid fun y gv gh gt AN' cN' hy =>
    (delay_any (some ⟨gv, 0, none⟩) (some ⟨gh, 0, none⟩) AN' (some ⟨gt, 0, none⟩) _ _ _ _ _ cN' _ _ p.root y hp.tops).mono fun e w' ⟨he, hb⟩ => ⟨he, bthen hy hb⟩
  obtain ⟨U, hU⟩ : ∃ U, updW p.nodes p.nodes.length = U := ⟨_, rfl⟩
  have C5 : Hid (∀ y gv gh gt AN' cN', Below w0.heap.size w0 y → PRd y p (some ⟨gv, 0, none⟩) (some ⟨gh, 0, none⟩) AN' (some ⟨gt, 0, none⟩) → Calls Tryd.prog 37 #[.agg #[.slice (some ⟨gv, 0, none⟩) p.vars.length p.vars.length, .slice (some ⟨gh, 0, none⟩) p.head.length p.head.length, .slice AN' p.nodes.length cN', .int .i64 p.root, .slice (some ⟨gt, 0, none⟩) p.tops.length p.tops.length]] y fun e w' => e = .returned (.int .i64 U) ∧ Below w0.heap.size w0 w') := Lib.hid fun y gv gh gt AN' cN' hy h => by
    have h2 := update_any (some ⟨gv, 0, none⟩) (some ⟨gh, 0, none⟩) AN' (some ⟨gt, 0, none⟩) p.vars.length p.vars.length p.head.length p.head.length cN' p.tops.length p.tops.length p.nodes p.root y (by have := hp.nodes; omega) h.2.2.1
    rw [hU] at h2
    exact h2.mono fun e w' ⟨he, hb⟩ => ⟨he, bthen hy hb⟩
  have C6 : Hid (∀ y gv gh gt AN' cN', Below w0.heap.size w0 y → PRd y p (some ⟨gv, 0, none⟩) (some ⟨gh, 0, none⟩) AN' (some ⟨gt, 0, none⟩) → Calls Tryd.prog 38 #[.agg #[.slice (some ⟨gv, 0, none⟩) p.vars.length p.vars.length, .slice (some ⟨gh, 0, none⟩) p.head.length p.head.length, .slice AN' p.nodes.length cN', .int .i64 p.root, .slice (some ⟨gt, 0, none⟩) p.tops.length p.tops.length]] y fun e w' => e = .returned (.int .i64 U) ∧ Below w0.heap.size w0 w') := Lib.hid fun y gv gh gt AN' cN' hy h => by
    have h2 := r18update_any (some ⟨gv, 0, none⟩) (some ⟨gh, 0, none⟩) AN' (some ⟨gt, 0, none⟩) p.vars.length p.vars.length p.head.length p.head.length cN' p.tops.length p.tops.length p.nodes p.root y (by have := hp.nodes; omega) h.2.2.1
    rw [hU] at h2
    exact h2.mono fun e w' ⟨he, hb⟩ => ⟨he, bthen hy hb⟩
  have ht1 := hp.tops
  have C7 : Hid (∀ y, Below w0.heap.size w0 y → Calls Tryd.prog 36 #[.int .i64 a] y fun e w' => e = .returned (.int .i64 (boundE a)) ∧ Below w0.heap.size w0 w') := Lib.hid fun y hy => (bound_any a y).mono fun e w' ⟨he, hb⟩ => ⟨he, by rw [← hb]; exact hy⟩
  clear hV hH hN hT hTab hP0 hR0 hT0 hU hp
  generalize p.vars.length = nv at *
  generalize p.head.length = nh at *
  generalize p.nodes.length = nn at *
  generalize p.tops.length = nt at *
  generalize p.root = root at *
  have w1 : IntKind.i64.wrap (2 * (nt : Int)) = 2 * (nt : Int) := IntWalk.i64_in _ (by omega)
  rcases (by omega : a < 1 ∨ (1 ≤ a ∧ a ≤ 6) ∨ 6 < a) with h | ⟨h, k⟩ | h
  · have ga : decide (1 ≤ a) = false := decide_eq_false (by omega)
    have be : boundE a = 0 := by unfold boundE; rw [if_pos (.inl h)]
    rw [be] at C7
    clear be h
    go_upto_region 4 with fail
    go_region_held3 (fun y : World => Below w0.heap.size w0 y ∧ y.cell? ⟨w.heap.size, 0, none⟩ = some (.slice AV nv cV) ∧ y.cell? ⟨w.heap.size, 1, none⟩ = some (.slice AH nh cH) ∧ y.cell? ⟨w.heap.size, 2, none⟩ = some (.slice AN nn cN) ∧ y.cell? ⟨w.heap.size, 3, none⟩ = some (.int .i64 root) ∧ y.cell? ⟨w.heap.size, 4, none⟩ = some (.slice AT nt cT))
      (first | exact HK.out _ (by assumption) | exact HK.out _ (Below.refl _ _) | exact HK.out _ (Below.refl _ _).drew)
      (first
        | (go_at_call 27; refine (C1.out _ (by first | assumption | exact (Below.refl _ _).drew)).mono ?_; rintro e wq ⟨rfl, hbq⟩)
        | (go_at_call 30; refine (C2.out _ (by first | assumption | exact (Below.refl _ _).drew)).mono ?_; rintro e wq ⟨gv, gh, gt, AN', cN', rfl, hrd, hbq⟩)
        | (go_at_call 35; refine (C3.out _ _ _ _ _ _ (by first | assumption | exact (Below.refl _ _).drew) (by assumption)).mono ?_; rintro e wq ⟨gv, gh, gt, AN', cN', rfl, hrd, hbq⟩)
        | (go_at_call 34; refine (C4.out _ _ _ _ _ _ (by first | assumption | exact (Below.refl _ _).drew)).mono ?_; rintro e wq ⟨rfl, hbq⟩)
        | (go_at_call 36; refine (C7.out _ (by first | assumption | exact (Below.refl _ _).drew)).mono ?_; rintro e wq ⟨rfl, hbq⟩)
        | (go_at_call 37; refine (C5.out _ _ _ _ _ _ (by first | assumption | exact (Below.refl _ _).drew) (by assumption)).mono ?_; rintro e wq ⟨rfl, hbq⟩)
        | (go_at_call 38; refine (C6.out _ _ _ _ _ _ (by first | assumption | exact (Below.refl _ _).drew) (by assumption)).mono ?_; rintro e wq ⟨rfl, hbq⟩))
    all_goals
      go_wp2_with fail
      go_ret
      exact ⟨by first | rfl | simp, bthen hb0 (by assumption)⟩
  · have ga : decide (1 ≤ a) = true := decide_eq_true h
    have gb : decide (a ≤ 6) = true := decide_eq_true k
    have be : boundE a = 8 * a - 4 := by unfold boundE; rw [if_neg (by omega)]
    have w2 : IntKind.i64.wrap (8 * a) = 8 * a := IntWalk.i64_in _ (by omega)
    have w3 : IntKind.i64.wrap (8 * a - 4) = 8 * a - 4 := IntWalk.i64_in _ (by omega)
    rw [be] at C7
    clear be h k
    go_upto_region 4 with fail
    go_region_held3 (fun y : World => Below w0.heap.size w0 y ∧ y.cell? ⟨w.heap.size, 0, none⟩ = some (.slice AV nv cV) ∧ y.cell? ⟨w.heap.size, 1, none⟩ = some (.slice AH nh cH) ∧ y.cell? ⟨w.heap.size, 2, none⟩ = some (.slice AN nn cN) ∧ y.cell? ⟨w.heap.size, 3, none⟩ = some (.int .i64 root) ∧ y.cell? ⟨w.heap.size, 4, none⟩ = some (.slice AT nt cT))
      (first | exact HK.out _ (by assumption) | exact HK.out _ (Below.refl _ _) | exact HK.out _ (Below.refl _ _).drew)
      (first
        | (go_at_call 27; refine (C1.out _ (by first | assumption | exact (Below.refl _ _).drew)).mono ?_; rintro e wq ⟨rfl, hbq⟩)
        | (go_at_call 30; refine (C2.out _ (by first | assumption | exact (Below.refl _ _).drew)).mono ?_; rintro e wq ⟨gv, gh, gt, AN', cN', rfl, hrd, hbq⟩)
        | (go_at_call 35; refine (C3.out _ _ _ _ _ _ (by first | assumption | exact (Below.refl _ _).drew) (by assumption)).mono ?_; rintro e wq ⟨gv, gh, gt, AN', cN', rfl, hrd, hbq⟩)
        | (go_at_call 34; refine (C4.out _ _ _ _ _ _ (by first | assumption | exact (Below.refl _ _).drew)).mono ?_; rintro e wq ⟨rfl, hbq⟩)
        | (go_at_call 36; refine (C7.out _ (by first | assumption | exact (Below.refl _ _).drew)).mono ?_; rintro e wq ⟨rfl, hbq⟩)
        | (go_at_call 37; refine (C5.out _ _ _ _ _ _ (by first | assumption | exact (Below.refl _ _).drew) (by assumption)).mono ?_; rintro e wq ⟨rfl, hbq⟩)
        | (go_at_call 38; refine (C6.out _ _ _ _ _ _ (by first | assumption | exact (Below.refl _ _).drew) (by assumption)).mono ?_; rintro e wq ⟨rfl, hbq⟩))
    all_goals
      go_wp2_with fail
      go_ret
      exact ⟨by first | rfl | simp, bthen hb0 (by assumption)⟩
  · have ga : decide (1 ≤ a) = true := decide_eq_true (by omega)
    have gb : decide (a ≤ 6) = false := decide_eq_false (by omega)
    have be : boundE a = 0 := by unfold boundE; rw [if_pos (.inr h)]
    rw [be] at C7
    clear be h
    go_upto_region 4 with fail
    go_region_held3 (fun y : World => Below w0.heap.size w0 y ∧ y.cell? ⟨w.heap.size, 0, none⟩ = some (.slice AV nv cV) ∧ y.cell? ⟨w.heap.size, 1, none⟩ = some (.slice AH nh cH) ∧ y.cell? ⟨w.heap.size, 2, none⟩ = some (.slice AN nn cN) ∧ y.cell? ⟨w.heap.size, 3, none⟩ = some (.int .i64 root) ∧ y.cell? ⟨w.heap.size, 4, none⟩ = some (.slice AT nt cT))
      (first | exact HK.out _ (by assumption) | exact HK.out _ (Below.refl _ _) | exact HK.out _ (Below.refl _ _).drew)
      (first
        | (go_at_call 27; refine (C1.out _ (by first | assumption | exact (Below.refl _ _).drew)).mono ?_; rintro e wq ⟨rfl, hbq⟩)
        | (go_at_call 30; refine (C2.out _ (by first | assumption | exact (Below.refl _ _).drew)).mono ?_; rintro e wq ⟨gv, gh, gt, AN', cN', rfl, hrd, hbq⟩)
        | (go_at_call 35; refine (C3.out _ _ _ _ _ _ (by first | assumption | exact (Below.refl _ _).drew) (by assumption)).mono ?_; rintro e wq ⟨gv, gh, gt, AN', cN', rfl, hrd, hbq⟩)
        | (go_at_call 34; refine (C4.out _ _ _ _ _ _ (by first | assumption | exact (Below.refl _ _).drew)).mono ?_; rintro e wq ⟨rfl, hbq⟩)
        | (go_at_call 36; refine (C7.out _ (by first | assumption | exact (Below.refl _ _).drew)).mono ?_; rintro e wq ⟨rfl, hbq⟩)
        | (go_at_call 37; refine (C5.out _ _ _ _ _ _ (by first | assumption | exact (Below.refl _ _).drew) (by assumption)).mono ?_; rintro e wq ⟨rfl, hbq⟩)
        | (go_at_call 38; refine (C6.out _ _ _ _ _ _ (by first | assumption | exact (Below.refl _ _).drew) (by assumption)).mono ?_; rintro e wq ⟨rfl, hbq⟩))
    all_goals
      go_wp2_with fail
      go_ret
      exact ⟨by first | rfl | simp, bthen hb0 (by assumption)⟩
end Go.Proofs.YtbgbjodehbcgiaaDoor
