/- The contracts of hyper.Components and of the reference's Components. -/
import Derived.Test.YtaongngoacbodaaDoorCompLaw
import Derived.Deep.RegionWith
import Derived.Deep.DrawnRows
namespace Go.Proofs.YtaongngoacbodaaDoor
open Go.RowKit

attribute [local go_sem ↓] uz_and uz_or uz_andNot uz_and_one uz_shr uz_shl_one uz_shl uz_sub uz_sub_one uz_add uz_beq_zero uz_bne_zero uz_beq uz_bne uz_beq_one

set_option maxRecDepth 100000 in
set_option maxHeartbeats 4000000 in
theorem components_any (V : Int) (A : Option Addr) (E : List (BitVec 32)) (c : Nat) (w : World) (hl : E.length ≤ 35184372087808) (hE : Rd w w.heap.size A (us E)) :
    Calls Tryd.prog 22 #[.agg #[.int .i64 V, .slice A E.length c]] w fun e w' =>
      ∃ (v : Value) (Z : List Nat) (code : Int), e = .returned (.tuple #[v, .int .i64 code]) ∧ w'.ownsRow w.heap.size 3 1 v Z.length (is (Z.map Int.ofNat)) ∧ Hid (CompIs V E Z code) ∧ Below w.heap.size w w' := by
  have hmk := mk_int E.length hl
  go_enter Tryd.func22, Tryd.ntmps22
  go_wp2_with fail
  have hb0 := below_alloc w (.cells #[.int .i64 V, .slice A E.length c] 24)
  refine (valid_any V A E c _ hl (hE.later hb0)).mono ?_
  rintro e w1 ⟨rfl, hb⟩
  obtain ⟨hc, hf⟩ := bcell hb
  have hb1 := bthen hb0 hb
  have hg1 : w1.cell? ⟨w.heap.size, 1, none⟩ = some (.slice A E.length c) := by rw [hc _ _ (by simp)]; simp [World.cell?_alloc_new]
  clear hc hf hb0 hb
  cases hv : validB V E
  · go_wp2
    go_ret2
    exact ⟨_, [], _, rfl, World.ownsRow_nil _ _ _ _, .inl ⟨hv, rfl, rfl⟩, hb1⟩
  · have hE1 := hE.later hb1
    have h7 : E.length ≤ 7 := (validB_of hv).2.2.1
    have HV := Lib.hid hv
    clear hv
    go_upto_region 4 with fail
    have hR0 : Row (w1.alloc (.cells (zeros (.int .i64 0) E.length).toArray 3)) w1.heap.size 3 (zeros (.int .i64 0) E.length) := Row.new _ _ _
    have hbx := below_alloc w1 (.cells (zeros (.int .i64 0) E.length).toArray 3)
    generalize w1.alloc (.cells (zeros (.int .i64 0) E.length).toArray 3) = w2 at hR0 hbx ⊢
    rw [rowOf_zeros] at hR0
    clear hmk
    go_wp2_with fail
    go_loopg [22] E.length (fun gk i wr => ∃ k : Nat, k ≤ E.length ∧ gk = E.length - k ∧ i = .int .i64 k ∧ Row wr w1.heap.size 3 (is (rowOf E.length fun j => if j < k then -1 else 0)) ∧ Below w1.heap.size w1 wr)
    case atStart => exact ⟨0, Nat.zero_le _, rfl, rfl, by rw [rowOf_congr (g := fun _ => (0 : Int)) fun i _ => if_neg (Nat.not_lt_zero i)]; exact hR0, hbx⟩
    case round =>
      obtain ⟨k, hk, rfl, rfl, hR, hbr⟩ := hrel
      by_cases hlt : k < E.length
      · have c0 := (hR.cell k).trans (rowOf_at _ _ k hlt)
        have f0 := hR.frozen k
        have b1 : (0 : Int) ≤ k := by omega
        have b2 : (k : Int) < E.length := by omega
        go_wp2_with fail
        go_roundg (E.length - (k + 1))
        case measure => omega
        case rel =>
          refine ⟨k + 1, by omega, rfl, by go_num, ?_, hbr.setCell (Nat.le_refl _) _⟩
          have := hR.set_ k (.int .i64 (-1))
          rw [rowOf_set] at this
          rw [show (fun j : Nat => if j < k + 1 then (-1 : Int) else 0) = fun j => if j = k then -1 else if j < k then -1 else 0 by funext j; split <;> (try split) <;> (try split) <;> omega]
          exact this
      · have hk' : k = E.length := by omega
        subst hk'
        rw [rowOf_congr (g := fun _ => (-1 : Int)) fun i hi => if_pos hi] at hR
        have hg1r := Tab_cell hbr hg1
        clear hR0 hbx hlt hk
        go_wp2_with fail
        go_loopg [6, 32] E.length (fun gk cv i wi => ∃ (k c : Nat) (f : Nat → Int), k ≤ E.length ∧ c ≤ k ∧ gk = E.length - k ∧ i = .int .i64 k ∧ cv = .int .i64 c ∧ Row wi w1.heap.size 3 (is (rowOf E.length f)) ∧ Hid (CI E k c f) ∧ Below w1.heap.size w1 wi)
        case atStart => exact ⟨0, 0, _, Nat.zero_le _, Nat.le_refl _, rfl, rfl, rfl, hR, CI.start E, hbr⟩
        case round =>
          clear hR hbr hg1r
          obtain ⟨k, q, f, hk, hq, rfl, rfl, rfl, hR, hC, hbr⟩ := hrel
          have hg1r := Tab_cell hbr hg1
          by_cases hlt : k < E.length
          · obtain ⟨ad, hA, _, hce⟩ := (hE1.later hbr).e_at hlt
            subst hA
            have c0 := (hR.cell k).trans (rowOf_at _ _ k hlt)
            have b1 : (0 : Int) ≤ k := by omega
            have b2 : (k : Int) < E.length := by omega
            by_cases hf : 0 ≤ f k
            · have HC := Lib.hid (hC.out.skip hf)
              go_wp2_with fail
              go_roundg (E.length - (k + 1))
              case measure => omega
              case rel => exact ⟨k + 1, q, f, by omega, by omega, rfl, by go_num, rfl, hR, HC.out, hbr⟩
            · go_wp2_with fail
              go_loopg [9, 10] (1 + negs f E.length) (fun gg sv gv wi => ∃ (g : Nat → Int) (s : BitVec 32) (b : Bool), sv = .int .u32 (uz s) ∧ gv = .bool b ∧ gg = (if b then 1 + negs g E.length else 0) ∧ Row wi w1.heap.size 3 (is (rowOf E.length g)) ∧ Hid (GI E k q f g s) ∧ Hid (b = false → ∀ j, j < E.length → comeB E k g s j = false) ∧ Below w1.heap.size w1 wi)
              case atStart => exact ⟨f, ed E k, true, rfl, rfl, rfl, hR, GI.start hC.out, (fun e => by cases e), hbr⟩
              case round =>
                clear hR hbr hg1r
                obtain ⟨g, s, b, rfl, rfl, rfl, hR, hG, hno, hbr⟩ := hrel
                have hg1r := Tab_cell hbr hg1
                cases b
                · obtain ⟨d1, d2⟩ := hG.out.done hC.out hlt (by omega) (hno.out rfl)
                  have HC := Lib.hid (hC.out.next hlt (by omega) d1 d2)
                  clear d1 d2
                  go_wp2_with fail
                  go_roundg (E.length - (k + 1))
                  case measure => omega
                  case rel => exact ⟨k + 1, q + 1, g, by omega, by omega, rfl, by go_num, by go_num, hR, HC.out, hbr⟩
                · clear hno
                  go_wp2_with fail
                  obtain ⟨wp, hwp⟩ : ∃ wp : World, wp = wr := ⟨_, rfl⟩
                  subst hwp
                  go_loopg [9, 10, 47] E.length (fun gj sv gv jv wi => ∃ (m : Nat) (g' : Nat → Int) (s' : BitVec 32) (b' : Bool), m ≤ E.length ∧ gj = E.length - m ∧ jv = .int .i64 m ∧ sv = .int .u32 (uz s') ∧ gv = .bool b' ∧ Row wi w1.heap.size 3 (is (rowOf E.length g')) ∧ Hid (GI E k q f g' s') ∧
                    Hid ((b' = true → negs g' E.length < negs g E.length) ∧ (b' = false → g' = g ∧ s' = s ∧ ∀ j, j < m → comeB E k g s j = false)) ∧ Below w1.heap.size w1 wi)
                  case atStart => exact ⟨0, g, s, false, Nat.zero_le _, rfl, rfl, rfl, rfl, hR, hG.out, ⟨(fun e => by cases e), fun _ => ⟨rfl, rfl, fun j hj => by omega⟩⟩, hbr⟩
                  case round =>
                    clear hR hbr
                    obtain ⟨m, g', s', b', hm, rfl, rfl, rfl, rfl, hR, hG', hP, hbr⟩ := hrel
                    obtain ⟨wo, hwo⟩ : ∃ wo : World, wo = wr := ⟨_, rfl⟩
                    subst hwo
                    by_cases hlt2 : m < E.length
                    · obtain ⟨ad2, hA2, _, hce2⟩ := (hE1.later hbr).e_at hlt2
                      obtain rfl : ad = ad2 := by injection hA2
                      have c0 := (hR.cell m).trans (rowOf_at _ _ m hlt2)
                      have f0 := hR.frozen m
                      have a1 : (0 : Int) ≤ m := by omega
                      have a2 : (m : Int) < E.length := by omega
                      obtain ⟨x, hx⟩ : ∃ x, x = ed E m := ⟨_, rfl⟩
                      rw [← hx] at hce2
                      have hcb : comeB E k g' s' m = (decide (g' m < 0) && (((m : Int) == (k : Int)) || (x &&& s' != 0#32))) := by rw [hx]; rfl
                      have HCB := Lib.hid hcb
                      have HX := Lib.hid hx
                      clear hcb hx hA2
                      go_upto_region 20 with fail
                      go_cut [47, 67] from 47 to 75 (fun jv y wx => jv = .int .i64 m ∧ y = .bool (comeB E k g' s' m) ∧ wo = wx)
                      case first =>
                        by_cases h1 : g' m < 0
                        · cases h2 : ((m : Int) == (k : Int))
                          · cases h3 : (x &&& s' != 0#32)
                            all_goals
                              go_wp2_with fail
                              go_meet
                              exact ⟨rfl, congrArg Value.bool (by rw [HCB.out, h2, h3]; simp [h1]), rfl⟩
                          · go_wp2_with fail
                            go_meet
                            exact ⟨rfl, congrArg Value.bool (by rw [HCB.out, h2]; simp [h1]), rfl⟩
                        · have hd : decide (g' m < 0) = false := by simpa using h1
                          have HD := Lib.hid hd
                          clear hd
                          go_wp2_with fail
                          go_meet
                          exact ⟨rfl, congrArg Value.bool (by rw [HCB.out, HD.out]; rfl), rfl⟩
                      case rest =>
                        obtain ⟨rfl, rfl, rfl⟩ := hcut
                        cases hcm : comeB E k g' s' m
                        · have HN := Lib.hid hcm
                          clear hcm
                          go_wp2_with fail
                          go_roundg (E.length - (m + 1))
                          case measure => omega
                          case rel =>
                            refine ⟨m + 1, g', s', b', by omega, rfl, by go_num, rfl, rfl, hR, hG'.out, ⟨hP.out.1, fun e => ?_⟩, hbr⟩
                            obtain ⟨e1, e2, e3⟩ := hP.out.2 e
                            refine ⟨e1, e2, fun j hj => ?_⟩
                            rcases Nat.lt_or_ge j m with d | d
                            · exact e3 j d
                            · obtain rfl : j = m := by omega
                              rw [← e1, ← e2]; exact HN.out
                        · have HG2 := Lib.hid (hG'.out.come hC.out hlt hlt2 hcm)
                          have hneg : g' m < 0 := by
                            unfold comeB at hcm
                            rw [Bool.and_eq_true, decide_eq_true_eq] at hcm
                            exact hcm.1
                          have hdec := negs_set (c := (q : Int)) (by omega) hneg hlt2
                          have hle : negs g' E.length ≤ negs g E.length := by
                            cases b'
                            · rw [(hP.out.2 rfl).1]; exact Nat.le_refl _
                            · exact Nat.le_of_lt (hP.out.1 rfl)
                          have HD : Hid (negs (fun i => if i = m then (q : Int) else g' i) E.length < negs g E.length) := Nat.lt_of_lt_of_le hdec hle
                          clear hcm hdec hle
                          go_wp2_with fail
                          go_roundg (E.length - (m + 1))
                          case measure => omega
                          case rel =>
                            refine ⟨m + 1, _, s' ||| x, true, by omega, rfl, by go_num, rfl, rfl, ?_, ?_, ⟨fun _ => HD.out, fun e => by cases e⟩, hbr.setCell (Nat.le_refl _) _⟩
                            · have := hR.set_ m (.int .i64 (q : Int))
                              rw [rowOf_set] at this
                              exact this
                            · rw [HX.out]; exact HG2.out
                    · have hm' : m = E.length := by omega
                      subst hm'
                      cases b'
                      · obtain ⟨e1, e2, e3⟩ := hP.out.2 rfl
                        subst e1 e2
                        have HN := Lib.hid e3
                        clear e3 hP
                        go_wp2_with fail
                        go_roundg 0
                        case measure => first | omega | (simp; omega)
                        case rel => exact ⟨g', s', false, rfl, rfl, rfl, hR, hG'.out, (fun _ => HN.out), hbr⟩
                      · have HD := Lib.hid (hP.out.1 rfl)
                        clear hP
                        go_wp2_with fail
                        go_roundg (1 + negs g' E.length)
                        case measure => have := HD.out; first | omega | (simp; omega)
                        case rel => exact ⟨g', s', true, rfl, rfl, rfl, hR, hG'.out, (fun e => by cases e), hbr⟩
          · have hk' : k = E.length := by omega
            subst hk'
            obtain ⟨Z, e1, e2, e3⟩ := hC.out.end_
            have HE := Lib.hid e3
            clear e3
            go_wp2_with fail
            go_ret2
            refine ⟨.slice (some ⟨w1.heap.size, 0, none⟩) E.length E.length, Z, 0, rfl, ?_, .inr ⟨HV.out, e2, HE.out, rfl⟩, bthen hb1 hbr⟩
            have := hR.own (base := w.heap.size) hb1.size (by simp [maxLen]; omega)
            rw [e1, is_length, List.length_map, e2] at this
            rw [e2]; exact this

set_option maxRecDepth 100000 in
set_option maxHeartbeats 4000000 in
theorem r14components_any (V : Int) (A : Option Addr) (E : List (BitVec 32)) (c : Nat) (w : World) (hl : E.length ≤ 35184372087808) (hE : Rd w w.heap.size A (us E)) :
    Calls Tryd.prog 23 #[.agg #[.int .i64 V, .slice A E.length c]] w fun e w' =>
      ∃ (v : Value) (Z : List Nat) (code : Int), e = .returned (.tuple #[v, .int .i64 code]) ∧ w'.ownsRow w.heap.size 3 1 v Z.length (is (Z.map Int.ofNat)) ∧ Hid (CompIs V E Z code) ∧ Below w.heap.size w w' := by
  have hmk := mk_int E.length hl
  go_enter Tryd.func23, Tryd.ntmps23
  go_wp2_with fail
  have hb0 := below_alloc w (.cells #[.int .i64 V, .slice A E.length c] 24)
  refine (r14valid_any V A E c _ hl (hE.later hb0)).mono ?_
  rintro e w1 ⟨rfl, hb⟩
  obtain ⟨hc, hf⟩ := bcell hb
  have hb1 := bthen hb0 hb
  have hg1 : w1.cell? ⟨w.heap.size, 1, none⟩ = some (.slice A E.length c) := by rw [hc _ _ (by simp)]; simp [World.cell?_alloc_new]
  clear hc hf hb0 hb
  cases hv : validB V E
  · go_wp2
    go_ret2
    exact ⟨_, [], _, rfl, World.ownsRow_nil _ _ _ _, .inl ⟨hv, rfl, rfl⟩, hb1⟩
  · have hE1 := hE.later hb1
    have h7 : E.length ≤ 7 := (validB_of hv).2.2.1
    have HV := Lib.hid hv
    have HMK := Lib.hid (mk_int E.length hl)
    clear hv
    go_upto_region 4 with fail
    have hR0 : Row (w1.alloc (.cells (zeros (.int .i64 0) E.length).toArray 3)) w1.heap.size 3 (zeros (.int .i64 0) E.length) := Row.new _ _ _
    have hbx := below_alloc w1 (.cells (zeros (.int .i64 0) E.length).toArray 3)
    generalize w1.alloc (.cells (zeros (.int .i64 0) E.length).toArray 3) = w2 at hR0 hbx ⊢
    rw [rowOf_zeros] at hR0
    clear hmk
    go_wp2_with fail
    go_loopg [20] E.length (fun gk i wr => ∃ k : Nat, k ≤ E.length ∧ gk = E.length - k ∧ i = .int .i64 k ∧ Row wr w1.heap.size 3 (is (rowOf E.length fun j => if j < k then (j : Int) else 0)) ∧ Below w1.heap.size w1 wr)
    case atStart => exact ⟨0, Nat.zero_le _, rfl, rfl, by rw [rowOf_congr (g := fun _ => (0 : Int)) fun i _ => if_neg (Nat.not_lt_zero i)]; exact hR0, hbx⟩
    case round =>
      obtain ⟨k, hk, rfl, rfl, hR, hbr⟩ := hrel
      by_cases hlt : k < E.length
      · have c0 := (hR.cell k).trans (rowOf_at _ _ k hlt)
        have f0 := hR.frozen k
        have b1 : (0 : Int) ≤ k := by omega
        have b2 : (k : Int) < E.length := by omega
        go_wp2_with fail
        go_roundg (E.length - (k + 1))
        case measure => omega
        case rel =>
          refine ⟨k + 1, by omega, rfl, by go_num, ?_, hbr.setCell (Nat.le_refl _) _⟩
          have := hR.set_ k (.int .i64 (k : Int))
          rw [rowOf_set] at this
          rw [show (fun j : Nat => if j < k + 1 then (j : Int) else 0) = fun j => if j = k then (k : Int) else if j < k then (j : Int) else 0 by funext j; split <;> (try split) <;> (try split) <;> omega]
          exact this
      · have hk' : k = E.length := by omega
        subst hk'
        rw [rowOf_congr (g := fun j => (j : Int)) fun i hi => if_pos hi] at hR
        have hg1r := Tab_cell hbr hg1
        clear hR0 hbx hlt hk
        go_wp2_with fail
        go_loopg [31] E.length (fun gk i wi => ∃ (r : Nat) (l : Nat → Nat), r ≤ E.length ∧ gk = E.length - r ∧ i = .int .i64 r ∧ Row wi w1.heap.size 3 (is (rowOf E.length fun j => (l j : Int))) ∧ Hid (LI E r l) ∧ Below w1.heap.size w1 wi)
        case atStart => exact ⟨0, fun j => j, Nat.zero_le _, rfl, rfl, hR, LI.start E, hbr⟩
        case round =>
          clear hR hbr hg1r
          obtain ⟨r, l, hr, rfl, rfl, hR, hL, hbr⟩ := hrel
          have hg1r := Tab_cell hbr hg1
          by_cases hlt : r < E.length
          · go_wp2_with fail
            go_loopg [6] E.length (fun gk i wi => ∃ (i' : Nat) (l : Nat → Nat), i' ≤ E.length ∧ gk = E.length - i' ∧ i = .int .i64 i' ∧ Row wi w1.heap.size 3 (is (rowOf E.length fun j => (l j : Int))) ∧ Hid (LM E r l i' 0) ∧ Below w1.heap.size w1 wi)
            case atStart => exact ⟨0, l, Nat.zero_le _, rfl, rfl, hR, hL.out.mid, hbr⟩
            case round =>
              clear hR hbr hg1r hL
              obtain ⟨i, l, hi, rfl, rfl, hR, hL, hbr⟩ := hrel
              have hg1r := Tab_cell hbr hg1
              by_cases hlti : i < E.length
              · go_wp2_with fail
                go_loopg [7] E.length (fun gk jv wi => ∃ (j : Nat) (l : Nat → Nat), j ≤ E.length ∧ gk = E.length - j ∧ jv = .int .i64 j ∧ Row wi w1.heap.size 3 (is (rowOf E.length fun j => (l j : Int))) ∧ Hid (LM E r l i j) ∧ Below w1.heap.size w1 wi)
                case atStart => exact ⟨0, l, Nat.zero_le _, rfl, rfl, hR, hL.out, hbr⟩
                case round =>
                  clear hR hbr hg1r hL
                  obtain ⟨j, l, hj, rfl, rfl, hR, hL, hbr⟩ := hrel
                  have hg1r := Tab_cell hbr hg1
                  by_cases hltj : j < E.length
                  · have hEr := hE1.later hbr
                    obtain ⟨ad, hA, _, hc1⟩ := hEr.e_at hlti
                    obtain ⟨ad2, hA2, _, hc2⟩ := hEr.e_at hltj
                    obtain rfl : ad = ad2 := by rw [hA] at hA2; injection hA2
                    subst hA
                    have d1 := (hR.cell i).trans (rowOf_at _ _ i hlti)
                    have d2 := (hR.cell j).trans (rowOf_at _ _ j hltj)
                    have f1 := hR.frozen i
                    have b1 : (0 : Int) ≤ i := by omega
                    have b2 : (i : Int) < E.length := by omega
                    have b3 : (0 : Int) ≤ j := by omega
                    have b4 : (j : Int) < E.length := by omega
                    obtain ⟨x, hx⟩ : ∃ x, x = ed E i := ⟨_, rfl⟩
                    obtain ⟨y, hy⟩ : ∃ y, y = ed E j := ⟨_, rfl⟩
                    rw [← hx] at hc1
                    rw [← hy] at hc2
                    have HX := Lib.hid hx
                    have HY := Lib.hid hy
                    clear hx hy hA2
                    cases h1 : meetB x y
                    · have hm : ∀ w, Calls Tryd.prog 24 #[.int .u32 (uz x), .int .u32 (uz y)] w fun e w' => e = .returned (.bool false) ∧ w = w' := fun w => by rw [← h1]; exact meet_any x y w
                      have HM := Lib.hid hm
                      clear hm
                      have HL := Lib.hid (hL.out.skip (.inl (by rw [← HX.out, ← HY.out]; exact h1)))
                      go_wp2_with fail
                      go_quiet (exact pure_quiet HM.out)
                      go_wp2_with fail
                      go_roundg (E.length - (j + 1))
                      case measure => omega
                      case rel => exact ⟨j + 1, l, by omega, rfl, by go_num, hR.drewN _, HL.out, below_drewN hbr _⟩
                    · have hm : ∀ w, Calls Tryd.prog 24 #[.int .u32 (uz x), .int .u32 (uz y)] w fun e w' => e = .returned (.bool true) ∧ w = w' := fun w => by rw [← h1]; exact meet_any x y w
                      have HM := Lib.hid hm
                      clear hm
                      by_cases h2 : l j < l i
                      · have HL := Lib.hid (hL.out.upd hlti hltj (by rw [← HX.out, ← HY.out]; exact h1) h2)
                        go_wp2_with fail
                        go_quiet (exact pure_quiet HM.out)
                        go_wp2_with fail
                        go_roundg (E.length - (j + 1))
                        case measure => omega
                        case rel =>
                          refine ⟨j + 1, _, by omega, rfl, by go_num, ?_, HL.out, (below_drewN hbr _).setCell (Nat.le_refl _) _⟩
                          have := (hR.drewN nq).set_ i (.int .i64 (l j : Int))
                          rw [rowOf_set] at this
                          rw [show (fun k : Nat => (((if k = i then l j else l k : Nat)) : Int)) = fun k => if k = i then (l j : Int) else (l k : Int) by funext k; split <;> rfl]
                          exact this
                      · have HL := Lib.hid (hL.out.skip (.inr h2))
                        go_wp2_with fail
                        go_quiet (exact pure_quiet HM.out)
                        go_wp2_with fail
                        go_roundg (E.length - (j + 1))
                        case measure => omega
                        case rel => exact ⟨j + 1, l, by omega, rfl, by go_num, hR.drewN _, HL.out, below_drewN hbr _⟩
                  · have hj' : j = E.length := by omega
                    subst hj'
                    have HL := Lib.hid hL.out.next
                    go_wp2_with fail
                    go_roundg (E.length - (i + 1))
                    case measure => omega
                    case rel => exact ⟨i + 1, l, by omega, rfl, by go_num, hR, HL.out, hbr⟩
              · have hi' : i = E.length := by omega
                subst hi'
                have HL := Lib.hid hL.out.end_
                go_wp2_with fail
                go_roundg (E.length - (r + 1))
                case measure => omega
                case rel => exact ⟨r + 1, l, by omega, rfl, by go_num, hR, HL.out, hbr⟩
          · have hr' : r = E.length := by omega
            subst hr'
            have hmk := HMK.out
            go_upto_region 21 with fail
            have hO : Row (wr.alloc (.cells (zeros (.int .i64 0) E.length).toArray 3)) wr.heap.size 3 (zeros (.int .i64 0) E.length) := Row.new _ _ _
            have hby := below_alloc wr (.cells (zeros (.int .i64 0) E.length).toArray 3)
            have hltg := hR.lt
            have hR2 := hR.later hby
            obtain ⟨wz, hwz⟩ : ∃ wz : World, wz = wr := ⟨_, rfl⟩
            rw [← hwz] at hO hby hltg hbr ⊢
            generalize hw4 : wz.alloc (.cells (zeros (.int .i64 0) E.length).toArray 3) = w4 at hO hby ⊢
            rw [← hwz, hw4] at hR2
            rw [rowOf_zeros] at hO
            clear hmk hR hw4 hwz hg1r
            go_wp2_with fail
            go_loopg [9, 83] E.length (fun gk nv i wi => ∃ (k c : Nat) (o : Nat → Nat), k ≤ E.length ∧ c ≤ k ∧ gk = E.length - k ∧ i = .int .i64 k ∧ nv = .int .i64 c ∧ Row wi w1.heap.size 3 (is (rowOf E.length fun j => (l j : Int))) ∧ Row wi wz.heap.size 3 (is (rowOf E.length fun j => (o j : Int))) ∧ Hid (NI E k c o) ∧ Below wz.heap.size wz wi)
            case atStart => exact ⟨0, 0, fun _ => 0, Nat.zero_le _, Nat.le_refl _, rfl, rfl, rfl, hR2, hO, NI.start E _, hby⟩
            case round =>
              clear hR2 hO hby
              obtain ⟨k, q, o, hk, hq, rfl, rfl, rfl, hR, hO, hN, hby⟩ := hrel
              by_cases hltk : k < E.length
              · have d1 := (hR.cell k).trans (rowOf_at _ _ k hltk)
                have o1 := (hO.cell k).trans (rowOf_at _ _ k hltk)
                have f1 := hO.frozen k
                have b1 : (0 : Int) ≤ k := by omega
                have b2 : (k : Int) < E.length := by omega
                have hle := hL.out.le k hltk
                by_cases he : l k = k
                · have HN := Lib.hid (hN.out.new hL.out hltk he)
                  rw [he] at d1
                  clear he hle
                  go_wp2_with fail
                  go_roundg (E.length - (k + 1))
                  case measure => omega
                  case rel =>
                    refine ⟨k + 1, q + 1, _, by omega, by omega, rfl, by go_num, by go_num, hR.far (by simp; omega) _, ?_, HN.out, hby.setCell (Nat.le_refl _) _⟩
                    have := hO.set_ k (.int .i64 (q : Int))
                    rw [rowOf_set] at this
                    rw [show (fun j : Nat => (((if j = k then q else o j : Nat)) : Int)) = fun j => if j = k then (q : Int) else (o j : Int) by funext j; split <;> rfl]
                    exact this
                · have hlt2 : l k < k := by omega
                  have HN := Lib.hid (hN.out.old hL.out hltk hlt2)
                  have o2 := (hO.cell (l k)).trans (rowOf_at _ _ (l k) (by omega))
                  have hne : ((l k : Int) == (k : Int)) = false := by rw [beq_eq_false_iff_ne]; omega
                  have b3 : (0 : Int) ≤ (l k : Int) := by omega
                  have b4 : (l k : Int) < E.length := by omega
                  clear he hle
                  go_wp2_with fail
                  go_roundg (E.length - (k + 1))
                  case measure => omega
                  case rel =>
                    refine ⟨k + 1, q, _, by omega, by omega, rfl, by go_num, rfl, hR.far (by simp; omega) _, ?_, HN.out, hby.setCell (Nat.le_refl _) _⟩
                    have := hO.set_ k (.int .i64 (o (l k) : Int))
                    rw [rowOf_set] at this
                    rw [show (fun j : Nat => (((if j = k then o (l k) else o j : Nat)) : Int)) = fun j => if j = k then (o (l k) : Int) else (o j : Int) by funext j; split <;> rfl]
                    exact this
              · have hk' : k = E.length := by omega
                subst hk'
                obtain ⟨Z, e1, e2, e3⟩ := hN.out.end_
                have HE := Lib.hid e3
                clear e3
                have hbz := bthen hb1 (hbr.trans (hby.mono hbr.size))
                go_wp2_with fail
                go_ret2
                refine ⟨.slice (some ⟨wz.heap.size, 0, none⟩) E.length E.length, Z, 0, rfl, ?_, .inr ⟨HV.out, e2, HE.out, rfl⟩, hbz⟩
                have := hO.own (base := w.heap.size) (Nat.le_trans hb1.size hbr.size) (by simp [maxLen]; omega)
                rw [e1, is_length, List.length_map, e2] at this
                rw [e2]; exact this
end Go.Proofs.YtaongngoacbodaaDoor
