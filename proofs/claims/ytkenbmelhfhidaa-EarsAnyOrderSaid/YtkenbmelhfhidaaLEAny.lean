/- The walk of osierlaw15.EarsAnyOrder. -/
import Derived.Test.YtkenbmelhfhidaaAnyLaw
import Derived.Test.YtkenbmelhfhidaaReplay2
import Derived.Test.YtkenbmelhfhidaaSameL
namespace Go.Proofs.Ytkenbmelhfhidaa
open Go.RowKit
attribute [local go_sem ↓] uz_and uz_or uz_andNot uz_and_one uz_shr uz_shl_one uz_shl uz_sub uz_sub_one uz_add uz_beq_zero uz_bne_zero uz_beq uz_bne uz_beq_one

theorem uint_mod15 (x : Int) (n : Nat) (h0 : 0 < n) (h : n ≤ 200) : ∃ k : Nat, k < n ∧ (IntKind.u64.wrap x).tmod (n : Int) = k := by
  rw [IntKind.wrap_u64]
  have h1 : 0 ≤ x % 18446744073709551616 := by omega
  rw [Int.tmod_eq_emod_of_nonneg h1]
  have h2 := Int.emod_nonneg (x % 18446744073709551616) (show (n : Int) ≠ 0 by omega)
  have h3 := Int.emod_lt_of_pos (x % 18446744073709551616) (show (0 : Int) < n by omega)
  exact ⟨(x % 18446744073709551616 % n).toNat, by omega, by omega⟩
theorem u64_small15 (n : Nat) (h : n ≤ 200) : IntKind.u64.wrap (n : Int) = n := by
  rw [IntKind.wrap_u64]; omega

set_option maxHeartbeats 40000000 in
set_option maxRecDepth 100000 in
theorem law_eany (V : Int) (A : Option Addr) (E : List (BitVec 32)) (c : Nat) (keep : BitVec 32) (A' : Option Addr) (Z : List Int) (c' : Nat) (w : World) (hl : E.length ≤ 35184372087808) (hE : Rd w w.heap.size A (us E)) (hl' : Z.length ≤ 35184372087808) (hZ : Rd w w.heap.size A' (is Z)) :
    Calls Try.prog 18 #[.agg #[.int .i64 V, .slice A E.length c], .int .u32 (uz keep), .slice A' Z.length c'] w fun e w' => e = .returned (.bool true) ∧ Below w.heap.size w w' := by
  go_enter Try.func18, Try.ntmps18
  go_wp2_with fail
  have hb0 := below_alloc w (.cells #[.int .i64 V, .slice A E.length c] 24)
  have hG0 : Row (w.alloc (.cells #[.int .i64 V, .slice A E.length c] 24)) w.heap.size 24 [.int .i64 V, .slice A E.length c] := Row.new _ _ _
  generalize w.alloc _ = w0 at hb0 hG0 ⊢
  refine (copy_any V A E c _ hl (hE.later hb0)).mono ?_
  rintro e w1 ⟨g, rfl, hg, hRg, hb1⟩
  have hB1 := bthen hb0 hb1
  have hG1 := hG0.later hb1
  go_wp2_with fail
  refine (rest_any V (some ⟨g, 0, none⟩) E E.length keep w1 hl hRg.rd).mono ?_
  rintro e w2 ⟨vr, R, code, rfl, hownr, HRI, hb2⟩
  have hR7 := restIs_len HRI.out
  obtain ⟨AR, cR, rfl, _, _, _, _⟩ := Rd.of_own hownr
  have hB2 := bthen hB1 hb2
  have hG2 := hG1.later hb2
  have hownr := own_less hownr hB1.size
  have hE2 := hE.later hB2
  have d0 : w2.cell? ⟨w.heap.size, 0, none⟩ = some (.int .i64 V) := hG2.cell 0
  have d1 : w2.cell? ⟨w.heap.size, 1, none⟩ = some (.slice A E.length c) := hG2.cell 1
  clear hb0 hb1 hb2 hG0 hG1 hB1 hRg hg
  go_wp2_with fail
  refine (r14valid_any V A E c w2 hl hE2).mono ?_
  rintro e w3 ⟨rfl, hb3⟩
  have hB3 := bthen hB2 hb3
  have hG3 := hG2.later hb3
  have hE3 := hE2.later hb3
  have hownr := own_below hownr hb3
  clear d0 d1 hB2 hG2 hE2 hb3
  have d0 : w3.cell? ⟨w.heap.size, 0, none⟩ = some (.int .i64 V) := hG3.cell 0
  have d1 : w3.cell? ⟨w.heap.size, 1, none⟩ = some (.slice A E.length c) := hG3.cell 1
  cases hv : validB V E
  · obtain rfl : code = 140 := by
      rcases HRI.out with ⟨_, _, h⟩ | ⟨h, _⟩
      · exact h
      · rw [hv] at h; cases h
    go_wp2_with fail
    refine (awake15_any _).mono ?_
    rintro e w4 ⟨rfl, hb4⟩
    go_wp2_with fail
    go_ret
    exact ⟨rfl, bthen hB3 hb4⟩
  · have h7 := (validB_of hv).2.2.1
    have HV := Lib.hid hv
    clear hv
    go_wp2_with fail
    refine (r15begin_any V A E c w3 h7 hE3).mono ?_
    rintro e w4 ⟨v0, rfl, hown0, hb4⟩
    have hB4 := bthen hB3 hb4
    have hG4 := hG3.later hb4
    have hown0' := own_less hown0 hB3.size
    have hownr := own_below hownr hb4
    have hmu0 := mu_begin E h7
    clear hown0 hb4 d0 d1 hB3 hG3 hE3
    go_wp2_with fail
    go_loopg [9, 10, 11] 400 (fun gk v vs i wr => ∃ (k : Nat) (ss : List Stp) (L : Lt), gk = 400 - k ∧ k < 400 ∧ ss.length = k ∧ i = .int .i64 k ∧ Hid (Rch keep (beginE E) ss L) ∧
      wr.ownsRow w.heap.size 119 2 v L.length (lfs L) ∧ wr.ownsRow w.heap.size 66 4 vs ss.length (sts ss) ∧ wr.ownsRow w.heap.size 39 1 (.slice AR R.length cR) R.length (us R) ∧ Row wr w.heap.size 24 [.int .i64 V, .slice A E.length c] ∧ Below w.heap.size w wr)
    case atStart => exact ⟨0, [], _, rfl, by omega, rfl, rfl, Lib.hid (.nil _), hown0', ⟨rfl, .inl ⟨rfl, rfl⟩⟩, hownr, hG4, hB4⟩
    case round =>
      obtain ⟨k, ss, L, rfl, hk4, hlk, rfl, HR, hown, howns, hO, hG, hb⟩ := hrel
      clear hownr
      obtain ⟨wr, ewr, hb⟩ : ∃ wr : World, wr = _ ∧ Below w.heap.size w wr := ⟨_, rfl, hb⟩
      subst ewr
      have h7L : L.length ≤ 7 := by have := HR.out.len; rw [begin_len] at this; omega
      have hsr := Lib.hid (HR.out.srt (srt_begin E))
      have hmu := rch_mu HR.out (srt_begin E)
      have HMU : Hid (∀ s, IsStp L keep s → k + 1 ≤ 231) := Lib.hid fun s hs => by
        have := rch_mu (HR.out.snoc hs) (srt_begin E)
        rw [List.length_append, List.length_singleton] at this
        omega
      clear hmu hown0' hG4 hB4
      obtain ⟨A1, c1, rfl, _, _, hL, _⟩ := Rd.of_ownS hown
      go_wp2_with fail
      refine (r15steps_any A1 L c1 keep wr h7L hsr.out hL).mono ?_
      rintro e w3 ⟨vst, rfl, hownst, hst200, hb3⟩
      have hB3 := bthen hb hb3
      have hG3 := hG.later hb3
      have hL3 := hL.later hb3
      have hS3 := own_below howns hb3
      have hO3 := own_below hO hb3
      have hown3 := own_below hown hb3
      obtain ⟨A2, c2, rfl, _, _, hS, _⟩ := Rd.of_ownS hownst
      have HIS := Lib.hid (fun s => (mem_steps L keep s).1)
      have HNIL := Lib.hid (fun h => stuck_of (L := L) (keep := keep) h)
      generalize stepsE L keep = all at hst200 hS HIS HNIL
      clear hownst hL hown howns hO hG hb hb3
      by_cases h0 : all.length = 0
      · have hnil : all = [] := List.eq_nil_of_length_eq_zero h0
        have HST := Lib.hid (HNIL.out hnil)
        have e0 : ((all.length : Int) == 0) = true := by rw [beq_iff_eq]; omega
        subst hlk
        obtain ⟨A4, c4, rfl, _, _, hT3, _⟩ := Rd.of_ownS hS3
        have d0 : w3.cell? ⟨w.heap.size, 0, none⟩ = some (.int .i64 V) := hG3.cell 0
        have d1 : w3.cell? ⟨w.heap.size, 1, none⟩ = some (.slice A E.length c) := hG3.cell 1
        have hE3 := hE.later hB3
        clear HIS HNIL hnil h0 hS HMU hG3 hS3 hown3
        go_wp2_with fail
        refine (copy_any V A E c w3 hl hE3).mono ?_
        rintro e w5 ⟨g5, rfl, _, hRg5, hb5⟩
        have hB5 := bthen hB3 hb5
        have hT5 := hT3.later hb5
        have hL5 := hL3.later hb5
        have hO5 := own_below hO3 hb5
        clear d0 d1 hE3 hB3 hT3 hL3 hO3 hb5
        go_wp2_with fail
        refine (replay_any V (some ⟨g5, 0, none⟩) E E.length keep A4 ss c4 w5 hl hRg5.rd (by omega) hT5).mono ?_
        rintro e w6 ⟨v1, M, n, code', rfl, hown1, hRP, hb6⟩
        obtain ⟨e1, e2, e3⟩ := repl_uniq hRP.out (rch_is HV.out HR.out)
        subst e1 e2 e3
        have hB6 := bthen hB5 hb6
        have hL6 := hL5.later hb6
        have hO6 := own_below hO5 hb6
        obtain ⟨A5, c5, rfl, _, _, hM6, _⟩ := Rd.of_ownS hown1
        have hcode : code = 0 := by
          rcases HRI.out with ⟨h, _⟩ | ⟨_, h, _⟩
          · rw [HV.out] at h; cases h
          · exact h
        subst hcode
        clear hB5 hT5 hL5 hO5 hb6 hown1 hRg5
        go_wp2_with fail
        refine (awake15_any w6).mono ?_
        rintro e w7 ⟨rfl, hb7⟩
        have hB7 := bthen hB6 hb7
        have hL7 := hL6.later hb7
        have hM7 := hM6.later hb7
        have hO7 := own_below hO6 hb7
        have HSL := Lib.hid (sameLeft_any A5 A1 M c5 c1 w7 h7L hM7 hL7)
        clear hB6 hL6 hM6 hO6 hb7 hM7
        go_wp2_with fail
        refine HSL.out.mono ?_
        rintro e w8 ⟨rfl, m, rfl⟩
        have hB8 := below_drewN hB7 m
        have hL8 : Rd (w7.drewN m) (w7.drewN m).heap.size A1 (lfs M) := hL7.later (below_drewN (Below.refl _ _) m)
        have hO8 := own_below hO7 (below_drewN (Below.refl _ _) m)
        generalize w7.drewN m = w8 at hB8 hL8 hO8 ⊢
        clear HSL hB7 hL7 hO7
        go_wp2_with fail
        refine (r15sets_any A1 M c1 w8 h7L hL8).mono ?_
        rintro e w9 ⟨vs9, Y, rfl, hownY, hY1, hY2, hb9⟩
        obtain ⟨e1, _⟩ := any_order HV.out HRI.out HR.out HST.out hY1.out hY2.out
        subst e1
        have hB9 := bthen hB8 hb9
        have hO9 := own_below hO8 hb9
        obtain ⟨AY, cY, rfl, _, _, hY9, _⟩ := Rd.of_own hownY
        obtain ⟨_, _, e5, _, _, hR9, _⟩ := Rd.of_own hO9
        injection e5 with e5 _ e6
        subst e5 e6
        have HSS : Hid (Calls Try.prog 44 #[.slice AR R.length cR, .slice AY R.length cY] w9 fun e w' => e = .returned (.bool true) ∧ ∃ n, w' = w9.drewN n) := Lib.hid (by
          have := sameSets_any AR AY R R cR cY w9 (by omega) (by omega) hR9 hY9
          rw [show (R == R) = true by simp] at this
          exact this)
        clear hB8 hL8 hO8 hownY hb9 hO9 hY9 hR9
        go_wp2_with fail
        refine HSS.out.mono ?_
        rintro e w10 ⟨rfl, m2, rfl⟩
        go_wp2_with fail
        go_ret
        exact ⟨rfl, below_drewN hB9 _⟩
      · have hpos : 0 < all.length := by omega
        have e0 : ((all.length : Int) == 0) = false := by rw [beq_eq_false_iff_ne]; omega
        clear HNIL h0
        have hne3 : ¬ (all.length : Int) = 0 := by omega
        by_cases hik : k < Z.length
        · obtain ⟨ad0, hA0, _, hc0⟩ := (hZ.later hB3).i_at hik
          subst hA0
          obtain ⟨b, hbn, hbm⟩ := uint_mod15 Z[k] all.length hpos hst200
          have hul := u64_small15 all.length hst200
          have hbw : IntKind.i64.wrap (b : Int) = b := IntWalk.i64_in _ (by omega)
          have i1 : (0 : Int) ≤ k := by omega
          have i2 : (k : Int) < Z.length := by omega
          have b1 : (0 : Int) ≤ b := by omega
          have b2 : (b : Int) < all.length := by omega
          obtain ⟨ad, hA2, hbl, q0, q1, q2, q3⟩ := hS.st_cells hbn
          subst hA2
          have HIN : Hid (IsStp L keep (stp all b)) := Lib.hid (HIS.out _ (by rw [← stp_eq all b hbn]; exact List.getElem_mem _))
          generalize Z[k] = pk at hc0 hbm
          clear HIS
          · generalize hss : stp all b = s at q0 q1 q2 q3 HIN
            have HSS := Lib.hid hss
            clear hss
            go_upto_region 14 with fail
            have hb5 := below_alloc w3 (.cells #[.int .i64 s.kind, .int .i64 s.edge, .int .i64 s.into, .int .u32 (uz s.cut)] 68)
            have hQ5 : Row (w3.alloc (.cells #[.int .i64 s.kind, .int .i64 s.edge, .int .i64 s.into, .int .u32 (uz s.cut)] 68)) w3.heap.size 68 [.int .i64 s.kind, .int .i64 s.edge, .int .i64 s.into, .int .u32 (uz s.cut)] := Row.new _ _ _
            have hB5 := bthen hB3 hb5
            have hG5 := hG3.later hb5
            have hL5 := hL3.later hb5
            have hS5 := own_below hS3 hb5
            have hO5 := own_below hO3 hb5
            generalize w3.heap.size = q at hQ5 ⊢
            generalize w3.alloc _ = w5 at hQ5 hB5 hG5 hL5 hS5 hO5 hb5 ⊢
            have z0 : w5.cell? ⟨q, 0, none⟩ = some (.int .i64 s.kind) := hQ5.cell 0
            have z1 : w5.cell? ⟨q, 1, none⟩ = some (.int .i64 s.edge) := hQ5.cell 1
            have z2 : w5.cell? ⟨q, 2, none⟩ = some (.int .i64 s.into) := hQ5.cell 2
            have z3 : w5.cell? ⟨q, 3, none⟩ = some (.int .u32 (uz s.cut)) := hQ5.cell 3
            clear q0 q1 q2 q3 hb5 hB3 hG3 hL3 hS3 hO3
            go_wp2_with fail
            refine (r15make_any A1 L c1 s w5 h7L hL5).mono ?_
            rintro e w6 ⟨vm, rfl, hownm, hb6⟩
            have hB6 := bthen hB5 hb6
            have hG6 := hG5.later hb6
            have hQ6 := hQ5.later hb6
            have hS6 := own_below hS5 hb6
            have hO6 := own_below hO5 hb6
            have hM6 := own_less hownm hB5.size
            have y0 : w6.cell? ⟨q, 0, none⟩ = some (.int .i64 s.kind) := hQ6.cell 0
            have y1 : w6.cell? ⟨q, 1, none⟩ = some (.int .i64 s.edge) := hQ6.cell 1
            have y2 : w6.cell? ⟨q, 2, none⟩ = some (.int .i64 s.into) := hQ6.cell 2
            have y3 : w6.cell? ⟨q, 3, none⟩ = some (.int .u32 (uz s.cut)) := hQ6.cell 3
            have HR2 := Lib.hid (HR.out.snoc HIN.out)
            have hmu := HMU.out _ HIN.out
            clear z0 z1 z2 z3 hB5 hG5 hQ5 hL5 hS5 hO5 hownm hb6 HR HIN HMU
            go_wp2_with ((with_reducible show wpList _ _ _ _ _ _); refine app_step rfl (.tmp 64) (.tmp 74) rfl w.heap.size _ ss s rfl rfl hS6 (by omega) hB6.size ?_)
            intro v' w7 hown7 hgr7 hb7
            have hM7 := own_grown hM6 hgr7 fun x hx => own_ne hS6 hM6 (by decide) hx
            have hG7 := hG6.grown hgr7 (own_row_ne hS6 hG6 (by decide))
            have hB7 := hB6.trans hb7
            have hO7 := own_grown hO6 hgr7 fun x hx => own_ne hS6 hO6 (by decide) hx
            have hl7 : (ss ++ [s]).length = k + 1 := by rw [List.length_append, hlk]; rfl
            clear y0 y1 y2 y3 hM6 hG6 hS6 hO6 hQ6 hgr7 hb7
            go_wp2_with fail
            go_roundg (400 - (k + 1))
            case measure => omega
            case rel => exact ⟨k + 1, ss ++ [s], makeE L s, rfl, by omega, hl7, by go_num, HR2, hM7, by rw [hl7]; exact hown7, hO7, hG7, hB7⟩
        · have i2 : decide (k < Z.length) = false := decide_eq_false hik
          obtain ⟨ad, hA2, hbl, q0, q1, q2, q3⟩ := hS.st_cells hpos
          subst hA2
          rw [Nat.zero_mul, add_none ad] at q0 q1 q2 q3
          have b2 : (0 : Int) < all.length := by omega
          have HIN : Hid (IsStp L keep (stp all 0)) := Lib.hid (HIS.out _ (by rw [← stp_eq all 0 hpos]; exact List.getElem_mem _))
          clear HIS
          · generalize hss : stp all 0 = s at q0 q1 q2 q3 HIN
            have HSS := Lib.hid hss
            clear hss
            go_upto_region 14 with fail
            have hb5 := below_alloc w3 (.cells #[.int .i64 s.kind, .int .i64 s.edge, .int .i64 s.into, .int .u32 (uz s.cut)] 68)
            have hQ5 : Row (w3.alloc (.cells #[.int .i64 s.kind, .int .i64 s.edge, .int .i64 s.into, .int .u32 (uz s.cut)] 68)) w3.heap.size 68 [.int .i64 s.kind, .int .i64 s.edge, .int .i64 s.into, .int .u32 (uz s.cut)] := Row.new _ _ _
            have hB5 := bthen hB3 hb5
            have hG5 := hG3.later hb5
            have hL5 := hL3.later hb5
            have hS5 := own_below hS3 hb5
            have hO5 := own_below hO3 hb5
            generalize w3.heap.size = q at hQ5 ⊢
            generalize w3.alloc _ = w5 at hQ5 hB5 hG5 hL5 hS5 hO5 hb5 ⊢
            have z0 : w5.cell? ⟨q, 0, none⟩ = some (.int .i64 s.kind) := hQ5.cell 0
            have z1 : w5.cell? ⟨q, 1, none⟩ = some (.int .i64 s.edge) := hQ5.cell 1
            have z2 : w5.cell? ⟨q, 2, none⟩ = some (.int .i64 s.into) := hQ5.cell 2
            have z3 : w5.cell? ⟨q, 3, none⟩ = some (.int .u32 (uz s.cut)) := hQ5.cell 3
            clear q0 q1 q2 q3 hb5 hB3 hG3 hL3 hS3 hO3
            go_wp2_with fail
            refine (r15make_any A1 L c1 s w5 h7L hL5).mono ?_
            rintro e w6 ⟨vm, rfl, hownm, hb6⟩
            have hB6 := bthen hB5 hb6
            have hG6 := hG5.later hb6
            have hQ6 := hQ5.later hb6
            have hS6 := own_below hS5 hb6
            have hO6 := own_below hO5 hb6
            have hM6 := own_less hownm hB5.size
            have y0 : w6.cell? ⟨q, 0, none⟩ = some (.int .i64 s.kind) := hQ6.cell 0
            have y1 : w6.cell? ⟨q, 1, none⟩ = some (.int .i64 s.edge) := hQ6.cell 1
            have y2 : w6.cell? ⟨q, 2, none⟩ = some (.int .i64 s.into) := hQ6.cell 2
            have y3 : w6.cell? ⟨q, 3, none⟩ = some (.int .u32 (uz s.cut)) := hQ6.cell 3
            have HR2 := Lib.hid (HR.out.snoc HIN.out)
            have hmu := HMU.out _ HIN.out
            clear z0 z1 z2 z3 hB5 hG5 hQ5 hL5 hS5 hO5 hownm hb6 HR HIN HMU
            go_wp2_with ((with_reducible show wpList _ _ _ _ _ _); refine app_step rfl (.tmp 64) (.tmp 74) rfl w.heap.size _ ss s rfl rfl hS6 (by omega) hB6.size ?_)
            intro v' w7 hown7 hgr7 hb7
            have hM7 := own_grown hM6 hgr7 fun x hx => own_ne hS6 hM6 (by decide) hx
            have hG7 := hG6.grown hgr7 (own_row_ne hS6 hG6 (by decide))
            have hB7 := hB6.trans hb7
            have hO7 := own_grown hO6 hgr7 fun x hx => own_ne hS6 hO6 (by decide) hx
            have hl7 : (ss ++ [s]).length = k + 1 := by rw [List.length_append, hlk]; rfl
            clear y0 y1 y2 y3 hM6 hG6 hS6 hO6 hQ6 hgr7 hb7
            go_wp2_with fail
            go_roundg (400 - (k + 1))
            case measure => omega
            case rel => exact ⟨k + 1, ss ++ [s], makeE L s, rfl, by omega, hl7, by go_num, HR2, hM7, by rw [hl7]; exact hown7, hO7, hG7, hB7⟩
end Go.Proofs.Ytkenbmelhfhidaa
