/- The contracts of osierref15.Run, Sets, Rest. -/
import Derived.Test.YtkenbmelhfhidaaR15b
import Derived.Test.YtkenbmelhfhidaaBE
import Derived.Test.YtkenbmelhfhidaaBF
namespace Go.Proofs.Ytkenbmelhfhidaa
open Go.RowKit

attribute [local go_sem ↓] uz_and uz_or uz_andNot uz_and_one uz_shr uz_shl_one uz_shl uz_sub uz_sub_one uz_add uz_beq_zero uz_bne_zero uz_beq uz_bne uz_beq_one

/-- Rows of two kinds lie apart. -/
theorem own_ne {w : World} {base base' size size' n n' x : Nat} {e t : TypeId} {v v' : Value} {xs xs' : List Value} (h : w.ownsRow base e size v n xs) (k : w.ownsRow base' t size' v' n' xs') (hne : e ≠ t) (h1 : v.ownBlock = some x) : v'.ownBlock ≠ some x := by
  intro h2
  rcases h.2 with ⟨rfl, _⟩ | ⟨g, cap, cur, rfl, _, hh, _⟩
  · simp [Value.ownBlock] at h1
  · rcases k.2 with ⟨rfl, _⟩ | ⟨g', cap', cur', rfl, _, hh', _⟩
    · simp [Value.ownBlock] at h2
    · simp only [Value.ownBlock, Option.some.injEq] at h1 h2
      subst h1 h2
      rw [hh] at hh'
      injection hh' with hh'
      injection hh' with _ ht
      exact hne ht
theorem head_at {ss : List Stp} (h : 0 < ss.length) : ss.head? = some (stp ss 0) := by
  cases ss with
  | nil => simp at h
  | cons a l => rfl
theorem runN_left (E : List (BitVec 32)) (keep : BitVec 32) (k : Nat) : (runN keep (beginE E) k).2.length ≤ E.length := by
  have := (runN_rch keep (beginE E) k).len
  rw [begin_len] at this; exact this
theorem runN_srt (E : List (BitVec 32)) (keep : BitVec 32) (k : Nat) : Srt (runN keep (beginE E) k).2 := (runN_rch keep (beginE E) k).srt (srt_begin E)

set_option maxHeartbeats 8000000 in
set_option maxRecDepth 100000 in
theorem r15run_any (V : Int) (A : Option Addr) (E : List (BitVec 32)) (c : Nat) (keep : BitVec 32) (w : World) (hl : E.length ≤ 35184372087808) (hE : Rd w w.heap.size A (us E)) :
    Calls Try.prog 50 #[.agg #[.int .i64 V, .slice A E.length c], .int .u32 (uz keep)] w fun e w' =>
      ∃ v1 v2 ss L code, e = .returned (.tuple #[v1, v2, .int .i64 code]) ∧ w'.ownsRow w.heap.size 68 4 v1 ss.length (sts ss) ∧ w'.ownsRow w.heap.size 119 2 v2 L.length (lfs L) ∧ Hid (RunIs V E keep ss L code) ∧ Below w.heap.size w w' := by
  go_enter Try.func50, Try.ntmps50
  go_wp2_with fail
  have hb0 := below_alloc w (.cells #[.int .i64 V, .slice A E.length c] 24)
  have hG0 : Row (w.alloc (.cells #[.int .i64 V, .slice A E.length c] 24)) w.heap.size 24 [.int .i64 V, .slice A E.length c] := Row.new _ _ _
  generalize w.alloc _ = w0 at hb0 hG0 ⊢
  refine (r14valid_any V A E c _ hl (hE.later hb0)).mono ?_
  rintro e w1 ⟨rfl, hb1⟩
  have hB1 := bthen hb0 hb1
  have hG1 := hG0.later hb1
  cases hv : validB V E
  · have HP : Hid (RunIs V E keep [] [] 140) := Lib.hid (.inl ⟨hv, rfl, rfl, rfl⟩)
    go_wp2_with fail
    refine bodyPost_ret (v := .tuple #[.slice none 0 0, .slice none 0 0, .int .i64 140]) (by simp [results, Try.results50, go_sem]) rfl ?_
    exact ⟨_, _, [], [], _, rfl, ⟨rfl, .inl ⟨rfl, rfl⟩⟩, ⟨rfl, .inl ⟨rfl, rfl⟩⟩, HP, hB1⟩
  · have h7 := (validB_of hv).2.2.1
    have HV := Lib.hid hv
    have d0 : w1.cell? ⟨w.heap.size, 0, none⟩ = some (.int .i64 V) := hG1.cell 0
    have d1 : w1.cell? ⟨w.heap.size, 1, none⟩ = some (.slice A E.length c) := hG1.cell 1
    clear hv
    go_wp2_with fail
    refine (r15begin_any V A E c w1 h7 (hE.later hB1)).mono ?_
    rintro e w2 ⟨v0, rfl, hown0, hb2⟩
    have hB2 := bthen hB1 hb2
    have hown0' := own_less hown0 hB1.size
    clear hown0 hb2 hb1 hG0 hb0 d0 d1
    go_wp2_with fail
    go_loopg [7, 8, 9] 400 (fun gk v vs _ wr => ∃ (k : Nat), gk = 400 - k ∧ k < 400 ∧
      wr.ownsRow w.heap.size 119 2 v (runN keep (beginE E) k).2.length (lfs (runN keep (beginE E) k).2) ∧
      wr.ownsRow w.heap.size 68 4 vs (runN keep (beginE E) k).1.length (sts (runN keep (beginE E) k).1) ∧ Below w.heap.size w wr)
    case atStart => exact ⟨0, rfl, by omega, hown0', ⟨rfl, .inl ⟨rfl, rfl⟩⟩, hB2⟩
    case round =>
      obtain ⟨k, rfl, hk4, hown, howns, hb⟩ := hrel
      obtain ⟨wr, ewr, hb⟩ : ∃ wr : World, wr = _ ∧ Below w.heap.size w wr := ⟨_, rfl, hb⟩
      subst ewr
      have hll := runN_left E keep k
      have hsl := runN_len keep (beginE E) k
      have hsr := Lib.hid (runN_srt E keep k)
      have HN := Lib.hid (fun (s : Stp) h => runN_some (keep := keep) (L := beginE E) (k := k) (s := s) h)
      have HE := Lib.hid (fun h => runE_eq (keep := keep) h7 (k := k) h)
      have HC := Lib.hid (fun (s : Stp) h => runN_count (keep := keep) (E := E) (k := k) (s := s) h7 h)
      generalize hr : runN keep (beginE E) k = r at hown howns hll hsl hsr HN HE HC
      obtain ⟨ss, L⟩ := r
      have HRR := Lib.hid hr
      clear hr hown0' hB2
      simp only at hown howns hll hsl hsr HN HE HC
      obtain ⟨A1, c1, rfl, _, _, hL, _⟩ := Rd.of_ownS hown
      go_wp2_with fail
      refine (r15steps_any A1 L c1 keep wr (by omega) hsr.out hL).mono ?_
      rintro e w3 ⟨vst, rfl, hownst, hst200, hb3⟩
      have hB3 := bthen hb hb3
      have hown3 := own_below hown hb3
      have howns3 := own_below howns hb3
      obtain ⟨A2, c2, rfl, _, _, hS, _⟩ := Rd.of_ownS hownst
      generalize stepsE L keep = all at HN HE HC hst200 hS hownst
      have hL3 := hL.later hb3
      clear hownst hL hown howns hb hb3
      by_cases h0 : all.length = 0
      · have hnil : all = [] := List.eq_nil_of_length_eq_zero h0
        have HP : Hid (RunIs V E keep ss L 0) := Lib.hid (by
          have e := HE.out (by rw [hnil]; rfl)
          exact .inr ⟨HV.out, by rw [← e], by rw [← e], rfl⟩)
        have e0 : ((all.length : Int) == 0) = true := by rw [beq_iff_eq]; omega
        obtain ⟨v, ev, howns3⟩ : ∃ v, v = _ ∧ w3.ownsRow w.heap.size 68 4 v ss.length (sts ss) := ⟨_, rfl, howns3⟩
        subst ev
        clear HN HE HC hnil h0
        go_wp2_with fail
        refine bodyPost_ret (v := .tuple #[v, .slice A1 L.length c1, .int .i64 0]) (by simp [results, Try.results50, go_sem]) rfl ?_
        exact ⟨_, _, ss, L, _, rfl, howns3, hown3, HP, hB3⟩
      · have hpos : 0 < all.length := by omega
        have e0 : ((all.length : Int) == 0) = false := by rw [beq_eq_false_iff_ne]; omega
        have hh := head_at hpos
        have hcount := HC.out _ hh
        have HN2 := Lib.hid (HN.out _ hh)
        obtain ⟨ad, hA2, hbl, q0, q1, q2, q3⟩ := hS.st_cells hpos
        subst hA2
        rw [Nat.zero_mul, add_none ad] at q0 q1 q2 q3
        have hb0 : (0 : Int) < all.length := by omega
        have hmk := Lib.hid (fun s => r15make_any A1 L c1 s w3 (by omega) hL3)
        obtain ⟨s, hs⟩ : ∃ s, s = stp all 0 := ⟨_, rfl⟩
        rw [← hs] at q0 q1 q2 q3 HN2
        have HSS := Lib.hid hs
        clear HN HE HC hh h0 hs
        go_wp2_with fail
        refine (hmk.out s).mono ?_
        rintro e w4 ⟨vm, rfl, hownm, hb4⟩
        have hB4 := bthen hB3 hb4
        have hown4 := own_less hownm hB3.size
        have howns4 := own_below howns3 hb4
        obtain ⟨ad2, hA2, hbl2, p0, p1, p2, p3⟩ := (hS.later hb4).st_cells hpos
        obtain rfl : ad = ad2 := by injection hA2
        rw [Nat.zero_mul, add_none ad, ← HSS.out] at p0 p1 p2 p3
        clear hmk hownm howns3 hA2 q0 q1 q2 q3 hb4 hL3 hown3 hS
        go_wp2_with ((with_reducible show wpList _ _ _ _ _ _); refine app_rstep rfl (.tmp 28) (.tmp 32) rfl w.heap.size _ ss s rfl rfl howns4 (by omega) hB4.size ?_)
        intro v' w5 hown5 hgr5 hb5
        have hL5 := own_grown hown4 hgr5 fun x hx => own_ne howns4 hown4 (by decide) hx
        go_wp2_with fail
        go_roundg (400 - (k + 1))
        case measure => omega
        case rel => exact ⟨k + 1, rfl, by omega, by rw [HN2.out]; exact hL5, by rw [HN2.out]; show w5.ownsRow w.heap.size 68 4 v' (ss ++ [s]).length (sts (ss ++ [s])); rw [List.length_append]; exact hown5, hB4.trans hb5⟩

/-! ### Sets -/
theorem swp_upd2 (f : Nat → BitVec 32) (d : Nat) : updS (updS f d (f (d + 1))) (d + 1) (f d) = swp f (d + 1) := by
  funext k
  unfold updS swp
  by_cases h1 : k = d + 1
  · simp [h1]
  · by_cases h2 : k = d
    · simp [h2]
    · simp [h1, h2]
theorem wrow_list (L : List (BitVec 32)) : wrow L.length (fun i => L.getD i 0#32) = L := by
  unfold wrow
  apply List.ext_getElem?
  intro i
  by_cases h : i < L.length
  · simp [h]
  · simp [h]
theorem srtd_of {M : List (BitVec 32)} (h : risesB M) (x : BitVec 32) : Srtd (fun i => (M ++ [x]).getD i 0#32) M.length := by
  intro a b h1 h2
  have := List.pairwise_iff_getElem.1 h a b (by omega) h2 h1
  simp only [List.getD_eq_getElem?_getD, List.getElem?_append_left (show a < M.length by omega), List.getElem?_append_left h2, List.getElem?_eq_getElem h2, List.getElem?_eq_getElem (show a < M.length by omega), Option.getD_some]
  exact this
set_option maxHeartbeats 8000000 in
set_option maxRecDepth 100000 in
theorem r15sets_any (A : Option Addr) (L : Lt) (c : Nat) (w : World) (hl : L.length ≤ 7) (hL : Rd w w.heap.size A (lfs L)) :
    Calls Try.prog 66 #[.slice A L.length c] w fun e w' => ∃ v Z, e = .returned v ∧ w'.ownsRow w.heap.size 39 1 v Z.length (us Z) ∧ Hid (risesB Z) ∧ Hid (Z.Perm (setsOf L)) ∧ Below w.heap.size w w' := by
  go_enter Try.func66, Try.ntmps66
  go_wp2_with fail
  go_loopw [3, 4, 5] (fun v i _ wr => ∃ (k : Nat) (M : List (BitVec 32)), k ≤ L.length ∧ i = .int .i64 k ∧ M.length ≤ k ∧ Hid (risesB M) ∧ Hid (M.Perm (setsOf (L.take k))) ∧ wr.ownsRow w.heap.size 39 1 v M.length (us M) ∧ Below w.heap.size w wr) (fun _ i _ _ => L.length - (intOf i).toNat)
  case atStart => exact ⟨0, [], Nat.zero_le _, rfl, Nat.le_refl _, Lib.hid List.Pairwise.nil, Lib.hid (List.Perm.refl _), ⟨rfl, .inl ⟨rfl, rfl⟩⟩, Below.refl _ _⟩
  case round =>
    obtain ⟨k, M, hk, rfl, hml, HR, HP, hown, hb⟩ := hrel
    by_cases hlt : k < L.length
    · obtain ⟨ad, hA, hbl, q0, q1⟩ := (hL.later hb).lf_cells hlt
      have HS := Lib.hid (take_snoc L k hlt)
      rw [lft_eq L k hlt] at HS
      have HN := Lib.hid (setsOf_snoc (L.take k) (lft L k))
      rw [← HS.out] at HN
      subst hA
      generalize lft L k = s at q0 q1 HN
      obtain ⟨i, x⟩ := s
      simp only at q0 q1 HN
      have a1 : (0 : Int) ≤ k := by omega
      have a2 : (k : Int) < L.length := by omega
      by_cases hx : x = 0#32
      · have hxb : (x == 0#32) = true := by simp [hx]
        have hxn : (x != 0#32) = false := by simp [hx]
        have HN2 : Hid (setsOf (L.take (k + 1)) = setsOf (L.take k)) := Lib.hid (by rw [HN.out, hxn]; simp)
        clear hx
        go_wp2_with fail
        go_roundw
        case rel => exact ⟨k + 1, M, by omega, by go_num, by omega, HR, Lib.hid (by rw [HN2.out]; exact HP.out), hown, hb⟩
        case measure => simp [intOf]; omega
      · have hxb : (x == 0#32) = false := by simp [hx]
        have hxn : (x != 0#32) = true := by simp [hx]
        have HN2 : Hid (setsOf (L.take (k + 1)) = setsOf (L.take k) ++ [x]) := Lib.hid (by rw [HN.out, hxn]; simp)
        clear hx
        go_wp2_with ((with_reducible show wpList _ _ _ _ _ _); refine app_u32 rfl (.tmp 18) (.tmp 24) rfl w.heap.size _ _ M x rfl (by go_simp) hown (by omega) hb.size ?_)
        intro v' w3 hown3 hb3
        obtain ⟨g, cap, R, rfl, hg, hRow, hRl, hcm, hnc⟩ := row_of_own hown3 (by omega)
        have hB3 := hb.trans hb3
        have HPM : Hid ((wrow (M.length + 1) (fun i => (M ++ [x]).getD i 0#32)).Perm (setsOf (L.take (k + 1)))) := Lib.hid (by
          have e := wrow_list (M ++ [x])
          rw [List.length_append, List.length_singleton] at e
          rw [e, HN2.out]; exact HP.out.append_right _)
        have hRow2 : Row w3 g 39 (srow (M.length + 1) (fun i => (M ++ [x]).getD i 0#32) R) := by
          unfold srow
          have e := wrow_list (M ++ [x])
          rw [List.length_append, List.length_singleton] at e
          rw [e]; exact hRow
        have HI := Lib.hid (srtd_of HR.out x).start
        have hRl2 : M.length + 1 + R.length = cap := by rw [← hRl, List.length_append, us_length, List.length_append]; rfl
        clear hown3 hown hRow q0 q1 hbl hb hb3 HN HP hRl
        generalize (fun i => (M ++ [x]).getD i 0#32) = f0 at HPM hRow2 HI
        have hw0 : IntKind.i64.wrap (M.length : Int) = M.length := IntWalk.i64_in _ (by omega)
        go_wp2_with fail
        go_loopw [5] (fun i wr => ∃ (j : Nat) (f : Nat → BitVec 32), j ≤ M.length ∧ i = .int .i64 j ∧ Row wr g 39 (srow (M.length + 1) f R) ∧ Hid (Insd f M.length j) ∧ Hid ((wrow (M.length + 1) f).Perm (setsOf (L.take (k + 1)))) ∧ w3.grownBy wr (some g)) (fun i _ => (intOf i).toNat)
        case atStart => exact ⟨M.length, f0, Nat.le_refl _, by first | rfl | go_num, hRow2, HI, HPM, World.grownBy.refl _ _⟩
        case round =>
          obtain ⟨j, f, hj, rfl, hRj, HJ, HPJ, hgj⟩ := hrel
          have HSTOP := Lib.hid (fun h => HJ.out.stop hj h)
          have hfin : ∀ (f : Nat → BitVec 32) (w5 : World), Hid (Srtd f (M.length + 1)) → Row w5 g 39 (srow (M.length + 1) f R) → (wrow (M.length + 1) f).length = M.length + 1 ∧ risesB (wrow (M.length + 1) f) ∧ w5.ownsRow w.heap.size 39 1 (.slice (some ⟨g, 0, none⟩) (M.length + 1) cap) (M.length + 1) (us (wrow (M.length + 1) f)) := fun f w5 hs hr => by
            refine ⟨by simp [wrow], rises_wrow hs.out, own_of_row hr hg (by simp [wrow]) (by rw [List.length_append, us_length]; simp [wrow]; omega) hcm⟩
          rcases Nat.eq_zero_or_pos j with h0 | h0
          · subst h0
            have HS2 := Lib.hid (HSTOP.out (.inl rfl))
            obtain ⟨n1, n2, n3⟩ := hfin f (wr.drewN 1) HS2 (hRj.drewN 1)
            have hB4 := hB3.trans (grown_to_below hgj hg hB3.size)
            go_wp2_with fail
            go_quiet (fail)
            go_wp2_with fail
            go_roundw
            case rel => exact ⟨k + 1, _, by omega, by go_num, by rw [n1]; omega, Lib.hid n2, HPJ, by rw [n1]; exact own_drewN (hfin f wr HS2 hRj).2.2 _, below_drewN hB4 _⟩
            case measure => simp [intOf]; omega
          · obtain ⟨d, rfl⟩ : ∃ d, j = d + 1 := ⟨j - 1, by omega⟩
            have c1 : World.cell? wr ⟨g, d + 1, none⟩ = some (.int .u32 (uz (f (d + 1)))) := (hRj.cell _).trans (srow_at (by omega))
            have c2 : World.cell? wr ⟨g, d, none⟩ = some (.int .u32 (uz (f d))) := (hRj.cell _).trans (srow_at (by omega))
            have z1 := hRj.frozen (d + 1)
            have z2 := hRj.frozen d
            have b1 : (0 : Int) < (d : Int) + 1 := by omega
            have b2 : (d : Int) + 1 < (M.length : Int) + 1 := by omega
            have b3 : (0 : Int) ≤ d := by omega
            have b4 : (d : Int) < (M.length : Int) + 1 := by omega
            have b5 : (0 : Int) ≤ (d : Int) + 1 := by omega
            have hw : IntKind.i64.wrap (d : Int) = d := IntWalk.i64_in _ (by omega)
            have ht : ((d : Int) + 1).toNat = d + 1 := by omega
            by_cases hlt2 : (f (d + 1)).toNat < (f d).toNat
            · have hz : uz (f (d + 1)) < uz (f d) := (lt_uz _ _).2 hlt2
              have hzd : decide (uz (f (d + 1)) < uz (f d)) = true := by simpa using hz
              have HJ2 := Lib.hid (HJ.out.step h0 hj hlt2)
              have HP2 : Hid ((wrow (M.length + 1) (swp f (d + 1))).Perm (setsOf (L.take (k + 1)))) := Lib.hid ((swp_perm h0 (by omega)).trans HPJ.out)
              clear HSTOP hlt2 hfin
              go_wp2_with fail
              go_quiet (fail)
              go_upto_region 10 with fail
              have hRq := hRj.drewN nq
              have hgq := grown_drewN hgj nq
              replace c1 : (wr.drewN nq).cell? ⟨g, d + 1, none⟩ = some (.int .u32 (uz (f (d + 1)))) := c1
              replace c2 : (wr.drewN nq).cell? ⟨g, d, none⟩ = some (.int .u32 (uz (f d))) := c2
              replace z1 : (wr.drewN nq).frozen? ⟨g, d + 1, none⟩ = false := z1
              replace z2 : (wr.drewN nq).frozen? ⟨g, d, none⟩ = false := z2
              have hg1 : g < (wr.drewN nq).heap.size := hRq.lt
              clear hRj hgj
              generalize wr.drewN nq = W2 at hRq hgq c1 c2 z1 z2 hg1 ⊢
              have hR3 := hRq.set_ d (.int .u32 (uz (f (d + 1))))
              rw [srow_set (by omega)] at hR3
              have c3 : (W2.setCell ⟨g, d, none⟩ (.int .u32 (uz (f (d + 1))))).cell? ⟨g, d + 1, none⟩ = some (.int .u32 (uz (updS f d (f (d + 1)) (d + 1)))) := (hR3.cell _).trans (srow_at (by omega))
              have z3 := hR3.frozen (d + 1)
              have hg3 := hR3.lt
              have hR4 := hR3.set_ (d + 1) (.int .u32 (uz (f d)))
              rw [srow_set (by omega)] at hR4
              have HQ : Hid (updS (updS f d (f (d + 1))) (d + 1) (f d) = swp f (d + 1)) := Lib.hid (swp_upd2 f d)
              clear hRq hR3 hz hzd
              go_region_law (fail)
              all_goals
                go_wp2_with fail
                go_roundw
                case rel => exact ⟨d, swp f (d + 1), by omega, by go_num, by rw [← HQ.out]; exact hR4, HJ2, HP2, by first | exact grown_drewN (grown_set (grown_set hgq _ _) _ _) 1 | exact grown_set (grown_set hgq _ _) _ _⟩
                case measure => first | (simp [intOf]; done) | (simp [intOf]; omega)
            · have hz : ¬ uz (f (d + 1)) < uz (f d) := fun h => hlt2 ((lt_uz _ _).1 h)
              have hzd : decide (uz (f (d + 1)) < uz (f d)) = false := by simpa using hz
              have HS2 := Lib.hid (HSTOP.out (.inr hlt2))
              have hB4 := hB3.trans (grown_to_below hgj hg hB3.size)
              obtain ⟨n1, n2, n3⟩ := hfin f wr HS2 hRj
              clear HSTOP hlt2 hfin
              go_wp2_with fail
              go_quiet (fail)
              go_wp2_with fail
              go_roundw
              case rel => exact ⟨k + 1, _, by omega, by go_num, by rw [n1]; omega, Lib.hid n2, HPJ, by rw [n1]; exact own_drewN n3 _, below_drewN hB4 _⟩
              case measure => simp [intOf]; omega
    · obtain rfl : k = L.length := by omega
      have HP2 : Hid (M.Perm (setsOf L)) := Lib.hid (by have := HP.out; rwa [List.take_length] at this)
      go_wp2_with fail
      go_ret
      exact ⟨_, M, rfl, hown, HR, HP2, hb⟩
end Go.Proofs.Ytkenbmelhfhidaa
