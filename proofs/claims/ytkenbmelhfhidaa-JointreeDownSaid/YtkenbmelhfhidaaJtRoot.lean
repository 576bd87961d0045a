/- The contracts of slices.Clone over numbers and words, of jointree.Reroot and of osierref16.Reroot. -/
import Derived.Test.YtkenbmelhfhidaaRootLaw
import Derived.Test.YtkenbmelhfhidaaJtW6
import Derived.Test.YtkenbmelhfhidaaEars6
import Derived.StillTailTactics
import Derived.Laws.Cover3
namespace Go.Proofs.Ytkenbmelhfhidaa
open Go.RowKit

attribute [local go_sem ↓] uz_and uz_or uz_andNot uz_and_one uz_shr uz_shl_one uz_shl uz_sub uz_sub_one uz_add uz_beq_zero uz_bne_zero uz_beq uz_bne uz_beq_one

theorem own_of_row {w : World} {base g n cap : Nat} {e : TypeId} {xs R : List Value} (h : Row w g e (xs ++ R)) (hb : base ≤ g) (hn : xs.length = n) (hc : (xs ++ R).length = cap) (hm : cap ≤ maxLen) : w.ownsRow base e 1 (.slice (some ⟨g, 0, none⟩) n cap) n xs := by
  subst hn hc
  refine ⟨by simp, .inr ⟨g, _, _, rfl, hb, h, by simp, hm, by simp, by simp⟩⟩
theorem row_of_own {w : World} {base n : Nat} {e : TypeId} {v : Value} {xs : List Value} (h : w.ownsRow base e 1 v n xs) (hn : 0 < n) : ∃ g cap R, v = .slice (some ⟨g, 0, none⟩) n cap ∧ base ≤ g ∧ Row w g e (xs ++ R) ∧ (xs ++ R).length = cap ∧ cap ≤ maxLen ∧ n ≤ cap := by
  rcases h.2 with ⟨_, h0⟩ | ⟨g, cap, cur, hv, hb, hh, hnc, hm, hsz, htk⟩
  · omega
  · have e1 : xs ++ cur.toList.drop n = cur.toList := by rw [← htk, Nat.mul_one, List.take_append_drop]
    refine ⟨g, cap, cur.toList.drop n, hv, hb, ?_, ?_, hm, hnc⟩
    · unfold Row; rw [e1]; simpa using hh
    · rw [e1]; simpa using hsz
theorem empty_own (w : World) (e : TypeId) : (w.alloc (.cells #[] e)).ownsRow w.heap.size e 1 (.slice (some ⟨w.heap.size, 0, none⟩) 0 0) 0 [] :=
  ⟨rfl, .inr ⟨w.heap.size, 0, #[], rfl, Nat.le_refl _, heap_alloc_new w _, Nat.le_refl _, by unfold maxLen; omega, rfl, rfl⟩⟩
theorem Rd.news {w : World} {B : Nat} {ad : Addr} {xs : List Value} (h : Rd w B (some ad) xs) : ∀ j u, xs[j]? = some u → w.cell? (ad.add j) = some u := by
  intro j u hj
  obtain ⟨hj', rfl⟩ := List.getElem?_eq_some_iff.1 hj
  obtain ⟨ad', e, _, hc⟩ := h j hj'
  injection e with e
  subst e
  exact hc
set_option maxRecDepth 100000 in
theorem clone_int_any (ad : Addr) (P : List Int) (c : Nat) (w : World) (hl : P.length ≤ 100) (hP : Rd w w.heap.size (some ad) (is P)) :
    Calls Try.prog 87 #[.slice (some ad) P.length c] w fun e w' => ∃ v, e = .returned v ∧ w'.ownsRow w.heap.size 3 1 v P.length (is P) ∧ Below w.heap.size w w' := by
  obtain ⟨i, hi, hz, hs1, hb1⟩ := info_parts Try.info_int
  have hnil : (binOp .eql 25 (.slice (some ad) P.length c) (.slice none 0 0)).run Try.prog w = .ok (.bool false) w := by
    simp [binOp, run_equal_slice_nil w 25 3 (some ad) P.length c Try.underlying25]
  go_enter Try.func87, Try.ntmps87
  go_wp2_with ((with_reducible show wpList _ _ _ _ _ _); refine wpList_append_own_at _ rfl (.tmp 5) (.tmp 6) 25 rfl w.heap.size 3 i (.int .i64 0) 1 8 Try.underlying25 hi hz hs1 hb1 rfl (by decide) _ 0 [] rfl (empty_own w 3) ad P.length c (is P) rfl (by simp) ((hP.below (below_alloc w _)).news) (is_one P) (by unfold maxLen; omega) (by omega) (by simp) ?_)
  intro v' w' hown hg _ _
  go_wp2_with fail
  go_ret
  exact ⟨_, rfl, hown, ((Below.refl _ _).alloc (Nat.le_refl _) _).grown hg (by simp) fun k hk => by
    simp only [Value.ownBlock, Option.some.injEq] at hk
    omega⟩
theorem is_row_set (n : Nat) (f : Nat → Int) (R : List Value) (k : Nat) (x : Int) (h : k < n) : (is (rowOf n f) ++ R).set k (.int .i64 x) = is (rowOf n (updI f k x)) ++ R := by
  rw [List.set_append_left _ _ (by simp; omega), rowOf_set]; rfl
theorem is_row_at (n : Nat) (f : Nat → Int) (R : List Value) (k : Nat) (h : k < n) : (is (rowOf n f) ++ R)[k]? = some (.int .i64 (f k)) := by
  rw [List.getElem?_append_left (by simp; omega)]; exact rowOf_at n f k h

set_option maxHeartbeats 4000000 in
set_option maxRecDepth 100000 in
theorem reroot_any (A : Option Addr) (P : List Int) (c : Nat) (root : Int) (w : World) (hl : P.length ≤ 35184372087808) (hP : Rd w w.heap.size A (is P)) :
    Calls Try.prog 46 #[.slice A P.length c, .int .i64 root] w fun e w' => ∃ v Z code, e = .returned (.tuple #[v, .int .i64 code]) ∧ w'.ownsRow w.heap.size 3 1 v Z.length (is Z) ∧ Hid (RootIs P root Z code) ∧ Below w.heap.size w w' := by
  go_enter Try.func46, Try.ntmps46
  go_wp2_with fail
  refine (isTree_any A P c w hl hP).mono ?_
  rintro e w1 ⟨rfl, rfl⟩
  cases ht : treeB P
  · have HP : Hid (RootIs P root [] 160) := Lib.hid (.inl ⟨ht, rfl, rfl⟩)
    clear ht
    go_wp2_with fail
    go_ret2
    exact ⟨_, [], _, rfl, ⟨rfl, .inl ⟨rfl, rfl⟩⟩, HP, Below.refl _ _⟩
  · by_cases hneg : root < 0
    · have HQ : Hid (RootIs P root [] 141) := Lib.hid (.inr (.inl ⟨ht, .inl hneg, rfl, rfl⟩))
      have d1 : decide (root < 0) = true := by simpa using hneg
      clear ht hneg
      go_wp2_with fail
      go_ret2
      exact ⟨_, [], _, rfl, ⟨rfl, .inl ⟨rfl, rfl⟩⟩, HQ, Below.refl _ _⟩
    · have d1 : decide (root < 0) = false := by simpa using hneg
      by_cases hbig : (P.length : Int) ≤ root
      · have HQ : Hid (RootIs P root [] 141) := Lib.hid (.inr (.inl ⟨ht, .inr hbig, rfl, rfl⟩))
        have d2 : decide ((P.length : Int) ≤ root) = true := by simpa using hbig
        clear ht hneg hbig
        go_wp2_with fail
        go_ret2
        exact ⟨_, [], _, rfl, ⟨rfl, .inl ⟨rfl, rfl⟩⟩, HQ, Below.refl _ _⟩
      · obtain ⟨r, rfl⟩ := Int.eq_ofNat_of_zero_le (show 0 ≤ root by omega)
        have hr : r < P.length := by omega
        obtain ⟨h7, hT⟩ := (treeB_iff P).1 ht
        have HQ : Hid (RootIs P r (rowOf P.length (rer P.length (pz P) r)) 0) := Lib.hid (.inr (.inr ⟨ht, r, rfl, hr, rfl, rfl⟩))
        have HT := Lib.hid hT
        have HU := Lib.hid (hT.reach r hr)
        have d2 : decide ((P.length : Int) ≤ (r : Int)) = false := decide_eq_false (by omega)
        have d3 : decide (P.length ≤ r) = false := decide_eq_false (by omega)
        obtain ⟨ad, hA, _, _⟩ := hP.p_at hr
        subst hA
        clear ht hneg hbig hT
        go_wp2_with fail
        refine (clone_int_any ad P c w (by omega) hP).mono ?_
        rintro e w1 ⟨v, rfl, hown, hb1⟩
        obtain ⟨g, cap, R, rfl, hg, hR, hRl, hcm, hnc⟩ := row_of_own hown (by omega)
        have hP1 := hP.below hb1
        rw [← rowOf_pz P] at hR
        clear hown
        go_wp2_with fail
        go_loopg [7, 8] P.length (fun gk a b wr => ∃ (m : Nat) (y x : Int) (f : Nat → Int), gk = P.length - m ∧ m ≤ P.length ∧ a = .int .i64 y ∧ b = .int .i64 x ∧ -1 ≤ y ∧ y < P.length ∧ Hid (trnF (wayF (pz P) (P.length - m) y) x f = rer P.length (pz P) r) ∧ Hid (up (pz P) (P.length - m) y = -1) ∧
          Row wr g 3 (is (rowOf P.length f) ++ R) ∧ Below g w1 wr)
        case atStart => exact ⟨0, r, -1, pz P, rfl, Nat.zero_le _, rfl, rfl, by omega, by omega, rfl, HU, hR, Below.refl _ _⟩
        case round =>
          obtain ⟨m, y, x, f, rfl, hm, rfl, rfl, hy1, hy2, HW, HUP, hRk, hbk⟩ := hrel
          by_cases hy : 0 ≤ y
          · obtain ⟨j, rfl⟩ := Int.eq_ofNat_of_zero_le hy
            have hj : j < P.length := by omega
            have hmn : m < P.length := by
              rcases Nat.lt_or_ge m P.length with d | d
              · exact d
              · have h1 := HUP.out
                rw [show P.length - m = 0 by omega] at h1
                have h1 : (j : Int) = -1 := h1
                omega
            have hrn := HT.out.rng j hj
            have HW2 : Hid (trnF (wayF (pz P) (P.length - (m + 1)) (pz P j)) (j : Int) (updI f j x) = rer P.length (pz P) r) := Lib.hid (by
              have e : wayF (pz P) (P.length - m) (j : Int) = j :: wayF (pz P) (P.length - (m + 1)) (pz P j) := by
                rw [show P.length - m = (P.length - (m + 1)) + 1 by omega]
                conv => lhs; unfold wayF
                rw [if_neg (by omega), Int.toNat_natCast]
              rw [← HW.out, e]; rfl)
            have HU2 : Hid (up (pz P) (P.length - (m + 1)) (pz P j) = -1) := Lib.hid (by
              have h1 := HUP.out
              rw [show P.length - m = (P.length - (m + 1)) + 1 by omega, up_nat] at h1
              exact h1)
            obtain ⟨ad2, hA2, _, hc⟩ := ((hP1.mono hg).below hbk).p_at hj
            obtain rfl : ad = ad2 := by injection hA2
            have c1 := (hRk.cell j).trans (is_row_at P.length f R j hj)
            have z1 := hRk.frozen j
            have hgl := hRk.lt
            have b1 : (0 : Int) ≤ j := by omega
            have b2 : (j : Int) < P.length := by omega
            have b3 : ((j : Int) != -1) = true := by rw [bne_iff_ne]; omega
            generalize pz P j = z at hc hrn HW2 HU2
            clear HW HUP hy hA2
            go_wp2_with fail
            go_roundg (P.length - (m + 1))
            case measure => omega
            case rel =>
              refine ⟨m + 1, z, j, updI f j x, rfl, by omega, rfl, rfl, hrn.1, hrn.2, HW2, HU2, ?_, hbk.setCell (Nat.le_refl _) _⟩
              have h2 := hRk.set_ j (.int .i64 x)
              rw [is_row_set _ _ _ _ _ hj] at h2
              exact h2
          · obtain rfl : y = -1 := by omega
            have HE : Hid (f = rer P.length (pz P) r) := Lib.hid (by rw [← HW.out, wayF_neg _ (by omega)]; first | done | rfl)
            go_wp2_with fail
            go_ret2
            refine ⟨_, _, _, rfl, ?_, HQ, hb1.trans (hbk.mono hg)⟩
            rw [← HE.out, rowOf_length]
            exact own_of_row hRk hg (by simp) (by rw [List.length_append, is_length, rowOf_length, ← hRl, List.length_append, is_length]) hcm

theorem zed_drop {Z : List Nat} {k : Nat} (h : k < Z.length) : Z.drop k = zed Z k :: Z.drop (k + 1) := by
  rw [← zed_eq Z k h]; exact List.drop_eq_getElem_cons h
set_option maxHeartbeats 4000000 in
set_option maxRecDepth 100000 in
theorem r16reroot_any (A : Option Addr) (P : List Int) (c : Nat) (root : Int) (w : World) (hl : P.length ≤ 35184372087808) (hP : Rd w w.heap.size A (is P)) :
    Calls Try.prog 47 #[.slice A P.length c, .int .i64 root] w fun e w' => ∃ v Z code, e = .returned (.tuple #[v, .int .i64 code]) ∧ w'.ownsRow w.heap.size 3 1 v Z.length (is Z) ∧ Hid (RootIs P root Z code) ∧ Below w.heap.size w w' := by
  go_enter Try.func47, Try.ntmps47
  go_wp2_with fail
  refine (r16isTree_any A P c w hl hP).mono ?_
  rintro e w0 ⟨rfl, hb0⟩
  have hP0 := hP.later hb0
  cases ht : treeB P
  · have HP : Hid (RootIs P root [] 160) := Lib.hid (.inl ⟨ht, rfl, rfl⟩)
    clear ht
    go_wp2_with fail
    go_ret2
    exact ⟨_, [], _, rfl, ⟨rfl, .inl ⟨rfl, rfl⟩⟩, HP, hb0⟩
  · by_cases hneg : root < 0
    · have HQ : Hid (RootIs P root [] 141) := Lib.hid (.inr (.inl ⟨ht, .inl hneg, rfl, rfl⟩))
      have d1 : decide (root < 0) = true := by simpa using hneg
      clear ht hneg
      go_wp2_with fail
      go_ret2
      exact ⟨_, [], _, rfl, ⟨rfl, .inl ⟨rfl, rfl⟩⟩, HQ, hb0⟩
    · have d1 : decide (root < 0) = false := by simpa using hneg
      by_cases hbig : (P.length : Int) ≤ root
      · have HQ : Hid (RootIs P root [] 141) := Lib.hid (.inr (.inl ⟨ht, .inr hbig, rfl, rfl⟩))
        have d2 : decide ((P.length : Int) ≤ root) = true := by simpa using hbig
        clear ht hneg hbig
        go_wp2_with fail
        go_ret2
        exact ⟨_, [], _, rfl, ⟨rfl, .inl ⟨rfl, rfl⟩⟩, HQ, hb0⟩
      · obtain ⟨r, rfl⟩ := Int.eq_ofNat_of_zero_le (show 0 ≤ root by omega)
        have hr : r < P.length := by omega
        obtain ⟨h7, hT⟩ := (treeB_iff P).1 ht
        have HQ : Hid (RootIs P r (rowOf P.length (rer P.length (pz P) r)) 0) := Lib.hid (.inr (.inr ⟨ht, r, rfl, hr, rfl, rfl⟩))
        have HWL := Lib.hid (fun k hk => hT.way_lt r hr k hk)
        have HW0 : Hid (zed (way P.length (pz P) r) 0 = r) := Lib.hid (by rw [hT.way_eq hr]; rfl)
        have HWN : Hid ((way P.length (pz P) r).length ≤ 7) := Lib.hid (by
          have : ∀ f y, (wayF (pz P) f y).length ≤ f := by
            intro f
            induction f with
            | zero => intro y; exact Nat.le_refl _
            | succ f ih => intro y; unfold wayF; split <;> simp; exact ih _
          exact Nat.le_trans (this _ _) h7)
        have hrr : rer P.length (pz P) r = trnF (way P.length (pz P) r) (-1) (pz P) := rfl
        have d2 : decide ((P.length : Int) ≤ (r : Int)) = false := decide_eq_false (by omega)
        have d3 : decide (P.length ≤ r) = false := decide_eq_false (by omega)
        have hwy := fun w' hw' => way_any A P c r w' h7 hw' hT hr
        clear ht hneg hbig hT
        rw [hrr] at HQ
        clear hrr
        go_wp2_with fail
        refine (ints_any A P c w0 hl hP0).mono ?_
        rintro e w1 ⟨g, rfl, hg, hR, hb1⟩
        have hB1 := bthen hb0 hb1
        have hP1 := hP0.later hb1
        have HWY := Lib.hid (hwy w1 hP1)
        clear hwy
        generalize way P.length (pz P) r = Z at HQ HWL HW0 HWN HWY
        go_wp2_with fail
        refine HWY.out.mono ?_
        rintro e w2 ⟨v, rfl, hown, hb2⟩
        obtain ⟨A', c', rfl, _, _, hZ, hZb⟩ := Rd.of_own hown
        have hR2 := hR.later hb2
        have hB2 := bthen hB1 hb2
        have hz7 := HWN.out
        rw [← rowOf_pz P] at hR2
        have hgz : ∀ ad, A' = some ad → ad.block ≠ g := fun ad h => by have := hZb ad h; have := hR.lt; omega
        have HGZ := Lib.hid hgz
        clear HWY hown hb2 hR hb1 hB1 hgz hZb
        go_wp2_with fail
        go_loopw [8] (fun i wr => ∃ (k : Nat) (f : Nat → Int), k ≤ Z.length ∧ i = .int .i64 k ∧ Hid (trnF (Z.drop k) (if k = 0 then -1 else ((zed Z (k - 1) : Nat) : Int)) f = trnF Z (-1) (pz P)) ∧ Row wr g 3 (is (rowOf P.length f)) ∧ w2.grownBy wr (some g)) (fun i _ => Z.length - (intOf i).toNat)
        case atStart => exact ⟨0, pz P, Nat.zero_le _, rfl, rfl, hR2, World.grownBy.refl _ _⟩
        case round =>
          obtain ⟨k, f, hk, rfl, HF, hRk, hgk⟩ := hrel
          have hgl := hRk.lt
          by_cases hlt : k < Z.length
          · have hzr : ∀ q, q < Z.length → ∃ ad, A' = some ad ∧ World.cell? wr (ad.add q) = some (.int .i64 ((zed Z q : Nat) : Int)) := fun q hq => by
              obtain ⟨ad, h1, h2, h3⟩ := hZ.z_at hq
              refine ⟨ad, h1, ?_⟩
              rw [← h3]
              exact hgk.cell_far _ (World.block_lt_of_cell? _ _ h3) (by rw [block_add]; intro e; injection e with e; exact HGZ.out ad h1 e)
            obtain ⟨ad, hA, hc⟩ := hzr k hlt
            have hzn := HWL.out _ (zed_mem Z k hlt)
            have HD := Lib.hid (zed_drop hlt)
            have c1 : World.cell? wr ⟨g, zed Z k, none⟩ = some (.int .i64 (f (zed Z k))) := (hRk.cell _).trans (rowOf_at _ _ _ hzn)
            have z1 := hRk.frozen (zed Z k)
            have hset := fun x : Int => (hRk.set_ (zed Z k) (.int .i64 x))
            simp only [rowOf_set] at hset
            have b1 : (0 : Int) ≤ k := by omega
            have b2 : (k : Int) < Z.length := by omega
            rcases Nat.eq_zero_or_pos k with h0 | h0
            · subst h0
              have hz0 := HW0.out
              have e0 : ((0 : Nat) : Int) = 0 := rfl
              rw [hz0] at HD c1 z1 hset hzn
              have hr0 : (0 : Int) ≤ r := by omega
              have HF2 : Hid (trnF (Z.drop 1) (r : Int) (updI f r (-1)) = trnF Z (-1) (pz P)) := Lib.hid (by rw [← HF.out, HD.out]; rfl)
              have HS := Lib.hid (hset (-1))
              clear hset hz0 hzr hc
              go_wp2_with fail
              go_roundw
              case rel => exact ⟨1, updI f r (-1), by omega, by go_num, Lib.hid (by rw [if_neg (by omega), HW0.out]; exact HF2.out), HS.out, grown_set hgk _ _⟩
              case measure => simp [intOf]; omega
            · obtain ⟨d, rfl⟩ : ∃ d, k = d + 1 := ⟨k - 1, by omega⟩
              obtain ⟨ad2, hA2, hc2⟩ := hzr d (by omega)
              obtain rfl : ad = ad2 := by rw [hA] at hA2; injection hA2
              subst hA
              have HF2 : Hid (trnF (Z.drop (d + 1 + 1)) (zed Z (d + 1) : Int) (updI f (zed Z (d + 1)) (zed Z d : Int)) = trnF Z (-1) (pz P)) := Lib.hid (by rw [← HF.out, HD.out, if_neg (by omega)]; rfl)
              have HS := Lib.hid (hset (zed Z d : Int))
              obtain ⟨x, hx⟩ : ∃ x, x = zed Z (d + 1) := ⟨_, rfl⟩
              rw [← hx] at hc c1 z1 HF2 HS hzn
              have HZN := Lib.hid hx
              clear hx
              generalize zed Z d = y at hc2 HF2 HS
              have b3 : (0 : Int) ≤ d := by omega
              have b4 : (d : Int) < Z.length := by omega
              have b5 : (0 : Int) ≤ x := by omega
              have b6 : (x : Int) < P.length := by omega
              have b7 : (0 : Int) ≤ (d : Int) + 1 := by omega
              have b8 : (d : Int) + 1 < Z.length := by omega
              have ht : ((d : Int) + 1).toNat = d + 1 := by omega
              have e0 : ((d : Int) + 1 == 0) = false := by rw [beq_eq_false_iff_ne]; omega
              have hw : IntKind.i64.wrap (d : Int) = d := IntWalk.i64_in _ (by omega)
              have hc' : World.cell? wr ⟨ad.block, ad.off + (d + 1), none⟩ = some (.int .i64 ((x : Nat) : Int)) := hc
              clear hset hzr hA2 HD
              go_upto_region 12 with fail
              go_region_law (fail)
              all_goals
                go_wp2_with fail
                go_roundw
                case rel => exact ⟨d + 1 + 1, updI f x y, by omega, by go_num, Lib.hid (by rw [if_neg (by omega)]; show trnF _ ((zed Z (d + 1) : Nat) : Int) _ = _; rw [← HZN.out]; exact HF2.out), HS.out, by first | exact grown_drewN (grown_set hgk _ _) 1 | exact grown_set (grown_drewN hgk 1) _ _⟩
                case measure => simp [intOf]; omega
          · obtain rfl : k = Z.length := by omega
            have HE : Hid (f = trnF Z (-1) (pz P)) := Lib.hid (by rw [← HF.out, List.drop_length]; rfl)
            go_wp2_with fail
            go_ret2
            refine ⟨_, _, _, rfl, ?_, HQ, hB2.trans (grown_to_below hgk (Nat.le_trans hb0.size hg) hB2.size)⟩
            have h2 := hRk.own (base := w.heap.size) (Nat.le_trans hb0.size hg) (by unfold maxLen; simp; omega)
            rw [← HE.out, rowOf_length]
            rw [is_length, rowOf_length] at h2
            exact h2
end Go.Proofs.Ytkenbmelhfhidaa
