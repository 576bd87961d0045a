/- The walk of osierlaw14.HyperWalks. -/
import Derived.Test.YtaongngoacbodaaDoorAwake14
import Derived.Test.YtaongngoacbodaaDoorWalksLaw
import Derived.Deep.RegionWith
import Derived.Deep.RegionHeld3
namespace Go.Proofs.YtaongngoacbodaaDoor
open Go.RowKit

attribute [local go_sem ↓] uz_and uz_or uz_andNot uz_and_one uz_shr uz_shl_one uz_shl uz_sub uz_sub_one uz_add uz_beq_zero uz_bne_zero uz_beq uz_bne uz_beq_one

theorem add14 (a : Addr) : a.add 0 = a := by unfold Addr.add; simp
theorem best_len {E : List (BitVec 32)} {s t V : Nat} {inner inn : BitVec 32} (h : Given E s t V inner inn) {p : List Nat} (hp : Best E s t inner p) : p.length ≤ V := by
  obtain ⟨h1, h2, h3⟩ := hp
  match p, h1, h2, h3 with
  | x :: r, h1, h2, h3 =>
    obtain rfl : x = s := by simpa using h2
    have hm : RMin E x t inner r.length x := by
      refine ⟨⟨r, h1, rfl⟩, fun m hm ⟨q, hq, hl⟩ => ?_⟩
      have h4 := h3 (x :: q) hq rfl
      unfold lessL at h4
      rw [if_neg (by simp; omega)] at h4
      simp at h4
      omega
    have := rmin_small h h.hsrc hm
    simp; omega
theorem pathIs_len {V : Int} {E : List (BitVec 32)} {s t : Int} {inner : BitVec 32} {Z : List Nat} {code : Int} (k : PathIs V E s t inner Z code) : Z.length ≤ 30 := by
  rcases k with ⟨_, _, rfl⟩ | ⟨_, _, _, rfl⟩ | ⟨_, _, _, _, _, _, _, rfl⟩ | ⟨a1, a2, a3, a4, a5, a6, _, ⟨rfl, _⟩ | hb⟩
  · simp
  · simp
  · simp
  · simp
  · obtain ⟨m, rfl⟩ := Int.eq_ofNat_of_zero_le a2
    obtain ⟨n, rfl⟩ := Int.eq_ofNat_of_zero_le a3
    have h1 := best_len (given_of (inner := inner) a1 a4 a5 (by omega)) hb
    have h2 := (validB_of a1).2.1
    omega

set_option maxHeartbeats 40000000 in
set_option maxRecDepth 100000 in
theorem law_walks (V : Int) (A : Option Addr) (E : List (BitVec 32)) (c : Nat) (s t : Int) (inner : BitVec 32) (w : World) (hl : E.length ≤ 35184372087808) (hE : Rd w w.heap.size A (us E)) (hT : Tab w) :
    Calls Tryd.prog 5 #[.agg #[.int .i64 V, .slice A E.length c, .int .i64 s, .int .i64 t, .int .u32 (uz inner)]] w fun e w' => e = .returned (.bool true) ∧ Below w.heap.size w w' := by
  go_enter Tryd.func5, Tryd.ntmps5
  go_upto_region 1 with fail
  have hb0 := below_alloc w (.cells #[.int .i64 V, .slice A E.length c, .int .i64 s, .int .i64 t, .int .u32 (uz inner)] 30)
  have hG0 : Row (w.alloc (.cells #[.int .i64 V, .slice A E.length c, .int .i64 s, .int .i64 t, .int .u32 (uz inner)] 30)) w.heap.size 30 [.int .i64 V, .slice A E.length c, .int .i64 s, .int .i64 t, .int .u32 (uz inner)] := Row.new _ _ _
  have c0 : (w.alloc (.cells #[.int .i64 V, .slice A E.length c, .int .i64 s, .int .i64 t, .int .u32 (uz inner)] 30)).cell? ⟨w.heap.size, 0, none⟩ = some (.int .i64 V) := hG0.cell 0
  have c1 : (w.alloc (.cells #[.int .i64 V, .slice A E.length c, .int .i64 s, .int .i64 t, .int .u32 (uz inner)] 30)).cell? ⟨w.heap.size, 1, none⟩ = some (.slice A E.length c) := hG0.cell 1
  have c2 : (w.alloc (.cells #[.int .i64 V, .slice A E.length c, .int .i64 s, .int .i64 t, .int .u32 (uz inner)] 30)).cell? ⟨w.heap.size, 2, none⟩ = some (.int .i64 s) := hG0.cell 2
  have c3 : (w.alloc (.cells #[.int .i64 V, .slice A E.length c, .int .i64 s, .int .i64 t, .int .u32 (uz inner)] 30)).cell? ⟨w.heap.size, 3, none⟩ = some (.int .i64 t) := hG0.cell 3
  have c4 : (w.alloc (.cells #[.int .i64 V, .slice A E.length c, .int .i64 s, .int .i64 t, .int .u32 (uz inner)] 30)).cell? ⟨w.heap.size, 4, none⟩ = some (.int .u32 (uz inner)) := hG0.cell 4
  have hlt0 : w.heap.size < (w.alloc (.cells #[.int .i64 V, .slice A E.length c, .int .i64 s, .int .i64 t, .int .u32 (uz inner)] 30)).heap.size := by simp
  generalize w.alloc _ = w0 at hb0 hG0 c0 c1 c2 c3 c4 hlt0 ⊢
  go_cut [3, 4, 5, 6] (fun p x y z wx => ∃ g, p = .pointer (some ⟨g, 0, none⟩) ∧ x = .int .i64 s ∧ y = .int .i64 t ∧ z = .int .u32 (uz inner) ∧ Row wx g 24 [.int .i64 V, .slice A E.length c] ∧ Below w.heap.size w wx)
  case first =>
    have q0 := fun o => Lib.hid (Tab_cell (below_alloc w0 o) c0)
    have q1 := fun o => Lib.hid (Tab_cell (below_alloc w0 o) c1)
    have q2 := fun o => Lib.hid (Tab_cell (below_alloc w0 o) c2)
    have q3 := fun o => Lib.hid (Tab_cell (below_alloc w0 o) c3)
    have q4 := fun o => Lib.hid (Tab_cell (below_alloc w0 o) c4)
    go_region_held3 (fun wx : World => wx.cell? ⟨w.heap.size, 0, none⟩ = some (.int .i64 V) ∧ wx.cell? ⟨w.heap.size, 1, none⟩ = some (.slice A E.length c) ∧ wx.cell? ⟨w.heap.size, 2, none⟩ = some (.int .i64 s) ∧ wx.cell? ⟨w.heap.size, 3, none⟩ = some (.int .i64 t) ∧ wx.cell? ⟨w.heap.size, 4, none⟩ = some (.int .u32 (uz inner))) (first | exact ⟨c0, c1, c2, c3, c4⟩ | exact ⟨(q0 _).out, (q1 _).out, (q2 _).out, (q3 _).out, (q4 _).out⟩) (first | fail)
    all_goals
      go_wp2_with fail
      go_meet
      exact ⟨_, rfl, rfl, rfl, rfl, Row.new _ _ _, (hb0.alloc hb0.size _).drew⟩
  case rest =>
    obtain ⟨g, rfl, rfl, rfl, rfl, hG, hB⟩ := hcut
    have d0 : wc.cell? ⟨g, 0, none⟩ = some (.int .i64 V) := hG.cell 0
    have d1 : wc.cell? ⟨g, 1, none⟩ = some (.slice A E.length c) := hG.cell 1
    go_wp2_with fail
    refine (copy_any V A E c wc hl (hE.later hB)).mono ?_
    rintro e w2 ⟨h, rfl, _, hRh, hb2⟩
    have hB2 := bthen hB hb2
    clear d0 d1
    go_wp2_with fail
    refine (path_any V s t inner (some ⟨h, 0, none⟩) E E.length w2 hl hRh.rd (hT.later hB2)).mono ?_
    rintro e w3 ⟨va, Z, k1, rfl, hownA, hPA, hb3⟩
    obtain ⟨Aa, ca, rfl, _, _, hZr, _⟩ := Rd.of_own hownA
    have hB3 := bthen hB2 hb3
    have hG3 := hG.later (bthen hb2 hb3)
    have hE3 := hE.later hB3
    have hT3 := hT.later hB3
    have hl30 := pathIs_len hPA.out
    clear hRh hownA hb2 hb3 hB2 hG hB
    by_cases hk1 : k1 = 0
    · subst hk1
      obtain ⟨hv, hs0, ht0, hsV, htV, _⟩ := pathIs_valid hPA.out
      have v30 := (validB_of hv).2.1
      have HV := Lib.hid hv
      have d0 : w3.cell? ⟨g, 0, none⟩ = some (.int .i64 V) := hG3.cell 0
      have d1 : w3.cell? ⟨g, 1, none⟩ = some (.slice A E.length c) := hG3.cell 1
      clear hv
      go_wp2_with fail
      refine (copy_any V A E c w3 hl hE3).mono ?_
      rintro e w4 ⟨h4, rfl, _, hRh, hb4⟩
      have hB4 := bthen hB3 hb4
      clear d0 d1
      go_wp2_with fail
      refine (path_any V t s inner (some ⟨h4, 0, none⟩) E E.length w4 hl hRh.rd (hT3.later hb4)).mono ?_
      rintro e w5 ⟨vb, Y, k2, rfl, hownB, hPB, hb5⟩
      obtain ⟨e1, hYZ⟩ := walks_back hPA.out hPB.out
      subst e1
      obtain ⟨Ab, cb, rfl, _, _, _, _⟩ := Rd.of_own hownB
      have hB5 := bthen hB4 hb5
      have hN5 := bthen hb4 hb5
      have hG5 := hG3.later hN5
      have hE5 := hE3.later hN5
      have hT5 := hT3.later hN5
      have hZ5 := hZr.later hN5
      have hyb : ((Y.length : Int) != (Z.length : Int)) = false := by simp [hYZ]
      have d0 : w5.cell? ⟨g, 0, none⟩ = some (.int .i64 V) := hG5.cell 0
      have d1 : w5.cell? ⟨g, 1, none⟩ = some (.slice A E.length c) := hG5.cell 1
      have HVA : Hid (Calls Tryd.prog 14 #[.agg #[.int .i64 V, .slice A E.length c]] w5 fun e w' => e = .returned (.bool true) ∧ Below w5.heap.size w5 w') := Lib.hid (by
        have := r14valid_any V A E c w5 hl hE5
        rwa [HV.out] at this)
      clear hPB hownB hRh hb4 hb5 hB3 hB4 hN5 hG3 hE3 hT3 hZr hYZ
      go_wp2_with fail
      refine HVA.out.mono ?_
      rintro e w6 ⟨rfl, hb6⟩
      have hB6 := bthen hB5 hb6
      have hG6 := hG5.later hb6
      have hE6 := hE5.later hb6
      have hT6 := hT5.later hb6
      have hZ6 := hZ5.later hb6
      clear HVA d0 d1 hyb hB5 hG5 hE5 hT5 hZ5 hb6
      by_cases hz : Z = []
      · subst hz
        obtain ⟨hn, hst⟩ := walks_none hPA.out
        have hsb : (s != t) = true := by simpa using hst
        have HNE : Hid (Calls Tryd.prog 18 #[.agg #[.int .i64 V, .slice A E.length c], .int .i64 s, .int .i64 t] w6 fun e w' => e = .returned (.bool false) ∧ Below w6.heap.size w6 w') := Lib.hid (by
          have := r14near_any V s t A E c w6 hl hE6
          rwa [hn] at this)
        have d0 : w6.cell? ⟨g, 0, none⟩ = some (.int .i64 V) := hG6.cell 0
        have d1 : w6.cell? ⟨g, 1, none⟩ = some (.slice A E.length c) := hG6.cell 1
        clear hn hst hPA
        go_wp2_with fail
        refine HNE.out.mono ?_
        rintro e w7 ⟨rfl, hb7⟩
        go_wp2_with fail
        refine (awake_any w7 (hT6.later hb7)).mono ?_
        rintro e w8 ⟨rfl, hb8⟩
        go_wp2_with fail
        go_ret
        exact ⟨rfl, bthen (bthen hB6 hb7) hb8⟩
      · obtain ⟨hpos, hz0, hzl, hznear, hzin, hzfar⟩ := walks_facts hPA.out hz
        have e0 : ((Z.length : Int) == 0) = false := by rw [beq_eq_false_iff_ne]; omega
        have HNR := Lib.hid hznear
        have HIN := Lib.hid hzin
        have HFA := Lib.hid hzfar
        obtain ⟨ad, hA, _, p0⟩ := hZ6.z_at hpos
        obtain ⟨ad2, hA2, _, p1⟩ := hZ6.z_at (show Z.length - 1 < Z.length by omega)
        obtain rfl : ad = ad2 := by rw [hA] at hA2; injection hA2
        rw [hz0, add14 ad] at p0
        rw [hzl] at p1
        subst hA
        have hpl : ((Z.length : Int) - 1).toNat = Z.length - 1 := by omega
        have hp1 : (0 : Int) ≤ (Z.length : Int) - 1 := by omega
        have b0 : (0 : Int) < Z.length := by omega
        have es : (s != s) = false := by simp
        have et : (t != t) = false := by simp
        have HK : Hid (∀ x, Below w6.heap.size w6 x → x.cell? ⟨g, 0, none⟩ = some (.int .i64 V) ∧ x.cell? ⟨g, 1, none⟩ = some (.slice A E.length c)) := Lib.hid fun x hx => ⟨(hG6.later hx).cell 0, (hG6.later hx).cell 1⟩
        have HZC : Hid (∀ x, Below w6.heap.size w6 x → ∀ k, k < Z.length → x.cell? (ad.add k) = some (.int .i64 (zed Z k : Nat))) := Lib.hid fun x hx k hk => by
          obtain ⟨ad2, e, _, hc⟩ := (hZ6.later hx).z_at hk
          obtain rfl : ad = ad2 := by injection e
          exact hc
        have HNB : Hid (∀ (v u : Int) x, Below w6.heap.size w6 x → Calls Tryd.prog 18 #[.agg #[.int .i64 V, .slice A E.length c], .int .i64 v, .int .i64 u] x fun e w' => e = .returned (.bool (nearB E v u)) ∧ Below w6.heap.size w6 w') := Lib.hid fun v u x hx =>
          (r14near_any V v u A E c x hl (hE6.later hx)).mono fun e w' ⟨he, hb⟩ => ⟨he, bthen hx hb⟩
        clear hz hznear hzin hzfar
        go_wp2_with fail
        clear p0 p1 es et hpl hp1
        go_loopw [97] (fun i wr => ∃ k : Nat, k ≤ Z.length ∧ i = .int .i64 k ∧ Below w6.heap.size w6 wr) (fun i _ => Z.length - (intOf i).toNat)
        case atStart => exact ⟨0, Nat.zero_le _, rfl, Below.refl _ _⟩
        case round =>
          obtain ⟨k, hk, rfl, hb⟩ := hrel
          by_cases hlt : k < Z.length
          · have b1 : (0 : Int) ≤ k := by omega
            have b2 : (k : Int) < Z.length := by omega
            go_upto_region 15 with fail
            go_cut [135] (fun t wx => t = .bool false ∧ Below w6.heap.size w6 wx)
            case first =>
              by_cases k0 : k = 0
              · have gt : decide (0 < k) = false := decide_eq_false (by omega)
                clear k0
                go_wp2_with fail
                go_quiet (fail)
                go_wp2_with fail
                go_meet
                exact ⟨rfl, below_drewN hb _⟩
              · obtain ⟨m, hm⟩ : ∃ m, k = m + 1 := ⟨k - 1, by omega⟩
                have gt : decide (0 < k) = true := decide_eq_true (by omega)
                have hkm : IntKind.i64.wrap ((k : Int) - 1) = (m : Int) := by rw [show (k : Int) - 1 = m by omega]; exact IntWalk.i64_in _ (by omega)
                have m1 : (0 : Int) ≤ m := by omega
                have m2 : (m : Int) < Z.length := by omega
                have hnl : IntKind.i64.wrap ((Z.length : Int) - 1) = (Z.length : Int) - 1 := IntWalk.i64_in _ (by omega)
                have HC : Hid (∀ x, Below w6.heap.size w6 x → (x.cell? ⟨g, 0, none⟩ = some (.int .i64 V) ∧ x.cell? ⟨g, 1, none⟩ = some (.slice A E.length c)) ∧ x.cell? (ad.add k) = some (.int .i64 (zed Z k : Nat)) ∧ x.cell? (ad.add m) = some (.int .i64 (zed Z m : Nat))) := Lib.hid fun x hx => ⟨HK.out x hx, HZC.out x hx k hlt, HZC.out x hx m (by omega)⟩
                have HN1 : Hid (∀ x, Below w6.heap.size w6 x → Calls Tryd.prog 18 #[.agg #[.int .i64 V, .slice A E.length c], .int .i64 (zed Z m : Nat), .int .i64 (zed Z k : Nat)] x fun e w' => e = .returned (.bool true) ∧ Below w6.heap.size w6 w') := Lib.hid fun x hx => by
                  have h1 := HNB.out (zed Z m : Nat) (zed Z k : Nat) x hx
                  have h2 := HNR.out m (by omega)
                  rw [← hm] at h2
                  rwa [h2] at h1
                by_cases hl1 : k + 1 < Z.length
                · have hin : inB inner (zed Z k : Nat) = true := HIN.out k (by omega) hl1
                  have ltb : decide ((k : Int) < (Z.length : Int) - 1) = true := decide_eq_true (by omega)
                  clear HNR HIN HFA hPA k0 hm hl1
                  generalize zed Z k = zk at HC HN1 hin
                  generalize zed Z m = zm at HC HN1
                  go_region_held3 (fun x : World => Below w6.heap.size w6 x ∧ (x.cell? ⟨g, 0, none⟩ = some (.int .i64 V) ∧ x.cell? ⟨g, 1, none⟩ = some (.slice A E.length c)) ∧ x.cell? (ad.add k) = some (.int .i64 zk) ∧ x.cell? (ad.add m) = some (.int .i64 zm))
                    (first | exact ⟨hb, HC.out _ hb⟩ | exact ⟨by assumption, HC.out _ (by assumption)⟩ | exact ⟨below_drewN (by assumption) 1, HC.out _ (below_drewN (by assumption) 1)⟩)
                    (first | (go_at_call 18; refine (HN1.out _ (by first | assumption | exact below_drewN (by assumption) 1)).mono ?_; rintro e w7 ⟨rfl, hb7⟩) | (go_at_call 19; refine (in_any _ _ _).mono ?_; rintro e w' ⟨rfl, rfl⟩))
                  all_goals
                    go_wp2_with fail
                    go_meet
                    exact ⟨by first | rfl | simp [hin, hkm, hnl, ltb], by assumption⟩
                · have ltb : decide ((k : Int) < (Z.length : Int) - 1) = false := decide_eq_false (by omega)
                  clear HNR HIN HFA hPA k0 hm hl1
                  generalize zed Z k = zk at HC HN1
                  generalize zed Z m = zm at HC HN1
                  refine wp_region_held_drew (S := (fun x : World => Below w6.heap.size w6 x ∧ (x.cell? ⟨g, 0, none⟩ = some (.int .i64 V) ∧ x.cell? ⟨g, 1, none⟩ = some (.slice A E.length c)) ∧ x.cell? (ad.add k) = some (.int .i64 zk) ∧ x.cell? (ad.add m) = some (.int .i64 zm))) (by kernel_rfl) ⟨below_drewN hb 1, HC.out _ (below_drewN hb 1)⟩ (fun hHeld => ?_)
                  refine' wpAnyH_take (i := 0) (oi := ?o0) (v := ?v0) ?hi0 (by kernel_rfl) (by kernel_rfl) (by kernel_rfl) ?hQ0 ?hy0 hHeld ?rest0
                  case hi0 => (simp only [List.getElem?_toArray, List.getElem?_cons_zero]; rfl)
                  case hQ0 => exact fun _ _ _ h => h
                  case hy0 => (refine Or.inl ⟨by rfl, ?_⟩; intro w hSw; (try dsimp only at hSw); go_simp; (try with_reducible rfl))
                  try simp only [Act.put, List.setIfInBounds_toArray, List.set_cons_zero, List.set_cons_succ]
                  refine' wpAnyH_take (i := 1) (oi := ?o1) (v := ?v1) ?hi1 (by kernel_rfl) (by kernel_rfl) (by kernel_rfl) ?hQ1 ?hy1 hHeld ?rest1
                  case hi1 => (simp only [List.getElem?_toArray, List.getElem?_cons_succ, List.getElem?_cons_zero]; rfl)
                  case hQ1 => exact fun _ _ _ h => h
                  case hy1 => (refine Or.inl ⟨by rfl, ?_⟩; intro w hSw; (try dsimp only at hSw); go_simp; (try with_reducible rfl))
                  try simp only [Act.put, List.setIfInBounds_toArray, List.set_cons_zero, List.set_cons_succ]
                  refine' wpAnyH_take (i := 2) (oi := ?o2) (v := ?v2) ?hi2 (by kernel_rfl) (by kernel_rfl) (by kernel_rfl) ?hQ2 ?hy2 hHeld ?rest2
                  case hi2 => (simp only [List.getElem?_toArray, List.getElem?_cons_succ, List.getElem?_cons_zero]; rfl)
                  case hQ2 => exact fun _ _ _ h => h
                  case hy2 => (refine Or.inl ⟨by rfl, ?_⟩; intro w hSw; (try dsimp only at hSw); go_simp; (try with_reducible rfl))
                  try simp only [Act.put, List.setIfInBounds_toArray, List.set_cons_zero, List.set_cons_succ]
                  refine' wpAnyH_take (i := 3) (oi := ?o3) (v := ?v3) ?hi3 (by kernel_rfl) (by kernel_rfl) (by kernel_rfl) ?hQ3 ?hy3 hHeld ?rest3
                  case hi3 => (simp only [List.getElem?_toArray, List.getElem?_cons_succ, List.getElem?_cons_zero]; rfl)
                  case hQ3 => exact fun _ _ _ h => h
                  case hy3 => (refine Or.inl ⟨by rfl, ?_⟩; intro w hSw; (try dsimp only at hSw); go_simp; (try with_reducible rfl))
                  try simp only [Act.put, List.setIfInBounds_toArray, List.set_cons_zero, List.set_cons_succ]
                  refine' wpAnyH_take (i := 4) (oi := ?o4) (v := ?v4) ?hi4 (by kernel_rfl) (by kernel_rfl) (by kernel_rfl) ?hQ4 ?hy4 hHeld ?rest4
                  case hi4 => (simp only [List.getElem?_toArray, List.getElem?_cons_succ, List.getElem?_cons_zero]; rfl)
                  case hQ4 => exact fun _ _ _ h => h
                  case hy4 => (refine Or.inl ⟨by rfl, ?_⟩; intro w hSw; (try dsimp only at hSw); go_simp; (try with_reducible rfl))
                  try simp only [Act.put, List.setIfInBounds_toArray, List.set_cons_zero, List.set_cons_succ]
                  refine' wpAnyH_take (i := 5) (oi := ?o5) (v := ?v5) ?hi5 (by kernel_rfl) (by kernel_rfl) (by kernel_rfl) ?hQ5 ?hy5 hHeld ?rest5
                  case hi5 => (simp only [List.getElem?_toArray, List.getElem?_cons_succ, List.getElem?_cons_zero]; rfl)
                  case hQ5 => exact fun _ _ _ h => h
                  case hy5 => (refine Or.inl ⟨by rfl, ?_⟩; intro w hSw; (try dsimp only at hSw); go_simp; (try with_reducible rfl))
                  try simp only [Act.put, List.setIfInBounds_toArray, List.set_cons_zero, List.set_cons_succ]
                  refine' wpAnyH_take (i := 6) (oi := ?o6) (v := ?v6) ?hi6 (by kernel_rfl) (by kernel_rfl) (by kernel_rfl) ?hQ6 ?hy6 hHeld ?rest6
                  case hi6 => (simp only [List.getElem?_toArray, List.getElem?_cons_succ, List.getElem?_cons_zero]; rfl)
                  case hQ6 => exact fun _ _ _ h => h
                  case hy6 => (refine Or.inl ⟨by rfl, ?_⟩; intro w hSw; (try dsimp only at hSw); go_simp; (try with_reducible rfl))
                  try simp only [Act.put, List.setIfInBounds_toArray, List.set_cons_zero, List.set_cons_succ]
                  refine' wpAnyH_take (i := 7) (oi := ?o7) (v := ?v7) ?hi7 (by kernel_rfl) (by kernel_rfl) (by kernel_rfl) ?hQ7 ?hy7 hHeld ?rest7
                  case hi7 => (simp only [List.getElem?_toArray, List.getElem?_cons_succ, List.getElem?_cons_zero]; rfl)
                  case hQ7 => exact fun _ _ _ h => h
                  case hy7 => (refine Or.inl ⟨by rfl, ?_⟩; intro w hSw; (try dsimp only at hSw); go_simp; (try with_reducible rfl))
                  try simp only [Act.put, List.setIfInBounds_toArray, List.set_cons_zero, List.set_cons_succ]
                  refine' wpAnyH_take (i := 8) (oi := ?o8) (v := ?v8) ?hi8 (by kernel_rfl) (by kernel_rfl) (by kernel_rfl) ?hQ8 ?hy8 hHeld ?rest8
                  case hi8 => (simp only [List.getElem?_toArray, List.getElem?_cons_succ, List.getElem?_cons_zero]; rfl)
                  case hQ8 => exact fun _ _ _ h => h
                  case hy8 => (refine Or.inl ⟨by rfl, ?_⟩; intro w hSw; (try dsimp only at hSw); go_simp; (try with_reducible rfl))
                  try simp only [Act.put, List.setIfInBounds_toArray, List.set_cons_zero, List.set_cons_succ]
                  refine' wpAnyH_take (i := 9) (oi := ?o9) (v := ?v9) ?hi9 (by kernel_rfl) (by kernel_rfl) (by kernel_rfl) ?hQ9 ?hy9 hHeld ?rest9
                  case hi9 => (simp only [List.getElem?_toArray, List.getElem?_cons_succ, List.getElem?_cons_zero]; rfl)
                  case hQ9 => exact fun _ _ _ h => h
                  case hy9 => (refine Or.inl ⟨by rfl, ?_⟩; intro w hSw; (try dsimp only at hSw); go_simp; (try with_reducible rfl))
                  try simp only [Act.put, List.setIfInBounds_toArray, List.set_cons_zero, List.set_cons_succ]
                  refine' wpAnyH_take (i := 10) (oi := ?o10) (v := ?v10) ?hi10 (by kernel_rfl) (by kernel_rfl) (by kernel_rfl) ?hQ10 ?hy10 hHeld ?rest10
                  case hi10 => (simp only [List.getElem?_toArray, List.getElem?_cons_succ, List.getElem?_cons_zero]; rfl)
                  case hQ10 => exact fun _ _ _ h => h
                  case hy10 => (refine Or.inl ⟨by rfl, ?_⟩; intro w hSw; (try dsimp only at hSw); go_simp; (try with_reducible rfl))
                  try simp only [Act.put, List.setIfInBounds_toArray, List.set_cons_zero, List.set_cons_succ]
                  refine' wpAnyH_take (i := 11) (oi := ?o11) (v := ?v11) ?hi11 (by kernel_rfl) (by kernel_rfl) (by kernel_rfl) ?hQ11 ?hy11 hHeld ?rest11
                  case hi11 => (simp only [List.getElem?_toArray, List.getElem?_cons_succ, List.getElem?_cons_zero]; rfl)
                  case hQ11 => exact fun _ _ _ h => h
                  case hy11 => (refine Or.inl ⟨by rfl, ?_⟩; intro w hSw; (try dsimp only at hSw); go_simp; (try with_reducible rfl))
                  try simp only [Act.put, List.setIfInBounds_toArray, List.set_cons_zero, List.set_cons_succ]
                  refine' wpAnyH_take (i := 12) (oi := ?o12) (v := ?v12) ?hi12 (by kernel_rfl) (by kernel_rfl) (by kernel_rfl) ?hQ12 ?hy12 hHeld ?rest12
                  case hi12 => (simp only [List.getElem?_toArray, List.getElem?_cons_succ, List.getElem?_cons_zero]; rfl)
                  case hQ12 => exact fun _ _ _ h => h
                  case hy12 => (refine Or.inl ⟨by rfl, ?_⟩; intro w hSw; (try dsimp only at hSw); go_simp; (try with_reducible rfl))
                  try simp only [Act.put, List.setIfInBounds_toArray, List.set_cons_zero, List.set_cons_succ]
                  refine wpAnyH_ready (rs := [13]) (by kernel_rfl) (by simp) ?_
                  refine AllReadyH.cons rfl (fun K hK => ?_) AllReadyH.nil
                  go_simp
                  go_at_call 18
                  refine (HN1.out _ (below_drewN hb 1)).mono ?_
                  rintro e w7 ⟨rfl, hb7⟩
                  go_wp2_with fail
                  refine hK.out _ _ ⟨hb7, HC.out _ hb7⟩ (fun hHeld2 => ?_)
                  clear hK K hHeld
                  try simp only [Act.put, List.setIfInBounds_toArray, List.set_cons_zero, List.set_cons_succ]
                  refine' wpAnyH_take (i := 14) (oi := ?o14) (v := ?v14) ?hi14 (by kernel_rfl) (by kernel_rfl) (by kernel_rfl) ?hQ14 ?hy14 hHeld2 ?rest14
                  case hi14 => (simp only [List.getElem?_toArray, List.getElem?_cons_succ, List.getElem?_cons_zero]; rfl)
                  case hQ14 => exact fun _ _ _ h => h
                  case hy14 => (refine Or.inl ⟨by rfl, ?_⟩; intro w hSw; (try dsimp only at hSw); go_simp; (try with_reducible rfl))
                  try simp only [Act.put, List.setIfInBounds_toArray, List.set_cons_zero, List.set_cons_succ]
                  refine' wpAnyH_take (i := 15) (oi := ?o15) (v := ?v15) ?hi15 (by kernel_rfl) (by kernel_rfl) (by kernel_rfl) ?hQ15 ?hy15 hHeld2 ?rest15
                  case hi15 => (simp only [List.getElem?_toArray, List.getElem?_cons_succ, List.getElem?_cons_zero]; rfl)
                  case hQ15 => exact fun _ _ _ h => h
                  case hy15 => (refine Or.inl ⟨by rfl, ?_⟩; intro w hSw; (try dsimp only at hSw); go_simp; (try with_reducible rfl))
                  try simp only [Act.put, List.setIfInBounds_toArray, List.set_cons_zero, List.set_cons_succ]
                  refine' wpAnyH_take (i := 16) (oi := ?o16) (v := ?v16) ?hi16 (by kernel_rfl) (by kernel_rfl) (by kernel_rfl) ?hQ16 ?hy16 hHeld2 ?rest16
                  case hi16 => (simp only [List.getElem?_toArray, List.getElem?_cons_succ, List.getElem?_cons_zero]; rfl)
                  case hQ16 => exact fun _ _ _ h => h
                  case hy16 => (refine Or.inl ⟨by rfl, ?_⟩; intro w hSw; (try dsimp only at hSw); go_simp; (try with_reducible rfl))
                  try simp only [Act.put, List.setIfInBounds_toArray, List.set_cons_zero, List.set_cons_succ]
                  refine' wpAnyH_take (i := 17) (oi := ?o17) (v := ?v17) ?hi17 (by kernel_rfl) (by kernel_rfl) (by kernel_rfl) ?hQ17 ?hy17 hHeld2 ?rest17
                  case hi17 => (simp only [List.getElem?_toArray, List.getElem?_cons_succ, List.getElem?_cons_zero]; rfl)
                  case hQ17 => exact fun _ _ _ h => h
                  case hy17 => (refine Or.inl ⟨by rfl, ?_⟩; intro w hSw; (try dsimp only at hSw); go_simp; (try with_reducible rfl))
                  try simp only [Act.put, List.setIfInBounds_toArray, List.set_cons_zero, List.set_cons_succ]
                  refine' wpAnyH_take (i := 18) (oi := ?o18) (v := ?v18) ?hi18 (by kernel_rfl) (by kernel_rfl) (by kernel_rfl) ?hQ18 ?hy18 hHeld2 ?rest18
                  case hi18 => (simp only [List.getElem?_toArray, List.getElem?_cons_succ, List.getElem?_cons_zero]; rfl)
                  case hQ18 => exact fun _ _ _ h => h
                  case hy18 => (refine Or.inl ⟨by rfl, ?_⟩; intro w hSw; (try dsimp only at hSw); go_simp; (try with_reducible rfl))
                  try simp only [Act.put, List.setIfInBounds_toArray, List.set_cons_zero, List.set_cons_succ]
                  refine' wpAnyH_take (i := 19) (oi := ?o19) (v := ?v19) ?hi19 (by kernel_rfl) (by kernel_rfl) (by kernel_rfl) ?hQ19 ?hy19 hHeld2 ?rest19
                  case hi19 => (simp only [List.getElem?_toArray, List.getElem?_cons_succ, List.getElem?_cons_zero]; rfl)
                  case hQ19 => exact fun _ _ _ h => h
                  case hy19 => (refine Or.inl ⟨by rfl, ?_⟩; intro w hSw; (try dsimp only at hSw); go_simp; (try with_reducible rfl))
                  try simp only [Act.put, List.setIfInBounds_toArray, List.set_cons_zero, List.set_cons_succ]
                  refine' wpAnyH_take (i := 20) (oi := ?o20) (v := ?v20) ?hi20 (by kernel_rfl) (by kernel_rfl) (by kernel_rfl) ?hQ20 ?hy20 hHeld2 ?rest20
                  case hi20 => (simp only [List.getElem?_toArray, List.getElem?_cons_succ, List.getElem?_cons_zero]; rfl)
                  case hQ20 => exact fun _ _ _ h => h
                  case hy20 => (refine Or.inl ⟨by rfl, ?_⟩; intro w hSw; (try dsimp only at hSw); go_simp; (try with_reducible rfl))
                  try simp only [Act.put, List.setIfInBounds_toArray, List.set_cons_zero, List.set_cons_succ]
                  refine' wpAnyH_take (i := 21) (oi := ?o21) (v := ?v21) ?hi21 (by kernel_rfl) (by kernel_rfl) (by kernel_rfl) ?hQ21 ?hy21 hHeld2 ?rest21
                  case hi21 => (simp only [List.getElem?_toArray, List.getElem?_cons_succ, List.getElem?_cons_zero]; rfl)
                  case hQ21 => exact fun _ _ _ h => h
                  case hy21 => (refine Or.inl ⟨by rfl, ?_⟩; intro w hSw; (try dsimp only at hSw); go_simp; (try with_reducible rfl))
                  try simp only [Act.put, List.setIfInBounds_toArray, List.set_cons_zero, List.set_cons_succ]
                  refine' wpAnyH_take (i := 22) (oi := ?o22) (v := ?v22) ?hi22 (by kernel_rfl) (by kernel_rfl) (by kernel_rfl) ?hQ22 ?hy22 hHeld2 ?rest22
                  case hi22 => (simp only [List.getElem?_toArray, List.getElem?_cons_succ, List.getElem?_cons_zero]; rfl)
                  case hQ22 => exact fun _ _ _ h => h
                  case hy22 => (refine Or.inl ⟨by rfl, ?_⟩; intro w hSw; (try dsimp only at hSw); go_simp; (try with_reducible rfl))
                  try simp only [Act.put, List.setIfInBounds_toArray, List.set_cons_zero, List.set_cons_succ]
                  refine' wpAnyH_take (i := 23) (oi := ?o23) (v := ?v23) ?hi23 (by kernel_rfl) (by kernel_rfl) (by kernel_rfl) ?hQ23 ?hy23 hHeld2 ?rest23
                  case hi23 => (simp only [List.getElem?_toArray, List.getElem?_cons_succ, List.getElem?_cons_zero]; rfl)
                  case hQ23 => exact fun _ _ _ h => h
                  case hy23 => (refine Or.inl ⟨by rfl, ?_⟩; intro w hSw; (try dsimp only at hSw); go_simp; (try with_reducible rfl))
                  try simp only [Act.put, List.setIfInBounds_toArray, List.set_cons_zero, List.set_cons_succ]
                  refine' wpAnyH_take (i := 24) (oi := ?o24) (v := ?v24) ?hi24 (by kernel_rfl) (by kernel_rfl) (by kernel_rfl) ?hQ24 ?hy24 hHeld2 ?rest24
                  case hi24 => (simp only [List.getElem?_toArray, List.getElem?_cons_succ, List.getElem?_cons_zero]; rfl)
                  case hQ24 => exact fun _ _ _ h => h
                  case hy24 => (refine Or.inl ⟨by rfl, ?_⟩; intro w hSw; (try dsimp only at hSw); go_simp; (try with_reducible rfl))
                  try simp only [Act.put, List.setIfInBounds_toArray, List.set_cons_zero, List.set_cons_succ]
                  refine' wpAnyH_take (i := 25) (oi := ?o25) (v := ?v25) ?hi25 (by kernel_rfl) (by kernel_rfl) (by kernel_rfl) ?hQ25 ?hy25 hHeld2 ?rest25
                  case hi25 => (simp only [List.getElem?_toArray, List.getElem?_cons_succ, List.getElem?_cons_zero]; rfl)
                  case hQ25 => exact fun _ _ _ h => h
                  case hy25 => (refine Or.inl ⟨by rfl, ?_⟩; intro w hSw; (try dsimp only at hSw); go_simp; (try with_reducible rfl))
                  try simp only [Act.put, List.setIfInBounds_toArray, List.set_cons_zero, List.set_cons_succ]
                  refine' wpAnyH_take (i := 26) (oi := ?o26) (v := ?v26) ?hi26 (by kernel_rfl) (by kernel_rfl) (by kernel_rfl) ?hQ26 ?hy26 hHeld2 ?rest26
                  case hi26 => (simp only [List.getElem?_toArray, List.getElem?_cons_succ, List.getElem?_cons_zero]; rfl)
                  case hQ26 => exact fun _ _ _ h => h
                  case hy26 => (refine Or.inl ⟨by rfl, ?_⟩; intro w hSw; (try dsimp only at hSw); go_simp; (try with_reducible rfl))
                  try simp only [Act.put, List.setIfInBounds_toArray, List.set_cons_zero, List.set_cons_succ]
                  refine' wpAnyH_take (i := 27) (oi := ?o27) (v := undef) ?hi27 (by kernel_rfl) (by kernel_rfl) (by kernel_rfl) ?hQ27 ?hy27 hHeld2 ?rest27
                  case hi27 => (simp only [List.getElem?_toArray, List.getElem?_cons_succ, List.getElem?_cons_zero]; rfl)
                  case hQ27 => exact fun _ _ _ h => h
                  case hy27 => exact Or.inr ⟨by rfl, rfl⟩
                  try simp only [Act.put, List.setIfInBounds_toArray, List.set_cons_zero, List.set_cons_succ]
                  refine' wpAnyH_take (i := 28) (oi := ?o28) (v := undef) ?hi28 (by kernel_rfl) (by kernel_rfl) (by kernel_rfl) ?hQ28 ?hy28 hHeld2 ?rest28
                  case hi28 => (simp only [List.getElem?_toArray, List.getElem?_cons_succ, List.getElem?_cons_zero]; rfl)
                  case hQ28 => exact fun _ _ _ h => h
                  case hy28 => exact Or.inr ⟨by rfl, rfl⟩
                  try simp only [Act.put, List.setIfInBounds_toArray, List.set_cons_zero, List.set_cons_succ]
                  refine' wpAnyH_take (i := 29) (oi := ?o29) (v := undef) ?hi29 (by kernel_rfl) (by kernel_rfl) (by kernel_rfl) ?hQ29 ?hy29 hHeld2 ?rest29
                  case hi29 => (simp only [List.getElem?_toArray, List.getElem?_cons_succ, List.getElem?_cons_zero]; rfl)
                  case hQ29 => exact fun _ _ _ h => h
                  case hy29 => exact Or.inr ⟨by rfl, rfl⟩
                  try simp only [Act.put, List.setIfInBounds_toArray, List.set_cons_zero, List.set_cons_succ]
                  refine' wpAnyH_take (i := 30) (oi := ?o30) (v := undef) ?hi30 (by kernel_rfl) (by kernel_rfl) (by kernel_rfl) ?hQ30 ?hy30 hHeld2 ?rest30
                  case hi30 => (simp only [List.getElem?_toArray, List.getElem?_cons_succ, List.getElem?_cons_zero]; rfl)
                  case hQ30 => exact fun _ _ _ h => h
                  case hy30 => exact Or.inr ⟨by rfl, rfl⟩
                  try simp only [Act.put, List.setIfInBounds_toArray, List.set_cons_zero, List.set_cons_succ]
                  refine' wpAnyH_take (i := 31) (oi := ?o31) (v := undef) ?hi31 (by kernel_rfl) (by kernel_rfl) (by kernel_rfl) ?hQ31 ?hy31 hHeld2 ?rest31
                  case hi31 => (simp only [List.getElem?_toArray, List.getElem?_cons_succ, List.getElem?_cons_zero]; rfl)
                  case hQ31 => exact fun _ _ _ h => h
                  case hy31 => exact Or.inr ⟨by rfl, rfl⟩
                  try simp only [Act.put, List.setIfInBounds_toArray, List.set_cons_zero, List.set_cons_succ]
                  refine' wpAnyH_take (i := 32) (oi := ?o32) (v := undef) ?hi32 (by kernel_rfl) (by kernel_rfl) (by kernel_rfl) ?hQ32 ?hy32 hHeld2 ?rest32
                  case hi32 => (simp only [List.getElem?_toArray, List.getElem?_cons_succ, List.getElem?_cons_zero]; rfl)
                  case hQ32 => exact fun _ _ _ h => h
                  case hy32 => exact Or.inr ⟨by rfl, rfl⟩
                  try simp only [Act.put, List.setIfInBounds_toArray, List.set_cons_zero, List.set_cons_succ]
                  refine' wpAnyH_take (i := 33) (oi := ?o33) (v := undef) ?hi33 (by kernel_rfl) (by kernel_rfl) (by kernel_rfl) ?hQ33 ?hy33 hHeld2 ?rest33
                  case hi33 => (simp only [List.getElem?_toArray, List.getElem?_cons_succ, List.getElem?_cons_zero]; rfl)
                  case hQ33 => exact fun _ _ _ h => h
                  case hy33 => exact Or.inr ⟨by rfl, rfl⟩
                  try simp only [Act.put, List.setIfInBounds_toArray, List.set_cons_zero, List.set_cons_succ]
                  refine' wpAnyH_take (i := 34) (oi := ?o34) (v := ?v34) ?hi34 (by kernel_rfl) (by kernel_rfl) (by kernel_rfl) ?hQ34 ?hy34 hHeld2 ?rest34
                  case hi34 => (simp only [List.getElem?_toArray, List.getElem?_cons_succ, List.getElem?_cons_zero]; rfl)
                  case hQ34 => exact fun _ _ _ h => h
                  case hy34 => (refine Or.inl ⟨by rfl, ?_⟩; intro w hSw; (try dsimp only at hSw); go_simp; (try with_reducible rfl))
                  try simp only [Act.put, List.setIfInBounds_toArray, List.set_cons_zero, List.set_cons_succ]
                  refine' wpAnyH_take (i := 35) (oi := ?o35) (v := ?v35) ?hi35 (by kernel_rfl) (by kernel_rfl) (by kernel_rfl) ?hQ35 ?hy35 hHeld2 ?rest35
                  case hi35 => (simp only [List.getElem?_toArray, List.getElem?_cons_succ, List.getElem?_cons_zero]; rfl)
                  case hQ35 => exact fun _ _ _ h => h
                  case hy35 => (refine Or.inl ⟨by rfl, ?_⟩; intro w hSw; (try dsimp only at hSw); go_simp; (try with_reducible rfl))
                  try simp only [Act.put, List.setIfInBounds_toArray, List.set_cons_zero, List.set_cons_succ]
                  refine wpAnyH_done (by kernel_rfl) ?_ _
                  go_wp2_with fail
                  go_meet
                  exact ⟨by first | rfl | simp [hkm, hnl, ltb], hb7⟩
            case rest =>
              obtain ⟨rfl, hbc⟩ := hcut
              clear hb
              go_wp2_with fail
              go_loopg [12] k (fun gk j wr => ∃ m : Nat, m ≤ k ∧ gk = k - m ∧ j = .int .i64 m ∧ Below w6.heap.size w6 wr)
              case atStart => exact ⟨0, Nat.zero_le _, rfl, rfl, hbc⟩
              clear hbc
              case round =>
                obtain ⟨m, hm, rfl, rfl, hb⟩ := hrel
                by_cases hmk : m + 1 < k
                · have m0 : (m : Int) + 1 < k := by omega
                  have m1 : (0 : Int) ≤ m := by omega
                  have m2 : (m : Int) < Z.length := by omega
                  have HC : Hid (∀ x, Below w6.heap.size w6 x → (x.cell? ⟨g, 0, none⟩ = some (.int .i64 V) ∧ x.cell? ⟨g, 1, none⟩ = some (.slice A E.length c)) ∧ x.cell? (ad.add k) = some (.int .i64 (zed Z k : Nat)) ∧ x.cell? (ad.add m) = some (.int .i64 (zed Z m : Nat))) := Lib.hid fun x hx => ⟨HK.out x hx, HZC.out x hx k hlt, HZC.out x hx m (by omega)⟩
                  obtain ⟨hf, hd⟩ := HFA.out k m hmk hlt
                  have hdb : (((zed Z k : Nat) : Int) == ((zed Z m : Nat) : Int)) = false := by rw [beq_eq_false_iff_ne]; omega
                  have HN1 : Hid (∀ x, Below w6.heap.size w6 x → Calls Tryd.prog 18 #[.agg #[.int .i64 V, .slice A E.length c], .int .i64 (zed Z m : Nat), .int .i64 (zed Z k : Nat)] x fun e w' => e = .returned (.bool false) ∧ Below w6.heap.size w6 w') := Lib.hid fun x hx => by
                    have h1 := HNB.out (zed Z m : Nat) (zed Z k : Nat) x hx
                    rwa [hf] at h1
                  clear hf hd
                  go_upto_region 20 with fail
                  go_cut [162] (fun t wx => t = .bool false ∧ Below w6.heap.size w6 wx)
                  case first =>
                    clear HNR HIN HFA hPA
                    generalize zed Z k = zk at HC HN1 hdb
                    generalize zed Z m = zm at HC HN1 hdb
                    go_region_held3 (fun x : World => Below w6.heap.size w6 x ∧ (x.cell? ⟨g, 0, none⟩ = some (.int .i64 V) ∧ x.cell? ⟨g, 1, none⟩ = some (.slice A E.length c)) ∧ x.cell? (ad.add k) = some (.int .i64 zk) ∧ x.cell? (ad.add m) = some (.int .i64 zm))
                      (first | exact ⟨hb, HC.out _ hb⟩ | exact ⟨by assumption, HC.out _ (by assumption)⟩ | exact ⟨below_drewN (by assumption) 1, HC.out _ (below_drewN (by assumption) 1)⟩)
                      (first | (go_at_call 18; refine (HN1.out _ (by first | assumption | exact below_drewN (by assumption) 1)).mono ?_; rintro e w7 ⟨rfl, hb7⟩))
                    all_goals
                      go_wp2_with fail
                      go_meet
                      exact ⟨by first | rfl | simp [hdb], by assumption⟩
                  case rest =>
                    obtain ⟨rfl, hbd⟩ := hcut
                    clear hb HC HN1 hdb
                    go_wp2_with fail
                    go_roundg (k - (m + 1))
                    case measure => omega
                    case rel => exact ⟨m + 1, by omega, rfl, by go_num, hbd⟩
                · have m0 : decide ((m : Int) + 1 < (k : Int)) = false := decide_eq_false (by omega)
                  go_wp2_with fail
                  go_roundw
                  case rel => exact ⟨k + 1, by omega, by go_num, hb⟩
                  case measure => simp [intOf]; omega
          · obtain rfl : k = Z.length := by omega
            obtain ⟨n, rfl⟩ : ∃ n : Nat, V = n := ⟨V.toNat, by omega⟩
            have hTb : Hid (∀ x, Below w6.heap.size w6 x → Tab x) := Lib.hid fun x hx => hT6.later hx
            have HEB : Hid (∀ x, Below w6.heap.size w6 x → Rd x x.heap.size A (us E)) := Lib.hid fun x hx => hE6.later hx
            have HBS := Lib.hid (fun (v : Nat) (Y : List Nat) (k2 : Int) h1 h2 h3 h4 h5 => walks_beside (v := v) (Y := Y) (k := k2) hPA.out h1 h2 h3 h4 h5)
            clear HNR HIN HFA hlt hk hPA HZC
            go_wp2_with fail
            go_loopw [13] (fun i wr => ∃ v : Nat, v ≤ n ∧ i = .int .i64 v ∧ Below w6.heap.size w6 wr) (fun i _ => n - (intOf i).toNat)
            case atStart => exact ⟨0, Nat.zero_le _, rfl, hb⟩
            clear hb
            case round =>
              obtain ⟨v, hvn, rfl, hb⟩ := hrel
              obtain ⟨d0, d1⟩ := HK.out _ hb
              by_cases hlv : v < n
              · have v0 : (0 : Int) ≤ v := by omega
                have v1 : (v : Int) < n := by omega
                cases hvt : ((v : Int) == t)
                · cases hin : inB inner (v : Int)
                  · go_wp2_with (go_at_call 19; refine (in_any _ _ _).mono ?_; rintro e w' ⟨rfl, rfl⟩)
                    go_roundw
                    case rel => exact ⟨v + 1, by omega, by go_num, hb⟩
                    case measure => simp [intOf]; omega
                  · cases hn : nearB E s (v : Int)
                    · have HN1 := Lib.hid (HNB.out s v _ hb)
                      rw [hn] at HN1
                      clear hn
                      go_wp2_with (go_at_call 19; refine (in_any _ _ _).mono ?_; rintro e w' ⟨rfl, rfl⟩)
                      refine HN1.out.mono ?_
                      rintro e w7 ⟨rfl, hb7⟩
                      clear d0 d1 hb
                      go_wp2_with fail
                      go_roundw
                      case rel => exact ⟨v + 1, by omega, by go_num, hb7⟩
                      case measure => simp [intOf]; omega
                    · have HN1 := Lib.hid (HNB.out s v _ hb)
                      rw [hn] at HN1
                      have HBV := Lib.hid (fun Q k2 => HBS.out v Q k2 v1 (by simpa using hvt) hin hn)
                      clear hn
                      go_wp2_with (go_at_call 19; refine (in_any _ _ _).mono ?_; rintro e w' ⟨rfl, rfl⟩)
                      refine HN1.out.mono ?_
                      rintro e w7 ⟨rfl, hb7⟩
                      clear d0 d1 hb HN1
                      obtain ⟨d0, d1⟩ := HK.out _ hb7
                      have hE7 := HEB.out _ hb7
                      go_wp2_with fail
                      refine (copy_any n A E c w7 hl hE7).mono ?_
                      rintro e w8 ⟨h8, rfl, _, hR8, hb8⟩
                      have hB8 := bthen hb7 hb8
                      have hT8 := hTb.out _ hB8
                      clear d0 d1
                      go_wp2_with fail
                      refine (path_any n v t inner (some ⟨h8, 0, none⟩) E E.length w8 hl hR8.rd hT8).mono ?_
                      rintro e w9 ⟨vq, Q, k2, rfl, hownQ, hPQ, hb9⟩
                      obtain ⟨e1, hlen⟩ := HBV.out Q k2 hPQ.out
                      subst e1
                      have hQ30 := pathIs_len hPQ.out
                      obtain ⟨AQ, cQ, rfl, _, _, _, _⟩ := Rd.of_own hownQ
                      have hB9 := bthen hB8 hb9
                      clear hownQ hPQ hb9 hb8 hb7 hR8 hB8 hT8 hE7 HBV
                      by_cases hQ : Q.length = 0
                      · have qz : decide (0 < Q.length) = false := decide_eq_false (by omega)
                        go_wp2_with fail
                        go_roundw
                        case rel => exact ⟨v + 1, by omega, by go_num, hB9⟩
                        case measure => simp [intOf]; omega
                      · have qz : decide (0 < Q.length) = true := decide_eq_true (by omega)
                        have h1 := hlen (by omega)
                        have ql : decide ((Q.length : Int) + 1 < (Z.length : Int)) = false := decide_eq_false (by omega)
                        go_wp2_with fail
                        go_roundw
                        case rel => exact ⟨v + 1, by omega, by go_num, hB9⟩
                        case measure => simp [intOf]; omega
                · go_wp2_with fail
                  go_roundw
                  case rel => exact ⟨v + 1, by omega, by go_num, hb⟩
                  case measure => simp [intOf]; omega
              · obtain rfl : v = n := by omega
                have hTr := hTb.out _ hb
                have hBr := bthen hB6 hb
                go_wp2_with fail
                refine (awake_any _ hTr).mono ?_
                rintro e w9 ⟨rfl, hb9⟩
                go_wp2_with fail
                go_ret
                exact ⟨rfl, bthen hBr hb9⟩
    · have hZn := pathIs_bad hPA.out hk1
      have hkb : (k1 != 0) = true := by simpa using hk1
      subst hZn
      clear hk1 hPA
      go_wp2_with fail
      refine (awake_any w3 hT3).mono ?_
      rintro e w4 ⟨rfl, hb4⟩
      go_wp2_with fail
      go_ret
      exact ⟨rfl, bthen hB3 hb4⟩
end Go.Proofs.YtaongngoacbodaaDoor
