/- osierref09.Plain: the query named anew. -/
import Derived.Test.YtdemmjofggemhaaDoorDigs
import Derived.Test.YtdemmjofggemhaaDoorPOut
import Derived.Test.YtdemmjofggemhaaDoorRegUntil
import Derived.Deep.RegionHeld3
import Derived.Deep.CutBlock
import Derived.Deep.DeepCutAuto
set_option linter.unusedSimpArgs false
namespace Go.Proofs.YtdemmjofggemhaaDoor
open Go.RowKit

theorem head_few {q : Qy} (hg : GoodQ q) : q.head.length ≤ 30 := by
  have hn : q.head.Nodup := by
    rw [List.nodup_iff_pairwise_ne]
    refine List.pairwise_iff_getElem.2 fun i j hi hj hij e => ?_
    have h := hg.apart
    unfold dupB at h
    rw [List.any_eq_false] at h
    have h1 := h j (by simpa using hj)
    unfold dupAt at h1
    refine h1 (decide_eq_true ?_)
    rw [← nm_eq _ j hj, ← e]
    exact List.mem_iff_getElem.2 ⟨i, by simp; omega, by simp⟩
  exact Nat.le_trans (sub_len hn hg.safe) (qvars_length hg.narrow hg.few)
theorem dig_fits {j : Nat} (h : j < 30) : ¬ 9223372036854775807 < 1 + (dig j).size := by
  have h1 : ∀ k, k < 30 → (dig k).size ≤ 2 := by decide +kernel
  have := h1 j h
  omega
theorem wrap_small {j : Nat} (h : j < 30) : IntKind.u64.wrap (j : Int) = j := by
  rw [show IntKind.u64.wrap (j : Int) = (j : Int) % 18446744073709551616 by simp [IntKind.wrap, IntKind.bits, IntKind.signed]]
  omega
theorem OutS.hcell {base gh go : Nat} {A1 : Option Addr} {c1 : Nat} {G : Nat → Nat} {q : Qy} {k i : Nat} {f : ByteArray → ByteArray} {X : Nat → List Tm} {y : World} (h : OutS base gh go A1 c1 G q (mapTo f q.head k) X y) (hi : i < q.head.length) : y.cell? ⟨gh, i, none⟩ = some (.string (nm (mapTo f q.head k) i)) := by
  obtain ⟨ad, e, _, hc⟩ := h.hd.rd.s_at (k := i) (by simpa using hi)
  injection e with e
  subst e
  simpa [Addr.add_lit] using hc
theorem OutS.put1 {base gh go : Nat} {A1 : Option Addr} {c1 : Nat} {G : Nat → Nat} {q : Qy} {H : List ByteArray} {X : Nat → List Tm} {y : World} (h : OutS base gh go A1 c1 G q H X y) {g : Nat} {zs : List Value} (hr : Row y g 25 zs) (hne : go ≠ g) (i : Nat) (u : Value) : OutS base gh go A1 c1 G q H X (y.setCell ⟨g, i, none⟩ u) :=
  ⟨h.hd.far (p := ⟨g, i, none⟩) (rowq_ne h.hd hr (by decide)) _, h.out.far (p := ⟨g, i, none⟩) hne _, own_off h.ats hr (by decide) i u, fun k hk => (h.tms_ k hk).far (p := ⟨g, i, none⟩) (rowq_ne (h.tms_ k hk) hr (by decide)) _, h.up, h.low⟩
set_option maxRecDepth 100000 in
set_option maxHeartbeats 8000000 in
theorem plain9_any (q : Qy) (AH : Option Addr) (cH : Nat) (AA : Option Addr) (cA : Nat) (w : World) (hq : SzQ q) (hg : GoodQ q) (hH : Rd w w.heap.size AH (ss q.head)) (hA : Ats w w.heap.size AA q.atoms) :
    Calls Tryd.prog 8 #[.agg #[.string q.name, .slice AH q.head.length cH, .slice AA q.atoms.length cA]] w fun e w' => ∃ gh A1 c1, e = .returned (.agg #[.string q.name, .slice (some ⟨gh, 0, none⟩) q.head.length q.head.length, .slice A1 q.atoms.length c1]) ∧ Row w' gh 9 (ss (renQ (plainF (seenOf (oldL q))) q).head) ∧ Ats w' w'.heap.size A1 (renQ (plainF (seenOf (oldL q))) q).atoms ∧ Below w.heap.size w w' := by
  have HG := Lib.hid hg
  have h6 := hg.few
  have HN5 := Lib.hid hg.narrow
  have hfh := head_few hg
  obtain ⟨F, hF⟩ : ∃ F, plainF (seenOf (oldL q)) = F := ⟨_, rfl⟩
  rw [hF]
  have HFe := Lib.hid hF
  clear hg hF
  go_enter Tryd.func8, Tryd.ntmps8
  go_upto_region 2 with fail
  have hb0 : Below w.heap.size w ((w.alloc (.cells #[.string q.name, .slice AH q.head.length cH, .slice AA q.atoms.length cA] 25)).alloc (.cells #[.string { data := #[] }, .slice none 0 0, .slice none 0 0] 25)) := (below_alloc w _).alloc (by simp) _
  have hQ0 : Row ((w.alloc (.cells #[.string q.name, .slice AH q.head.length cH, .slice AA q.atoms.length cA] 25)).alloc (.cells #[.string { data := #[] }, .slice none 0 0, .slice none 0 0] 25)) w.heap.size 25 [.string q.name, .slice AH q.head.length cH, .slice AA q.atoms.length cA] := (Row.new w _ _).alloc _
  have hR0 : Row ((w.alloc (.cells #[.string q.name, .slice AH q.head.length cH, .slice AA q.atoms.length cA] 25)).alloc (.cells #[.string { data := #[] }, .slice none 0 0, .slice none 0 0] 25)) (w.heap.size + 1) 25 [.string { data := #[] }, .slice none 0 0, .slice none 0 0] := Row.new_ (by simp)
  generalize (w.alloc _).alloc _ = w0 at hb0 hQ0 hR0 ⊢
  have hH0 := hH.later hb0
  have hA0 := hA.later hb0
  have q1 : w0.cell? ⟨w.heap.size, 1, none⟩ = some (.slice AH q.head.length cH) := hQ0.cell 1
  go_wp2_with ((with_reducible show wpList _ _ _ _ _ _); refine app_rdS rfl (.tmp 12) (.tmp 14) rfl w0.heap.size w0.heap.size _ [] AH cH q.head rfl rfl (World.ownsRow_nil _ _ _ _) hH0 (by simp only [List.length_nil]; omega) (Nat.le_refl _) ?_)
  intro vo w1 hown1 hb1
  go_upto_block 0 with fail
  go_cut [3] (fun o wc1 => wc1.ownsRow w0.heap.size 9 1 o (oldL q).length (ss (oldL q)) ∧ Below w0.heap.size w0 wc1)
  case first =>
    clear q1 hH hA
    go_wp2_with fail
    go_loopw [3, 4] (fun o i wr => ∃ k : Nat, k ≤ q.atoms.length ∧ i = .int .i64 k ∧ wr.ownsRow w0.heap.size 9 1 o (oldTo q k 0).length (ss (oldTo q k 0)) ∧ Below w0.heap.size w0 wr) (fun _ i _ => q.atoms.length - (intOf i).toNat)
    case atStart => exact ⟨0, Nat.zero_le _, rfl, by rw [oldTo_zero]; exact hown1, hb1⟩
    case round =>
      clear hown1 hb1
      obtain ⟨k, hk, rfl, hown, hb⟩ := hrel
      have q2 : wr.cell? ⟨w.heap.size, 2, none⟩ = some (.slice AA q.atoms.length cA) := (hQ0.later hb).cell 2
      by_cases hlt : k < q.atoms.length
      · have b1 : (0 : Int) ≤ k := by omega
        have b2 : (k : Int) < q.atoms.length := by omega
        have hn5 := HN5.out _ (am_mem q.atoms k hlt)
        have HNX := Lib.hid (oldTo_next (q := q) hlt)
        go_wp2_with fail
        go_loopw [3, 5] (fun o j wi => ∃ m : Nat, m ≤ (am q.atoms k).terms.length ∧ j = .int .i64 m ∧ wi.ownsRow w0.heap.size 9 1 o (oldTo q k m).length (ss (oldTo q k m)) ∧ Below w0.heap.size w0 wi) (fun _ j _ => (am q.atoms k).terms.length - (intOf j).toNat)
        case atStart => exact ⟨0, Nat.zero_le _, rfl, hown, hb⟩
        case round =>
          clear hown hb q2
          obtain ⟨m, hm, rfl, hown, hb⟩ := hrel
          have q2 : wr.cell? ⟨w.heap.size, 2, none⟩ = some (.slice AA q.atoms.length cA) := (hQ0.later hb).cell 2
          obtain ⟨ad, hAd, _, hc, T, cT, hc1, hTr, hTn⟩ := (hA0.later hb) k hlt
          subst hAd
          by_cases hltm : m < (am q.atoms k).terms.length
          · obtain ⟨at_, hT, _, hv0, hv1, hv2, hv3⟩ := hTr.t_cells hltm
            subst hT
            have b3 : (0 : Int) ≤ m := by omega
            have b4 : (m : Int) < (am q.atoms k).terms.length := by omega
            have hlo := oldTo_few (q := q) HN5.out h6 (i := k) (j := m) (by omega)
            have he := isEmpty_empty (tm (am q.atoms k).terms m).var
            have HY := Lib.hid (oldTo_yes (q := q) hltm)
            have HNo := Lib.hid (oldTo_no (q := q) hltm)
            generalize tm (am q.atoms k).terms m = t at hv0 hv1 hv2 hv3 he HY HNo
            by_cases hv : t.var = ByteArray.empty
            · have HX := Lib.hid (HNo.out hv)
              rw [decide_eq_true hv] at he
              clear hv HY HNo
              generalize t.var = y at hv0 he
              go_wp2_with fail
              go_roundw
              case rel => exact ⟨m + 1, by omega, by go_num, by rw [HX.out]; exact hown, hb⟩
              case measure => simp [intOf]; omega
            · have HX := Lib.hid (HY.out hv)
              rw [decide_eq_false hv] at he
              clear hv HY HNo
              generalize t.var = y at hv0 he HX
              go_wp2_with ((with_reducible show wpList _ _ _ _ _ _); refine app_str rfl (.tmp 45) (.tmp 56) rfl w0.heap.size _ (oldTo q k m) y rfl rfl hown (by omega) hb.size ?_)
              intro v' w' hown' hb'
              go_wp2_with fail
              go_roundw
              case rel => exact ⟨m + 1, by omega, by go_num, by rw [HX.out, List.length_append]; exact hown', hb.trans hb'⟩
              case measure => simp [intOf]; omega
          · obtain rfl : m = (am q.atoms k).terms.length := by omega
            rw [HNX.out] at hown
            go_wp2_with fail
            go_roundw
            case rel => exact ⟨k + 1, by omega, by go_num, hown, hb⟩
            case measure => simp [intOf]; omega
      · obtain rfl : k = q.atoms.length := by omega
        rw [oldTo_end] at hown
        go_wp2_with fail
        go_meet
        exact ⟨hown, hb⟩
  case rest =>
    obtain ⟨hownO, hbO⟩ := hcut
    obtain ⟨wc1, hw1⟩ : ∃ wo, wo = wc := ⟨_, rfl⟩
    subst hw1
    obtain ⟨AO, cO, rfl, _, _, hRO, _⟩ := Rd.of_own hownO
    have hBO := bthen hb0 hbO
    have hQ1 := hQ0.later hbO
    have hR1 := hR0.later hbO
    have hlO : (oldL q).length ≤ q.head.length + 35 := by rw [← oldTo_end]; exact oldTo_few HN5.out h6 (by omega)
    clear hown1 hb1 q1 hH0 hA0 hownO hQ0 hR0 hb0 hbO
    go_upto_block 4 with fail
    go_cut [6] (fun s wc2 => wc2.ownsRow wc1.heap.size 9 1 s (seenOf (oldL q)).length (ss (seenOf (oldL q))) ∧ Below wc1.heap.size wc1 wc2)
    case first =>
      clear hH hA hQ1 hR1 hBO
      go_wp2_with fail
      go_loopw [6, 7] (fun s i wr => ∃ k : Nat, k ≤ (oldL q).length ∧ i = .int .i64 k ∧ wr.ownsRow wc1.heap.size 9 1 s (seeTo (oldL q) k).length (ss (seeTo (oldL q) k)) ∧ Below wc1.heap.size wc1 wr) (fun _ i _ => (oldL q).length - (intOf i).toNat)
      case atStart => exact ⟨0, Nat.zero_le _, rfl, World.ownsRow_nil _ _ _ _, Below.refl _ _⟩
      case round =>
        obtain ⟨k, hk, rfl, hown, hb⟩ := hrel
        obtain ⟨AS, cS, rfl, _, _, hRS, _⟩ := Rd.of_own hown
        by_cases hlt : k < (oldL q).length
        · obtain ⟨ad, hAd, _, hc⟩ := (hRO.later hb).s_at hlt
          subst hAd
          have b1 : (0 : Int) ≤ k := by omega
          have b2 : (k : Int) < (oldL q).length := by omega
          have HX := Lib.hid (seeTo_next hlt)
          have hsl := seeTo_len (oldL q) k
          have HIN := Lib.hid (in9_any AS (seeTo (oldL q) k) cS (nm (oldL q) k) wr (by omega) hRS)
          generalize nm (oldL q) k = x at hc HX HIN
          by_cases hx : x ∈ seeTo (oldL q) k
          · have HY := Lib.hid (HX.out.trans (if_pos hx))
            rw [decide_eq_true hx] at HIN
            clear hx HX
            go_wp2_with fail
            refine HIN.out.mono ?_
            rintro e w' ⟨rfl, rfl⟩
            go_wp2_with fail
            go_roundw
            case rel => exact ⟨k + 1, by omega, by go_num, by rw [HY.out]; exact hown, hb⟩
            case measure => simp [intOf]; omega
          · have HY := Lib.hid (HX.out.trans (if_neg hx))
            rw [decide_eq_false hx] at HIN
            clear hx HX
            go_wp2_with fail
            refine HIN.out.mono ?_
            rintro e w' ⟨rfl, rfl⟩
            go_wp2_with ((with_reducible show wpList _ _ _ _ _ _); refine app_str rfl (.tmp 71) (.tmp 76) rfl wc1.heap.size _ (seeTo (oldL q) k) x rfl rfl hown (by omega) hb.size ?_)
            intro v' w' hown' hb'
            go_wp2_with fail
            go_roundw
            case rel => exact ⟨k + 1, by omega, by go_num, by rw [HY.out, List.length_append]; exact hown', hb.trans hb'⟩
            case measure => simp [intOf]; omega
        · obtain rfl : k = (oldL q).length := by omega
          go_wp2_with fail
          go_meet
          exact ⟨by rw [← seeTo_all]; exact hown, hb⟩
    case rest =>
      obtain ⟨hownS, hbS⟩ := hcut
      obtain ⟨wc2, hw2⟩ : ∃ wo, wo = wc := ⟨_, rfl⟩
      subst hw2
      obtain ⟨AS, cS, rfl, _, _, hRS, _⟩ := Rd.of_own hownS
      have hBS := bthen hBO hbS
      have hQ2 := hQ1.later hbS
      have hR2 := hR1.later hbS
      have hlS := seenOf_len (oldL q)
      have HAT : Hid (∀ x, x ∈ qvars q.atoms → ∃ j : Nat, atI (seenOf (oldL q)) x = j ∧ j < 30 ∧ plainF (seenOf (oldL q)) x = vee ++ dig j) := Lib.hid fun x hx => by
        obtain ⟨j, e, hj, _⟩ := seen_at HG.out hx
        exact ⟨j, e, hj, by unfold plainF; rw [e, Int.toNat_natCast]; rfl⟩
      have hH2 := hH.later hBS
      have hA2 := hA.later hBS
      have hls : (seenOf (oldL q)).length ≤ 35184372087808 := by omega
      clear hownS hRO hlS hlO hQ1 hR1 hBO hbS hH hA
      rw [HFe.out] at HAT
      clear HFe
      generalize seenOf (oldL q) = sn at hRS HAT hls ⊢
      have q0 : wc2.cell? ⟨w.heap.size, 0, none⟩ = some (.string q.name) := hQ2.cell 0
      have q1 : wc2.cell? ⟨w.heap.size, 1, none⟩ = some (.slice AH q.head.length cH) := hQ2.cell 1
      have q2 : wc2.cell? ⟨w.heap.size, 2, none⟩ = some (.slice AA q.atoms.length cA) := hQ2.cell 2
      have HCP := Lib.hid (copyQ_own q AH cH AA cA wc2 hq hH2 hA2)
      go_wp2_with fail
      refine HCP.out.mono ?_
      rintro e w3 ⟨gh, A1, c1, G, rfl, hRh, hgh, hoA, hG, hU, hb3⟩
      clear q0 q1 q2 HCP
      go_upto_region 18 with fail
      have HSF := Lib.hid HG.out.safe
      have hO3 : OutS wc2.heap.size gh w3.heap.size A1 c1 G q (mapTo F q.head 0) (termsTo F q 0 0) (w3.alloc (.cells #[.string q.name, .slice (some ⟨gh, 0, none⟩) q.head.length q.head.length, .slice A1 q.atoms.length c1] 25)) :=
        ⟨by rw [mapTo_zero]; exact hRh.alloc _, Row.new _ _ _, own_below hoA (below_alloc w3 _), fun i hi => by rw [termsTo_zero]; exact (hG i hi).alloc _, hU, hgh⟩
      have hb4 : Below wc2.heap.size wc2 (w3.alloc (.cells #[.string q.name, .slice (some ⟨gh, 0, none⟩) q.head.length q.head.length, .slice A1 q.atoms.length c1] 25)) := bthen hb3 (below_alloc w3 _)
      have hgO : wc2.heap.size ≤ w3.heap.size := hb3.size
      generalize w3.heap.size = gO at hO3 hgO ⊢
      generalize w3.alloc _ = w4 at hO3 hb4 ⊢
      clear hRh hoA hG hb3 HG hgh hU
      go_upto_block 6 with fail
      go_cut [9] (fun _ wc => OutS wc2.heap.size gh gO A1 c1 G q (mapTo F q.head q.head.length) (termsTo F q 0 0) wc ∧ Below wc2.heap.size wc2 wc)
      case first =>
        go_wp2_with fail
        go_loopw [9] (fun i wr => ∃ k : Nat, k ≤ q.head.length ∧ i = .int .i64 k ∧ OutS wc2.heap.size gh gO A1 c1 G q (mapTo F q.head k) (termsTo F q 0 0) wr ∧ Below wc2.heap.size wc2 wr) (fun i _ => q.head.length - (intOf i).toNat)
        case atStart => exact ⟨0, Nat.zero_le _, rfl, hO3, hb4⟩
        case round =>
          clear hO3 hb4 hA2
          obtain ⟨k, hk, rfl, hO, hb⟩ := hrel
          have e1 : wr.cell? ⟨gO, 1, none⟩ = some (.slice (some ⟨gh, 0, none⟩) q.head.length q.head.length) := hO.out.cell 1
          by_cases hlt : k < q.head.length
          · have b1 : (0 : Int) ≤ k := by omega
            have b2 : (k : Int) < q.head.length := by omega
            obtain ⟨ad, hAd, hal, hc⟩ := hH2.s_at hlt
            subst hAd
            obtain ⟨j, hat, hj, hfx⟩ := HAT.out (nm q.head k) (HSF.out _ (nm_mem q.head k hlt))
            have HHD := Lib.hid (fun (y : World) (h : OutS wc2.heap.size gh gO A1 c1 G q (mapTo F q.head k) (termsTo F q 0 0) y) => h.head_ hlt)
            rw [hfx] at HHD
            have HK : Hid (∀ y, Below wr.drew.heap.size wr.drew y → y.cell? ⟨gO, 1, none⟩ = some (.slice (some ⟨gh, 0, none⟩) q.head.length q.head.length) ∧ y.cell? ⟨w.heap.size, 1, none⟩ = some (.slice (some ad) q.head.length cH) ∧ y.cell? (ad.add k) = some (.string (nm q.head k))) := Lib.hid fun y hy =>
              have hy2 := bthen hb (below_undrew hy)
              ⟨(hO.out.later (below_undrew hy)).cell 1, (hQ2.later hy2).cell 1, (hy2.cell (by rw [block_add]; exact hal)).trans hc⟩
            have hRS2 := hRS.later (hb.drew)
            generalize nm q.head k = x at hat HHD HK hc hfx
            go_upto_region 21 with fail
            clear hc hfx e1
            refine wp_region_until 14 (fun y : World => y.cell? ⟨gO, 1, none⟩ = some (.slice (some ⟨gh, 0, none⟩) q.head.length q.head.length) ∧ y.cell? ⟨w.heap.size, 1, none⟩ = some (.slice (some ad) q.head.length cH) ∧ y.cell? (ad.add k) = some (.string x)) (by kernel_rfl) (HK.out _ (Below.refl _ _)) (fun hHeld => ?_)
            refine uN 0 hHeld ?_
            try simp only [Act.put, uA, u0, u1]
            refine uL 1 [1] hHeld ?_
            try simp only [Act.put, uA, u0, u1]
            refine uN 2 hHeld ?_
            try simp only [Act.put, uA, u0, u1]
            refine uN 3 hHeld ?_
            try simp only [Act.put, uA, u0, u1]
            refine uN 4 hHeld ?_
            try simp only [Act.put, uA, u0, u1]
            refine uL 5 [5] hHeld ?_
            try simp only [Act.put, uA, u0, u1]
            refine uN 6 hHeld ?_
            try simp only [Act.put, uA, u0, u1]
            refine uN 7 hHeld ?_
            try simp only [Act.put, uA, u0, u1]
            refine uL 8 [8] hHeld ?_
            try simp only [Act.put, uA, u0, u1]
            refine wpAnyU_one (i := 9) (by kernel_rfl) rfl (fun K hK => ?_)
            go_simp
            go_at_call 15
            refine (at9_any AS sn cS x wr.drew hls hRS2).mono ?_
            rintro e w5 ⟨rfl, rfl⟩
            rw [hat]
            go_wp2_with fail
            refine hK.out _ _ (HK.out _ (Below.refl _ _)) (fun hNew => ?_)
            clear hK K hHeld
            have hHeld := hNew
            clear hNew
            try simp only [Act.put, uA, u0, u1]
            refine uN 10 hHeld ?_
            try simp only [Act.put, uA, u0, u1]
            refine wpAnyU_one (i := 11) (by kernel_rfl) rfl (fun K hK => ?_)
            go_simp
            go_at_call 31
            rw [wrap_small hj]
            with_reducible refine (digits_any j (by omega) wr.drew).mono ?_
            rintro e w5 ⟨rfl, hb5⟩
            have hds := dig_fits hj
            have hO5 := hO.later (below_undrew hb5)
            have hB5 := bthen hb (below_undrew hb5)
            have f0 := hO5.hcell hlt
            have f1 := hO5.hd.frozen k
            have f2 := hO5.hd.lt
            have hO6 := HHD.out _ hO5
            unfold vee at hO6
            have hB6 : Below wc2.heap.size wc2 (w5.setCell ⟨gh, k, none⟩ (.string ((⟨#[118]⟩ : ByteArray) ++ dig j))) := hB5.setCell hO5.low _
            go_wp2_with fail
            refine hK.out _ _ (HK.out _ hb5) (fun hNew => ?_)
            clear hK K hHeld
            have hHeld := hNew
            clear hNew
            try simp only [Act.put, uA, u0, u1]
            refine uN 12 hHeld ?_
            try simp only [Act.put, uA, u0, u1]
            refine uN 13 hHeld ?_
            try simp only [Act.put, uA, u0, u1]
            refine wpAnyU_last (i := 14) (by kernel_rfl) rfl (by kernel_rfl) (fun K hK => ?_)
            go_simp
            refine hK.out _ _ ?_
            clear hK K hHeld
            try simp only [Act.put]
            refine wpAnyU_done (by kernel_rfl) ?_ _
            go_wp2_with fail
            go_roundw
            case rel => exact ⟨k + 1, by omega, by go_num, hO6, hB6⟩
            case measure => simp [intOf]; omega
          · obtain rfl : k = q.head.length := by omega
            go_wp2_with fail
            go_meet
            exact ⟨hO, hb⟩
      case rest =>
        clear hO3 hb4
        obtain ⟨hO3, hb4⟩ := hcut
        obtain ⟨wc3, hw3⟩ : ∃ wo, wo = wc := ⟨_, rfl⟩
        subst hw3
        go_upto_block 8 with fail
        go_cut [10] (fun _ wc => OutS wc2.heap.size gh gO A1 c1 G q (mapTo F q.head q.head.length) (termsTo F q q.atoms.length 0) wc ∧ Below wc2.heap.size wc2 wc)
        case first =>
          go_wp2_with fail
          go_loopw [10] (fun i wr => ∃ k : Nat, k ≤ q.atoms.length ∧ i = .int .i64 k ∧ OutS wc2.heap.size gh gO A1 c1 G q (mapTo F q.head q.head.length) (termsTo F q k 0) wr ∧ Below wc2.heap.size wc2 wr) (fun i _ => q.atoms.length - (intOf i).toNat)
          case atStart => exact ⟨0, Nat.zero_le _, rfl, hO3, hb4⟩
          case round =>
            clear hO3 hb4
            obtain ⟨k, hk, rfl, hO, hb⟩ := hrel
            have e2 : wr.cell? ⟨gO, 2, none⟩ = some (.slice A1 q.atoms.length c1) := hO.out.cell 2
            by_cases hlt : k < q.atoms.length
            · have b1 : (0 : Int) ≤ k := by omega
              have b2 : (k : Int) < q.atoms.length := by omega
              have hn5 := HN5.out _ (am_mem q.atoms k hlt)
              go_wp2_with fail
              go_loopw [11] (fun j wi => ∃ m : Nat, m ≤ (am q.atoms k).terms.length ∧ j = .int .i64 m ∧ OutS wc2.heap.size gh gO A1 c1 G q (mapTo F q.head q.head.length) (termsTo F q k m) wi ∧ Below wc2.heap.size wc2 wi) (fun j _ => (am q.atoms k).terms.length - (intOf j).toNat)
              case atStart => exact ⟨0, Nat.zero_le _, rfl, hO, hb⟩
              case round =>
                clear hO hb e2
                obtain ⟨m, hm, rfl, hO, hb⟩ := hrel
                obtain ⟨ad, hAd, hal, hc1⟩ := hO.at_ hlt
                subst hAd
                have e2 : wr.cell? ⟨gO, 2, none⟩ = some (.slice (some ad) q.atoms.length c1) := hO.out.cell 2
                have e3 : wr.cell? ⟨(ad.add (k * 2)).block, (ad.add (k * 2)).off + 1, none⟩ = some (.slice (some ⟨G k, 0, none⟩) (am q.atoms k).terms.length (am q.atoms k).terms.length) := (add_off ad (k * 2) 0) ▸ hc1
                clear hc1
                by_cases hltm : m < (am q.atoms k).terms.length
                · obtain ⟨ad0, hA0', hal0, _, T0, cT0, hct0, hTr0, _⟩ := hA2 k hlt
                  subst hA0'
                  obtain ⟨at0, hT0, hat0, v0, _⟩ := hTr0.t_cells hltm
                  subst hT0
                  have b3 : (0 : Int) ≤ m := by omega
                  have b4 : (m : Int) < (am q.atoms k).terms.length := by omega
                  have e4 := hO.var_ hlt hltm
                  have he := isEmpty_empty (tm (am q.atoms k).terms m).var
                  have HTU := Lib.hid (fun (y : World) (h : OutS wc2.heap.size gh gO (some ad) c1 G q (mapTo F q.head q.head.length) (termsTo F q k m) y) hn => h.turn hlt hltm hn)
                  have HST := Lib.hid (hO.stay hltm)
                  have HIN : Hid ((tm (am q.atoms k).terms m).var ≠ ByteArray.empty → (tm (am q.atoms k).terms m).var ∈ qvars q.atoms) := Lib.hid fun hn => mem_qvars.2 ⟨hn, am q.atoms k, am_mem q.atoms k hlt, tm (am q.atoms k).terms m, by rw [← tm_eq _ m hltm]; exact List.getElem_mem _, rfl⟩
                  have f1 := (hO.tms_ k hlt).frozen (m * 4)
                  generalize (tm (am q.atoms k).terms m).var = x at e4 he HTU HST HIN v0
                  by_cases hxe : x = ByteArray.empty
                  · rw [decide_eq_true hxe] at he
                    have hO2 := HST.out hxe
                    clear HST HTU HIN hxe
                    go_wp2_with fail
                    go_roundw
                    case rel => exact ⟨m + 1, by omega, by go_num, hO2, hb⟩
                    case measure => simp [intOf]; omega
                  · rw [decide_eq_false hxe] at he
                    obtain ⟨j, hat, hj, hfx⟩ := HAT.out x (HIN.out hxe)
                    have HT2 := Lib.hid (fun y h => HTU.out y h hxe)
                    rw [hfx] at HT2
                    have HK : Hid (∀ y, Below wr.drew.heap.size wr.drew y → y.cell? ⟨gO, 2, none⟩ = some (.slice (some ad) q.atoms.length c1) ∧ y.cell? ⟨(ad.add (k * 2)).block, (ad.add (k * 2)).off + 1, none⟩ = some (.slice (some ⟨G k, 0, none⟩) (am q.atoms k).terms.length (am q.atoms k).terms.length) ∧ y.cell? ⟨w.heap.size, 2, none⟩ = some (.slice (some ad0) q.atoms.length cA) ∧ y.cell? ⟨(ad0.add (k * 2)).block, (ad0.add (k * 2)).off + 1, none⟩ = some (.slice (some at0) (am q.atoms k).terms.length cT0) ∧ y.cell? (at0.add (m * 4)) = some (.string x)) := Lib.hid fun y hy =>
                      have hy1 := below_undrew hy
                      have hy2 := bthen hb hy1
                      ⟨(hO.out.later hy1).cell 2, (hy1.cell (by rw [block_add]; exact hal)).trans e3, (hQ2.later hy2).cell 2, (hy2.cell (by rw [block_add]; exact hal0)).trans hct0, (hy2.cell (by rw [block_add]; exact hat0)).trans v0⟩
                    have hRS2 := hRS.later (hb.drew)
                    clear HST HTU HIN hfx hxe v0 hct0 hTr0
                    go_upto_region 29 with fail
                    clear e2 e3 e4 f1
                    refine wp_region_until 24 (fun y : World => y.cell? ⟨gO, 2, none⟩ = some (.slice (some ad) q.atoms.length c1) ∧ y.cell? ⟨(ad.add (k * 2)).block, (ad.add (k * 2)).off + 1, none⟩ = some (.slice (some ⟨G k, 0, none⟩) (am q.atoms k).terms.length (am q.atoms k).terms.length) ∧ y.cell? ⟨w.heap.size, 2, none⟩ = some (.slice (some ad0) q.atoms.length cA) ∧ y.cell? ⟨(ad0.add (k * 2)).block, (ad0.add (k * 2)).off + 1, none⟩ = some (.slice (some at0) (am q.atoms k).terms.length cT0) ∧ y.cell? (at0.add (m * 4)) = some (.string x)) (by kernel_rfl) (HK.out _ (Below.refl _ _)) (fun hHeld => ?_)
                    refine uN 0 hHeld ?_
                    try simp only [Act.put, uA, u0, u1]
                    refine uL 1 [1] hHeld ?_
                    try simp only [Act.put, uA, u0, u1]
                    refine uN 2 hHeld ?_
                    try simp only [Act.put, uA, u0, u1]
                    refine uN 3 hHeld ?_
                    try simp only [Act.put, uA, u0, u1]
                    refine uN 4 hHeld ?_
                    try simp only [Act.put, uA, u0, u1]
                    refine uL 5 [5] hHeld ?_
                    try simp only [Act.put, uA, u0, u1]
                    refine uN 6 hHeld ?_
                    try simp only [Act.put, uA, u0, u1]
                    refine uN 7 hHeld ?_
                    try simp only [Act.put, uA, u0, u1]
                    refine uN 8 hHeld ?_
                    try simp only [Act.put, uA, u0, u1]
                    refine uL 9 [9] hHeld ?_
                    try simp only [Act.put, uA, u0, u1]
                    refine uN 10 hHeld ?_
                    try simp only [Act.put, uA, u0, u1]
                    refine uN 11 hHeld ?_
                    try simp only [Act.put, uA, u0, u1]
                    refine uN 12 hHeld ?_
                    try simp only [Act.put, uA, u0, u1]
                    refine uL 13 [13] hHeld ?_
                    try simp only [Act.put, uA, u0, u1]
                    refine uN 14 hHeld ?_
                    try simp only [Act.put, uA, u0, u1]
                    refine uN 15 hHeld ?_
                    try simp only [Act.put, uA, u0, u1]
                    refine uN 16 hHeld ?_
                    try simp only [Act.put, uA, u0, u1]
                    refine uL 17 [17] hHeld ?_
                    try simp only [Act.put, uA, u0, u1]
                    refine wpAnyU_one (i := 18) (by kernel_rfl) rfl (fun K hK => ?_)
                    go_simp
                    go_at_call 15
                    refine (at9_any AS sn cS x wr.drew hls hRS2).mono ?_
                    rintro e w5 ⟨rfl, rfl⟩
                    rw [hat]
                    go_wp2_with fail
                    refine hK.out _ _ (HK.out _ (Below.refl _ _)) (fun hNew => ?_)
                    clear hK K hHeld
                    have hHeld := hNew
                    clear hNew
                    try simp only [Act.put, uA, u0, u1]
                    refine uN 19 hHeld ?_
                    try simp only [Act.put, uA, u0, u1]
                    refine wpAnyU_one (i := 20) (by kernel_rfl) rfl (fun K hK => ?_)
                    go_simp
                    go_at_call 31
                    rw [wrap_small hj]
                    with_reducible refine (digits_any j (by omega) wr.drew).mono ?_
                    rintro e w5 ⟨rfl, hb5⟩
                    have hds := dig_fits hj
                    have hO5 := hO.later (below_undrew hb5)
                    have hB5 := bthen hb (below_undrew hb5)
                    have f0 := hO5.var_ hlt hltm
                    have f1 := (hO5.tms_ k hlt).frozen (m * 4)
                    have f2 := (hO5.tms_ k hlt).lt
                    have hO6 := HT2.out _ hO5
                    unfold vee at hO6
                    have hB6 : Below wc2.heap.size wc2 (w5.setCell ⟨G k, m * 4, none⟩ (.string ((⟨#[118]⟩ : ByteArray) ++ dig j))) := hB5.setCell (hO5.up k hlt).1 _
                    go_wp2_with fail
                    refine hK.out _ _ (HK.out _ hb5) (fun hNew => ?_)
                    clear hK K hHeld
                    have hHeld := hNew
                    clear hNew
                    try simp only [Act.put, uA, u0, u1]
                    refine uN 21 hHeld ?_
                    try simp only [Act.put, uA, u0, u1]
                    refine uN 22 hHeld ?_
                    try simp only [Act.put, uA, u0, u1]
                    refine uN 23 hHeld ?_
                    try simp only [Act.put, uA, u0, u1]
                    refine wpAnyU_last (i := 24) (by kernel_rfl) rfl (by kernel_rfl) (fun K hK => ?_)
                    go_simp
                    refine hK.out _ _ ?_
                    clear hK K hHeld
                    try simp only [Act.put]
                    refine wpAnyU_done (by kernel_rfl) ?_ _
                    go_wp2_with fail
                    go_roundw
                    case rel => exact ⟨m + 1, by omega, by go_num, hO6, hB6⟩
                    case measure => simp [intOf]; omega
                · obtain rfl : m = (am q.atoms k).terms.length := by omega
                  go_wp2_with fail
                  go_roundw
                  case rel => exact ⟨k + 1, by omega, by go_num, hO.next, hb⟩
                  case measure => simp [intOf]; omega
            · obtain rfl : k = q.atoms.length := by omega
              go_wp2_with fail
              go_meet
              exact ⟨hO, hb⟩
        case rest =>
          clear hO3 hb4
          obtain ⟨hO3, hb4⟩ := hcut
          obtain ⟨wc4, hw4⟩ : ∃ wo, wo = wc := ⟨_, rfl⟩
          subst hw4
          have hRz := hR2.later hb4
          have e0 : wc4.cell? ⟨gO, 0, none⟩ = some (.string q.name) := hO3.out.cell 0
          have e1 : wc4.cell? ⟨gO, 1, none⟩ = some (.slice (some ⟨gh, 0, none⟩) q.head.length q.head.length) := hO3.out.cell 1
          have e2 : wc4.cell? ⟨gO, 2, none⟩ = some (.slice A1 q.atoms.length c1) := hO3.out.cell 2
          have z0 : wc4.cell? ⟨w.heap.size + 1, 0, none⟩ = some (.string { data := #[] }) := hRz.cell 0
          have z1 : wc4.cell? ⟨w.heap.size + 1, 1, none⟩ = some (.slice none 0 0) := hRz.cell 1
          have z2 : wc4.cell? ⟨w.heap.size + 1, 2, none⟩ = some (.slice none 0 0) := hRz.cell 2
          have f0 := hRz.frozen 0
          have f1 := hRz.frozen 1
          have f2 := hRz.frozen 2
          have hlt2 := hRz.lt
          have hRlt := hR2.lt
          have hF := ((hRz.set_ 0 (.string q.name)).set_ 1 (.slice (some ⟨gh, 0, none⟩) q.head.length q.head.length)).set_ 2 (.slice A1 q.atoms.length c1)
          have hO4 := ((hO3.put1 hRz (by omega) 0 (.string q.name)).put1 (hRz.set_ 0 (.string q.name)) (by omega) 1 (.slice (some ⟨gh, 0, none⟩) q.head.length q.head.length)).put1 ((hRz.set_ 0 (.string q.name)).set_ 1 (.slice (some ⟨gh, 0, none⟩) q.head.length q.head.length)) (by omega) 2 (.slice A1 q.atoms.length c1)
          have hB4 : Below w.heap.size w (((wc4.setCell ⟨w.heap.size + 1, 0, none⟩ (.string q.name)).setCell ⟨w.heap.size + 1, 1, none⟩ (.slice (some ⟨gh, 0, none⟩) q.head.length q.head.length)).setCell ⟨w.heap.size + 1, 2, none⟩ (.slice A1 q.atoms.length c1)) := (((bthen hBS hb4).setCell (by simp) _).setCell (by simp) _).setCell (by simp) _
          have hfin := hO4.fin
          clear hO3 hb4 hRz hO4
          go_wp2_with fail
          generalize ((wc4.setCell _ _).setCell _ _).setCell _ _ = wf at hF hfin hB4 ⊢
          have z0 : wf.cell? ⟨w.heap.size + 1, 0, none⟩ = some (.string q.name) := hF.cell 0
          have z1 : wf.cell? ⟨w.heap.size + 1, 1, none⟩ = some (.slice (some ⟨gh, 0, none⟩) q.head.length q.head.length) := hF.cell 1
          have z2 : wf.cell? ⟨w.heap.size + 1, 2, none⟩ = some (.slice A1 q.atoms.length c1) := hF.cell 2
          refine bodyPost_ret (v := .agg #[.string q.name, .slice (some ⟨gh, 0, none⟩) q.head.length q.head.length, .slice A1 q.atoms.length c1]) (by simp [results, Tryd.results8, go_sem, z0, z1, z2]) rfl ?_
          exact ⟨gh, _, _, rfl, hfin.1, hfin.2, hB4⟩
end Go.Proofs.YtdemmjofggemhaaDoor
