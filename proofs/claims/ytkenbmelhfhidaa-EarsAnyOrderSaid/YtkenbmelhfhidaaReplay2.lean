/- The contract of osierref15.Replay. -/
import Derived.Test.YtkenbmelhfhidaaReplay1
import Derived.Test.YtkenbmelhfhidaaR15b
namespace Go.Proofs.Ytkenbmelhfhidaa
open Go.RowKit
attribute [local go_sem ↓] uz_and uz_or uz_andNot uz_and_one uz_shr uz_shl_one uz_shl uz_sub uz_sub_one uz_add uz_beq_zero uz_bne_zero uz_beq uz_bne uz_beq_one

def eqS (t x : Stp) : Bool := decide (x = t)
theorem eqS_parts (t x : Stp) : eqS t x = (x.kind == t.kind && (x.edge == t.edge && (x.into == t.into && x.cut == t.cut))) := by
  obtain ⟨a, b, c, d⟩ := t
  obtain ⟨a', b', c', d'⟩ := x
  unfold eqS
  rw [Bool.eq_iff_iff]
  simp
theorem any_step {ss : List Stp} {q : Nat} (hq : q < ss.length) (p : Stp → Bool) : (ss.take (q + 1)).any p = ((ss.take q).any p || p (stp ss q)) := by
  rw [List.take_succ_eq_append_getElem hq, stp_eq ss q hq]; simp
theorem any_eqS (ss : List Stp) (t : Stp) : ss.any (eqS t) = decide (t ∈ ss) := by
  rw [Bool.eq_iff_iff, List.any_eq_true, decide_eq_true_eq]
  constructor
  · rintro ⟨x, hx, h⟩
    unfold eqS at h
    rw [← of_decide_eq_true h]; exact hx
  · intro h
    exact ⟨t, h, by unfold eqS; simp⟩

set_option maxHeartbeats 40000000 in
set_option maxRecDepth 100000 in
theorem r15replay_any (V : Int) (A : Option Addr) (E : List (BitVec 32)) (c : Nat) (keep : BitVec 32) (A' : Option Addr) (ss : List Stp) (c' : Nat) (w : World) (hl : E.length ≤ 35184372087808) (hE : Rd w w.heap.size A (us E)) (hl' : ss.length ≤ 35184372087808) (hS : Rd w w.heap.size A' (sts ss)) :
    Calls Try.prog 62 #[.agg #[.int .i64 V, .slice A E.length c], .int .u32 (uz keep), .slice A' ss.length c'] w fun e w' => ∃ v L n code, e = .returned (.tuple #[v, .int .i64 n, .int .i64 code]) ∧ w'.ownsRow w.heap.size 119 2 v L.length (lfs L) ∧ Hid (ReplIs V E keep ss L n code) ∧ Below w.heap.size w w' := by
  go_enter Try.func62, Try.ntmps62
  go_wp2_with fail
  have hb0 := below_alloc w (.cells #[.int .i64 V, .slice A E.length c] 24)
  have hG0 : Row (w.alloc (.cells #[.int .i64 V, .slice A E.length c] 24)) w.heap.size 24 [.int .i64 V, .slice A E.length c] := Row.new _ _ _
  generalize w.alloc _ = w0 at hb0 hG0 ⊢
  refine (r14valid_any V A E c _ hl (hE.later hb0)).mono ?_
  rintro e w1 ⟨rfl, hb1⟩
  have hB1 := bthen hb0 hb1
  have hG1 := hG0.later hb1
  cases hv : validB V E
  · have HP : Hid (ReplIs V E keep ss [] 0 140) := Lib.hid (.inl ⟨hv, rfl, rfl, rfl⟩)
    clear hv
    go_wp2_with fail
    refine bodyPost_ret (v := .tuple #[.slice none 0 0, .int .i64 0, .int .i64 140]) (by simp [results, Try.results62, go_sem]) rfl ?_
    exact ⟨_, [], _, _, rfl, ⟨rfl, .inl ⟨rfl, rfl⟩⟩, HP, hB1⟩
  · have h7 := (validB_of hv).2.2.1
    have HV := Lib.hid hv
    have d0 : w1.cell? ⟨w.heap.size, 0, none⟩ = some (.int .i64 V) := hG1.cell 0
    have d1 : w1.cell? ⟨w.heap.size, 1, none⟩ = some (.slice A E.length c) := hG1.cell 1
    clear hv
    go_wp2_with fail
    refine (r15begin_any V A E c w1 h7 (hE.later hB1)).mono ?_
    rintro e w2 ⟨v0, rfl, hown0, hb2⟩
    have hB2 := bthen hB1 hb2
    have hown0' : w2.ownsRow w.heap.size 119 2 v0 (mkTo (beginE E) ss 0).length (lfs (mkTo (beginE E) ss 0)) := own_less hown0 hB1.size
    clear hown0 hb2 hb1 hG0 hb0 d0 d1 hG1 hB1
    go_wp2_with fail
    go_loopw [9, 10] (fun v i wr => ∃ (k : Nat), k ≤ ss.length ∧ i = .int .i64 k ∧ wr.ownsRow w.heap.size 119 2 v (mkTo (beginE E) ss k).length (lfs (mkTo (beginE E) ss k)) ∧ Hid (legalTo keep (beginE E) ss k) ∧ Below w.heap.size w wr) (fun _ i _ => ss.length - (intOf i).toNat)
    case atStart => exact ⟨0, Nat.zero_le _, rfl, hown0', Lib.hid fun i hi => absurd hi (Nat.not_lt_zero _), hB2⟩
    case round =>
      obtain ⟨k, hk, rfl, hown, HG, hb⟩ := hrel
      obtain ⟨wr, ewr, hb⟩ : ∃ wr : World, wr = _ ∧ Below w.heap.size w wr := ⟨_, rfl, hb⟩
      subst ewr
      clear hown0' hB2
      have hlen : (mkTo (beginE E) ss k).length ≤ 7 := by
        have := mkTo_len (beginE E) ss k
        rw [begin_len] at this
        omega
      have hsr := Lib.hid (mkTo_srt (srt_begin E) ss k)
      by_cases hlt : k < ss.length
      · have HMK : Hid (makeE (mkTo (beginE E) ss k) (stp ss k) = mkTo (beginE E) ss (k + 1)) := Lib.hid rfl
        have HST : Hid (stp ss k ∈ stepsE (mkTo (beginE E) ss k) keep → legalTo keep (beginE E) ss (k + 1)) := Lib.hid fun h i hi => by
          rcases Nat.lt_or_ge i k with d | d
          · exact HG.out i d
          · obtain rfl : i = k := by omega
            exact h
        have HNO : Hid (stp ss k ∉ stepsE (mkTo (beginE E) ss k) keep → ReplIs V E keep ss (mkTo (beginE E) ss k) k 0) := Lib.hid fun h => .inr ⟨HV.out, rfl, k, rfl, hk, rfl, HG.out, .inr h⟩
        generalize mkTo (beginE E) ss k = L at hown hlen hsr HMK HST HNO
        obtain ⟨A1, c1, rfl, _, _, hL, _⟩ := Rd.of_ownS hown
        have b1 : (0 : Int) ≤ k := by omega
        have b2 : (k : Int) < ss.length := by omega
        go_wp2_with fail
        refine (r15steps_any A1 L c1 keep wr hlen hsr.out hL).mono ?_
        rintro e w3 ⟨vst, rfl, hownst, hst200, hb3⟩
        have hB3 := bthen hb hb3
        have hown3 := own_below hown hb3
        obtain ⟨A2, c2, rfl, _, _, hT, _⟩ := Rd.of_ownS hownst
        generalize stepsE L keep = all at hownst hst200 hT HST HNO
        have hL3 := hL.later hb3
        have HS4 : Hid (∀ x, Below w3.heap.size w3 x → Rd x w.heap.size A' (sts ss)) := Lib.hid fun x hx => hS.below (bthen hB3 hx)
        clear hownst hL hown hb hb3
        go_wp2_with fail
        go_loopw [12, 13] (fun s i wr => ∃ q : Nat, q ≤ all.length ∧ i = .int .i64 q ∧ s = .bool ((all.take q).any (eqS (stp ss k))) ∧ Below w3.heap.size w3 wr) (fun _ i _ => all.length - (intOf i).toNat)
        case atStart => exact ⟨0, Nat.zero_le _, rfl, by simp, Below.refl _ _⟩
        case round =>
          obtain ⟨q, hq, rfl, rfl, hbz⟩ := hrel
          by_cases hlq : q < all.length
          · obtain ⟨ad2, hA2, _, q0, q1, q2, q3⟩ := (hT.later hbz).st_cells hlq
            obtain ⟨ad, hA, _, c0, c1', c2', c3⟩ := (HS4.out _ hbz).st_cells hlt
            subst hA hA2
            have HX := Lib.hid (any_step hlq (eqS (stp ss k)))
            have HEQ := Lib.hid (eqS_parts (stp ss k) (stp all q))
            have b3 : (0 : Int) ≤ q := by omega
            have b4 : (q : Int) < all.length := by omega
            generalize (all.take q).any (eqS (stp ss k)) = st at HX ⊢
            generalize stp all q = y at q0 q1 q2 q3 HX HEQ
            generalize stp ss k = t at c0 c1' c2' c3 HX HEQ ⊢
            cases st
            · obtain ⟨b, hb'⟩ : ∃ b, eqS t y = b := ⟨_, rfl⟩
              have HX2 : Hid ((all.take (q + 1)).any (eqS t) = b) := Lib.hid (by rw [HX.out, hb']; rfl)
              have HEB : Hid (b = (y.kind == t.kind && (y.edge == t.edge && (y.into == t.into && y.cut == t.cut)))) := Lib.hid (by rw [← hb', HEQ.out])
              clear HX HEQ hb'
              obtain ⟨k1, x1, y1, u1⟩ := y
              obtain ⟨k2, x2, y2, u2⟩ := t
              simp only at q0 q1 q2 q3 c0 c1' c2' c3 HEB
              cases e1 : (k1 == k2) <;> cases e2 : (x1 == x2) <;> cases e3 : (y1 == y2) <;> cases e4 : (u1 == u2)
              all_goals
                rw [e1, e2, e3, e4] at HEB
                obtain rfl := HEB.out
                clear HEB
                go_wp2_with fail
                go_quiet (fail)
                go_wp2_with fail
                go_roundw
                case rel => exact ⟨q + 1, by omega, by go_num, by rw [HX2.out]; rfl, below_drewN hbz _⟩
                case measure => simp [intOf]; omega
            · have HX2 : Hid ((all.take (q + 1)).any (eqS t) = true) := Lib.hid (by rw [HX.out]; rfl)
              clear HX HEQ
              go_wp2_with fail
              go_quiet (fail)
              go_wp2_with fail
              go_roundw
              case rel => exact ⟨q + 1, by omega, by go_num, by rw [HX2.out], below_drewN hbz _⟩
              case measure => simp [intOf]; omega
          · obtain rfl : q = all.length := by omega
            rw [List.take_length, any_eqS]
            by_cases hm : stp ss k ∈ all
            · have HX := Lib.hid (HST.out hm)
              have hd : decide (stp ss k ∈ all) = true := decide_eq_true hm
              rw [hd]
              obtain ⟨ad, hA, _, c0, c1', c2', c3⟩ := (HS4.out _ hbz).st_cells hlt
              subst hA
              have hL5 := hL3.later hbz
              have hB5 := bthen hB3 hbz
              clear HST HNO hm hd hT HS4 hbz hB3 hL3 hown3
              generalize stp ss k = t at c0 c1' c2' c3 HMK ⊢
              go_wp2_with fail
              refine (r15make_any A1 L c1 t _ hlen hL5).mono ?_
              rintro e w5 ⟨v5, rfl, hown5, hb5⟩
              rw [HMK.out] at hown5
              have hown6 := own_less hown5 hB5.size
              have hB6 := bthen hB5 hb5
              clear c0 c1' c2' c3 hL5 hown5 hb5
              go_wp2_with fail
              go_roundw
              case measure => simp [intOf]; omega
              case rel => exact ⟨k + 1, by omega, by go_num, hown6, HX, hB6⟩
            · have HQ := Lib.hid (HNO.out hm)
              have hd : decide (stp ss k ∈ all) = false := decide_eq_false hm
              rw [hd]
              have hown4 := own_below hown3 hbz
              clear HST HNO hm hd
              go_wp2_with fail
              refine bodyPost_ret (v := .tuple #[.slice A1 L.length c1, .int .i64 k, .int .i64 0]) (by simp [results, Try.results62, go_sem]) rfl ?_
              exact ⟨_, L, _, _, rfl, hown4, HQ, bthen hB3 hbz⟩
      · obtain rfl : k = ss.length := by omega
        have HQ : Hid (ReplIs V E keep ss (mkTo (beginE E) ss ss.length) ss.length 0) := Lib.hid (.inr ⟨HV.out, rfl, ss.length, rfl, Nat.le_refl _, rfl, HG.out, .inl rfl⟩)
        generalize mkTo (beginE E) ss ss.length = L at hown HQ
        obtain ⟨v, ev, hown⟩ : ∃ v, v = _ ∧ wr.ownsRow w.heap.size 119 2 v L.length (lfs L) := ⟨_, rfl, hown⟩
        subst ev
        go_wp2_with fail
        refine bodyPost_ret (v := .tuple #[v, .int .i64 ss.length, .int .i64 0]) (by simp [results, Try.results62, go_sem]) rfl ?_
        exact ⟨_, L, _, _, rfl, hown, HQ, hb⟩
end Go.Proofs.Ytkenbmelhfhidaa
