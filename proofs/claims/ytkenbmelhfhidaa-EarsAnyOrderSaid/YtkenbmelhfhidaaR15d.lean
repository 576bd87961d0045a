/- The contracts of osierref15.Rest and osierref16.Build. -/
import Derived.Test.YtkenbmelhfhidaaR15c
import Derived.Test.YtkenbmelhfhidaaBF
namespace Go.Proofs.Ytkenbmelhfhidaa
open Go.RowKit

attribute [local go_sem ↓] uz_and uz_or uz_andNot uz_and_one uz_shr uz_shl_one uz_shl uz_sub uz_sub_one uz_add uz_beq_zero uz_bne_zero uz_beq uz_bne uz_beq_one

theorem rises_uniq : ∀ {Z Y : List (BitVec 32)}, risesB Z → risesB Y → Z.Perm Y → Z = Y
  | [], Y, _, _, h => (List.nil_perm.1 h).symm
  | a :: Z, [], _, _, h => by cases List.perm_nil.1 h
  | a :: Z, b :: Y, hz, hy, h => by
    have hz' := List.pairwise_cons.1 hz
    have hy' := List.pairwise_cons.1 hy
    have hab : a = b := by
      apply BitVec.eq_of_toNat_eq
      have h1 : b.toNat ≤ a.toNat := by
        rcases List.mem_cons.1 (h.mem_iff.1 List.mem_cons_self) with e | e
        · rw [e]; exact Nat.le_refl _
        · exact hy'.1 a e
      have h2 : a.toNat ≤ b.toNat := by
        rcases List.mem_cons.1 (h.mem_iff.2 List.mem_cons_self) with e | e
        · rw [e]; exact Nat.le_refl _
        · exact hz'.1 b e
      omega
    subst hab
    rw [rises_uniq hz'.2 hy'.2 h.cons_inv]
theorem restIs_uniq {V : Int} {E : List (BitVec 32)} {keep : BitVec 32} {Z Y : List (BitVec 32)} {a b : Int} (h : RestIs V E keep Z a) (k : RestIs V E keep Y b) : Z = Y ∧ a = b := by
  rcases h with ⟨a1, a2, a3⟩ | ⟨a1, a2, a3, a4⟩ <;> rcases k with ⟨b1, b2, b3⟩ | ⟨b1, b2, b3, b4⟩
  · exact ⟨a2.trans b2.symm, a3.trans b3.symm⟩
  · rw [a1] at b1; cases b1
  · rw [a1] at b1; cases b1
  · exact ⟨rises_uniq a3 b3 (a4.trans b4.symm), a2.trans b2.symm⟩
theorem restIs_len {V : Int} {E : List (BitVec 32)} {keep : BitVec 32} {Z : List (BitVec 32)} {a : Int} (h : RestIs V E keep Z a) : Z.length ≤ 7 := by
  rcases h with ⟨_, rfl, _⟩ | ⟨hv, _, _, hp⟩
  · exact Nat.zero_le _
  · rw [hp.length_eq]
    have h1 := (runE_rch E keep).len
    rw [begin_len] at h1
    exact Nat.le_trans (setsOf_len _) (Nat.le_trans h1 (validB_of hv).2.2.1)

set_option maxHeartbeats 4000000 in
set_option maxRecDepth 100000 in
theorem r15rest_any (V : Int) (A : Option Addr) (E : List (BitVec 32)) (c : Nat) (keep : BitVec 32) (w : World) (hl : E.length ≤ 35184372087808) (hE : Rd w w.heap.size A (us E)) :
    Calls Try.prog 55 #[.agg #[.int .i64 V, .slice A E.length c], .int .u32 (uz keep)] w fun e w' => ∃ v Z code, e = .returned (.tuple #[v, .int .i64 code]) ∧ w'.ownsRow w.heap.size 39 1 v Z.length (us Z) ∧ Hid (RestIs V E keep Z code) ∧ Below w.heap.size w w' := by
  go_enter Try.func55, Try.ntmps55
  go_wp2_with fail
  have hb0 := below_alloc w (.cells #[.int .i64 V, .slice A E.length c] 24)
  generalize w.alloc _ = W0 at hb0 ⊢
  refine (r15run_any V A E c keep W0 hl (hE.later hb0)).mono ?_
  rintro e w1 ⟨v1, v2, ss, L, code, rfl, hown1, hown2, hRI, hb1⟩
  have hB1 := bthen hb0 hb1
  have h7 := runIs_len hRI.out
  obtain ⟨A1, c1, rfl, _, _, _, _⟩ := Rd.of_ownS hown1
  obtain ⟨A2, c2, rfl, _, _, hS, _⟩ := Rd.of_ownS hown2
  clear hown1 hown2 hb0 hb1 hE
  go_wp2_with fail
  refine (r15sets_any A2 L c2 w1 h7 hS).mono ?_
  rintro e w2 ⟨v, Z, rfl, hown, HZ, HP, hb2⟩
  have HR := Lib.hid (restIs_of hRI.out HZ.out HP.out)
  go_wp2_with fail
  go_ret2
  exact ⟨_, Z, code, rfl, own_less hown hB1.size, HR, bthen hB1 hb2⟩

theorem sets_pos {L : Lt} {keep : BitVec 32} {Z : List (BitVec 32)} (hs : Srt L) (st : Stuck L 0#32) (hp : Z.Perm (setsOf L)) (_ : keep = keep) : 0 < Z.length ↔ 1 < L.length := by
  have h1 := left_empty hs st
  rw [← setsOf_nil] at h1
  have h2 := hp.length_eq
  constructor
  · intro h
    rcases Nat.lt_or_ge 1 L.length with c | c
    · exact c
    · rw [h1.1 c, List.length_nil] at h2; omega
  · intro h
    rcases Nat.eq_zero_or_pos Z.length with c | c
    · rw [c] at h2
      have := h1.2 (List.eq_nil_of_length_eq_zero h2.symm)
      omega
    · exact c
def parTo (_n : Nat) (ss : List Stp) (k : Nat) : Nat → Int := fun i => if i < k then parOf ss i else 0
theorem updI_updI (f : Nat → Int) (k : Nat) (x y : Int) : updI (updI f k x) k y = updI f k y := by
  funext i; unfold updI; split <;> rfl
theorem parTo_next (n : Nat) (ss : List Stp) (k : Nat) : updI (parTo n ss k) k (parOf ss k) = parTo n ss (k + 1) := by
  funext i
  unfold updI parTo
  by_cases e : i = k
  · subst e; simp
  · rw [if_neg e]
    by_cases c : i < k
    · rw [if_pos c, if_pos (by omega)]
    · rw [if_neg c, if_neg (by omega)]

set_option maxHeartbeats 4000000 in
set_option maxRecDepth 100000 in
theorem r16build_any (V : Int) (A : Option Addr) (E : List (BitVec 32)) (c : Nat) (w : World) (hl : E.length ≤ 35184372087808) (hE : Rd w w.heap.size A (us E)) :
    Calls Try.prog 37 #[.agg #[.int .i64 V, .slice A E.length c]] w fun e w' => ∃ v Z code, e = .returned (.tuple #[v, .int .i64 code]) ∧ w'.ownsRow w.heap.size 3 1 v Z.length (is Z) ∧ Hid (BuildIs V E Z code) ∧ Below w.heap.size w w' := by
  go_enter Try.func37, Try.ntmps37
  go_wp2_with fail
  have hb0 := below_alloc w (.cells #[.int .i64 V, .slice A E.length c] 24)
  have hG0 : Row (w.alloc (.cells #[.int .i64 V, .slice A E.length c] 24)) w.heap.size 24 [.int .i64 V, .slice A E.length c] := Row.new _ _ _
  generalize w.alloc _ = W0 at hb0 hG0 ⊢
  have hrun := r15run_any V A E c 0#32 W0 hl (hE.later hb0)
  have huz : uz 0#32 = 0 := rfl
  rw [huz] at hrun
  clear huz
  refine hrun.mono ?_
  rintro e w1 ⟨v1, v2, ss, L, code, rfl, hown1, hown2, hRI, hb1⟩
  clear hrun
  have hB1 := bthen hb0 hb1
  have hG1 := hG0.later hb1
  obtain ⟨A1, c1, rfl, _, _, hS, _⟩ := Rd.of_ownS hown1
  obtain ⟨A2, c2, rfl, _, _, hL, _⟩ := Rd.of_ownS hown2
  have hL7 := runIs_len hRI.out
  clear hG0 hb0 hown1 hown2 hE hb1
  rcases hRI.out with ⟨hv, rfl, rfl, rfl⟩ | ⟨hv, hss, hLL, rfl⟩
  · have HP : Hid (BuildIs V E [] 140) := Lib.hid (.inl ⟨hv, rfl, rfl⟩)
    go_wp2_with fail
    go_ret2
    exact ⟨_, [], _, rfl, ⟨rfl, .inl ⟨rfl, rfl⟩⟩, HP, hB1⟩
  · have h7 := (validB_of hv).2.2.1
    have HPOS : Hid (∀ Z : List (BitVec 32), Z.Perm (setsOf L) → (0 < Z.length ↔ 1 < L.length)) := Lib.hid (fun Z hp => by
      rw [hLL] at hp ⊢
      exact sets_pos ((runE_rch E 0#32).srt (srt_begin E)) (runE_Stuck 0#32 h7) hp (rfl : (0#32 : BitVec 32) = 0#32))
    have HV := Lib.hid hv
    have HSS := Lib.hid hss
    have HLL := Lib.hid hLL
    clear hv hss hLL hRI
    go_wp2_with fail
    refine (r15sets_any A2 L c2 w1 hL7 hL).mono ?_
    rintro e w2 ⟨v, Z, rfl, hown, HZ, HP, hb2⟩
    obtain ⟨Az, cz, rfl, _, _, _, _⟩ := Rd.of_own hown
    have hB2 := bthen hB1 hb2
    have hG2 := hG1.later hb2
    have hS2 := hS.later hb2
    have HIFF := Lib.hid (HPOS.out Z HP.out)
    clear hown HZ HP hb2 hG1 hL hS hB1
    by_cases hz : 0 < Z.length
    · have HQ : Hid (BuildIs V E [] 161) := Lib.hid (.inr (.inl ⟨HV.out, by rw [← HLL.out]; exact HIFF.out.1 hz, rfl, rfl⟩))
      have hd : decide ((0 : Int) < (Z.length : Int)) = true := decide_eq_true (by omega)
      have hd2 : decide (0 < Z.length) = true := decide_eq_true hz
      go_wp2_with fail
      go_ret2
      exact ⟨_, [], _, rfl, ⟨rfl, .inl ⟨rfl, rfl⟩⟩, HQ, hB2⟩
    · have HQ : Hid (BuildIs V E (rowOf E.length (parOf ss)) 0) := Lib.hid (.inr (.inr ⟨HV.out, by
        rw [← HLL.out]
        rcases Nat.lt_or_ge 1 L.length with c | c
        · exact absurd (HIFF.out.2 c) hz
        · exact c, by rw [HSS.out], rfl⟩))
      have HIN : Hid (∀ s ∈ ss, ∃ i j : Nat, s.edge = i ∧ s.into = j ∧ i < E.length ∧ j < E.length) := Lib.hid (by
        rw [HSS.out]; exact steps_in (runE_rch E 0#32) (srt_begin E) fun x hx => (mem_begin.1 hx).1)
      have hsl : ss.length ≤ 232 := by rw [HSS.out]; exact runN_len _ _ _
      have hd : decide ((0 : Int) < (Z.length : Int)) = false := decide_eq_false (by omega)
      have hd2 : decide (0 < Z.length) = false := decide_eq_false hz
      have d1 : w2.cell? ⟨w.heap.size, 1, none⟩ = some (.slice A E.length c) := hG2.cell 1
      have hmk := mk_int E.length (by omega)
      clear hz HIFF HPOS
      go_wp2_with fail
      have hb3 := below_alloc w2 (.cells (zeros (.int .i64 0) E.length).toArray 3)
      have hR3 : Row (w2.alloc (.cells (zeros (.int .i64 0) E.length).toArray 3)) w2.heap.size 3 (is (rowOf E.length (parTo E.length ss 0))) := by
        have h := Row.new w2 3 (zeros (.int .i64 0) E.length)
        rw [rowOf_zeros] at h ⊢
        exact h
      have hB3 := bthen hB2 hb3
      have hS3 := hS2.below hb3
      have hwg : w.heap.size ≤ w2.heap.size := hB2.size
      generalize hg : w2.heap.size = g at hR3 hwg hS3 ⊢
      generalize w2.alloc _ = w3 at hR3 hB3 hS3 ⊢
      clear hb3 hmk hg hS2 hG2 hB2 d1
      go_loopw [29] (fun i wr => ∃ k : Nat, k ≤ E.length ∧ i = .int .i64 k ∧ Row wr g 3 (is (rowOf E.length (parTo E.length ss k))) ∧ Below g w3 wr) (fun i _ => E.length - (intOf i).toNat)
      case atStart => exact ⟨0, Nat.zero_le _, rfl, hR3, Below.refl _ _⟩
      case round =>
        obtain ⟨k, hk, rfl, hRk, hbk⟩ := hrel
        have hgl := hRk.lt
        by_cases hlt : k < E.length
        · have c1 : World.cell? wr ⟨g, k, none⟩ = some (.int .i64 (parTo E.length ss k k)) := (hRk.cell k).trans (rowOf_at _ _ _ hlt)
          have z1 := hRk.frozen k
          have a1 : (0 : Int) ≤ k := by omega
          have a2 : (k : Int) < E.length := by omega
          have hRn : ∀ x, Row (wr.setCell ⟨g, k, none⟩ (.int .i64 x)) g 3 (is (rowOf E.length (updI (parTo E.length ss k) k x))) := fun x => by
            have h2 := hRk.set_ k (.int .i64 x)
            rw [rowOf_set] at h2; exact h2
          have hR0 := hRn (-1)
          have hB0 := hbk.setCell (p := ⟨g, k, none⟩) (Nat.le_refl _) (.int .i64 (-1))
          have HPN := Lib.hid (parTo_next E.length ss k)
          generalize parTo E.length ss k = f at c1 hR0 HPN
          clear hRn hRk
          go_wp2_with fail
          generalize wr.setCell _ _ = w4 at hR0 hB0 ⊢
          go_loopw [9] (fun j ws => ∃ q : Nat, q ≤ ss.length ∧ j = .int .i64 q ∧ Row ws g 3 (is (rowOf E.length (updI f k (parOf (ss.take q) k)))) ∧ Below g w3 ws) (fun j _ => ss.length - (intOf j).toNat)
          case atStart => exact ⟨0, Nat.zero_le _, rfl, hR0, hB0⟩
          case round =>
            obtain ⟨q, hq, rfl, hRq, hbq⟩ := hrel
            by_cases hlq : q < ss.length
            · obtain ⟨ad, hA, hbl, q0, q1, q2, q3⟩ := (hS3.below hbq).st_cells hlq
              obtain ⟨i, j, e1, e2, hi, hj⟩ := HIN.out (stp ss q) (by rw [← stp_eq ss q hlq]; exact List.getElem_mem _)
              have HS := Lib.hid (take_snoc ss q hlq)
              rw [stp_eq ss q hlq] at HS
              have HN : Hid (parOf (ss.take (q + 1)) k = if (stp ss q).kind ≠ 1 ∧ (stp ss q).edge = k then (stp ss q).into else parOf (ss.take q) k) := Lib.hid (by
                rw [HS.out]; exact parOf_snoc _ (by rw [e2]; omega) k _)
              subst hA
              generalize stp ss q = s at q0 q1 q2 q3 e1 e2 HN
              obtain ⟨kd, ed', io, ct⟩ := s
              simp only at e1 e2 q0 q1 q2 q3
              subst e1 e2
              have b1 : (0 : Int) ≤ q := by omega
              have b2 : (q : Int) < ss.length := by omega
              have r1 : World.cell? wr ⟨g, k, none⟩ = some (.int .i64 (updI f k (parOf (ss.take q) k) k)) := (hRq.cell k).trans (rowOf_at _ _ _ hlt)
              have r2 := hRq.frozen k
              have hgl2 := hRq.lt
              have hset := hRq.set_ k (.int .i64 j)
              rw [rowOf_set] at hset
              by_cases hkd : kd = 1
              · have hkb : (kd != 1) = false := by simp [hkd]
                have HN2 : Hid (parOf (ss.take (q + 1)) k = parOf (ss.take q) k) := Lib.hid (by rw [HN.out]; exact if_neg fun c => c.1 hkd)
                clear hkd HN hset
                go_wp2_with fail
                go_roundw
                case rel => exact ⟨q + 1, by omega, by go_num, by rw [HN2.out]; exact hRq, hbq⟩
                case measure => simp [intOf]; omega
              · have hkb : (kd != 1) = true := by simp [hkd]
                by_cases hik : i = k
                · subst hik
                  have HN2 : Hid (parOf (ss.take (q + 1)) i = j) := Lib.hid (by rw [HN.out]; exact if_pos ⟨hkd, rfl⟩)
                  have e1 : ((i : Int) == (i : Int)) = true := by simp
                  have HST : Hid (Row (World.setCell wr ⟨g, i, none⟩ (.int .i64 j)) g 3 (is (rowOf E.length (updI f i j)))) := Lib.hid (by
                    have := hset
                    rw [show (fun j_1 => if j_1 = i then ((j : Nat) : Int) else updI f i (parOf (ss.take q) i) j_1) = updI f i j from updI_updI f i _ _] at this
                    exact this)
                  clear hkd HN hset
                  go_wp2_with fail
                  go_roundw
                  case rel => exact ⟨q + 1, by omega, by go_num, by rw [HN2.out]; exact HST.out, hbq.setCell (Nat.le_refl _) _⟩
                  case measure => simp [intOf]; omega
                · have e1 : ((i : Int) == (k : Int)) = false := by rw [beq_eq_false_iff_ne]; omega
                  have HN2 : Hid (parOf (ss.take (q + 1)) k = parOf (ss.take q) k) := Lib.hid (by rw [HN.out]; exact if_neg fun c => hik (by have := c.2; simp only at this; omega))
                  clear hkd hik HN hset
                  go_wp2_with fail
                  go_roundw
                  case rel => exact ⟨q + 1, by omega, by go_num, by rw [HN2.out]; exact hRq, hbq⟩
                  case measure => simp [intOf]; omega
            · obtain rfl : q = ss.length := by omega
              rw [List.take_length, HPN.out] at hRq
              go_wp2_with fail
              go_roundw
              case rel => exact ⟨k + 1, by omega, by go_num, hRq, hbq⟩
              case measure => simp [intOf]; omega
        · obtain rfl : k = E.length := by omega
          have HE : Hid (rowOf E.length (parTo E.length ss E.length) = rowOf E.length (parOf ss)) := Lib.hid (rowOf_congr fun i hi => by unfold parTo; rw [if_pos hi])
          rw [HE.out] at hRk
          go_wp2_with fail
          go_ret2
          exact ⟨_, _, _, rfl, by simpa using hRk.own hwg (by unfold maxLen; simp; omega), HQ, hB3.trans (hbk.mono hwg)⟩
end Go.Proofs.Ytkenbmelhfhidaa
