/- The contract of jointree.Build. -/
import Derived.Test.YtkenbmelhfhidaaEars6
import Derived.Test.YtkenbmelhfhidaaRep
import Derived.Test.YtkenbmelhfhidaaStMem2
import Derived.Test.YtkenbmelhfhidaaJtLaw3
namespace Go.Proofs.Ytkenbmelhfhidaa
open Go.RowKit

attribute [local go_sem ↓] uz_and uz_or uz_andNot uz_and_one uz_shr uz_shl_one uz_shl uz_sub uz_sub_one uz_add uz_beq_zero uz_bne_zero uz_beq uz_bne uz_beq_one

theorem parOf_snoc (s : Stp) (h : s.into ≠ -1) (i : Nat) : ∀ ss : List Stp, parOf (ss ++ [s]) i = if s.kind ≠ 1 ∧ s.edge = i then s.into else parOf ss i
  | [] => by
    show (if (-1 : Int) ≠ -1 then _ else _) = _
    rw [if_neg (by simp)]; rfl
  | a :: ss => by
    show (if parOf (ss ++ [s]) i ≠ -1 then parOf (ss ++ [s]) i else _) = _
    rw [parOf_snoc s h i ss]
    by_cases c : s.kind ≠ 1 ∧ s.edge = i
    · rw [if_pos c, if_pos h, if_pos c]
    · rw [if_neg c, if_neg c]
      rfl
theorem steps_in {keep : BitVec 32} {L M : Lt} {ss : List Stp} {n : Nat} (r : Rch keep L ss M) (hs : Srt L) (hn : ∀ x ∈ L, x.1 < n) : ∀ s ∈ ss, ∃ i j : Nat, s.edge = i ∧ s.into = j ∧ i < n ∧ j < n := by
  induction r with
  | nil => intro s h; cases h
  | @cons L M s ss h r ih =>
    intro t ht
    rcases List.mem_cons.1 ht with rfl | ht
    · rcases h.cases hs with ⟨x, hx, _, rfl⟩ | ⟨x, hx, y, hy, k, _, _, _, rfl⟩
      · exact ⟨x.1, 0, rfl, rfl, hn x hx, by have := hn x hx; omega⟩
      · exact ⟨x.1, y.1, rfl, rfl, hn x hx, hn y hy⟩
    · exact ih hs.make (fun y hy => by obtain ⟨x, hx, e⟩ := make_key hy; rw [← e]; exact hn x hx) t ht
/-- What Build answers. -/
def BuildIs (V : Int) (E : List (BitVec 32)) (Z : List Int) (code : Int) : Prop :=
  (validB V E = false ∧ Z = [] ∧ code = 140) ∨ (validB V E = true ∧ 1 < (runE E 0#32).2.length ∧ Z = [] ∧ code = 161) ∨
  (validB V E = true ∧ (runE E 0#32).2.length ≤ 1 ∧ Z = rowOf E.length (parOf (runE E 0#32).1) ∧ code = 0)
theorem buildIs_uniq {V : Int} {E : List (BitVec 32)} {Z Y : List Int} {a b : Int} (h : BuildIs V E Z a) (k : BuildIs V E Y b) : Z = Y ∧ a = b := by
  rcases h with ⟨a1, a2, a3⟩ | ⟨a1, a2, a3, a4⟩ | ⟨a1, a2, a3, a4⟩ <;> rcases k with ⟨b1, b2, b3⟩ | ⟨b1, b2, b3, b4⟩ | ⟨b1, b2, b3, b4⟩ <;>
  first
    | (rw [a1] at b1; cases b1; done)
    | omega
    | exact ⟨a2.trans b2.symm, a3.trans b3.symm⟩
    | exact ⟨a3.trans b3.symm, a4.trans b4.symm⟩
theorem buildIs_len {V : Int} {E : List (BitVec 32)} {Z : List Int} {a : Int} (h : BuildIs V E Z a) : Z.length ≤ 7 := by
  rcases h with ⟨_, rfl, _⟩ | ⟨_, _, rfl, _⟩ | ⟨a1, _, rfl, _⟩
  · simp
  · simp
  · simp; exact (validB_of a1).2.2.1
/-- What Build tells is a join tree, and where it tells none there is none. -/
theorem buildIs_jt {V : Int} {E : List (BitVec 32)} {Z : List Int} {a : Int} (h : BuildIs V E Z a) : (a = 0 → Z.length = E.length ∧ validB V E = true ∧ JT E (pz Z)) ∧ (a ≠ 0 → Z = [] ∧ ((validB V E = false ∧ a = 140) ∨ (validB V E = true ∧ a = 161 ∧ ¬ ∃ p, JT E p))) := by
  rcases h with ⟨a1, a2, a3⟩ | ⟨a1, a2, a3, a4⟩ | ⟨a1, a2, a3, a4⟩
  · exact ⟨fun e => by omega, fun _ => ⟨a2, .inl ⟨a1, a3⟩⟩⟩
  · refine ⟨fun e => by omega, fun _ => ⟨a3, .inr ⟨a1, a4, fun hp => ?_⟩⟩⟩
    have := (left_iff (runE_rch E 0#32) (runE_Stuck 0#32 (validB_of a1).2.2.1)).2 hp
    omega
  · refine ⟨fun _ => ⟨by rw [a3]; simp, a1, ?_⟩, fun e => absurd a4 e⟩
    have h1 := jt_of_reach (runE_rch E 0#32) a2
    have e : ∀ i, i < E.length → pz Z i = parOf (runE E 0#32).1 i := fun i hi => by
      rw [a3, ← pz_eq _ i (by simpa using hi)]; simp [rowOf]
    obtain ⟨⟨t1, ⟨d, t2⟩, t3⟩, t4⟩ := h1
    refine ⟨⟨fun i hi => by rw [e i hi]; exact t1 i hi, ⟨d, fun i hi h0 => by rw [e i hi] at h0 ⊢; exact t2 i hi h0⟩, fun i j hi hj x y => t3 i j hi hj (by rw [← e i hi]; exact x) (by rw [← e j hj]; exact y)⟩, fun v i j hi hj x y => ?_⟩
    have tp : ∀ i, i < E.length → Top E (pz Z) v i → Top E (parOf (runE E 0#32).1) v i := fun i hi x => by unfold Top at x ⊢; rw [e i hi] at x; exact x
    exact t4 v i j hi hj (tp i hi x) (tp j hj y)

set_option maxHeartbeats 2000000 in
set_option maxRecDepth 100000 in
theorem build_any (V : Int) (A : Option Addr) (E : List (BitVec 32)) (c : Nat) (w : World) (hl : E.length ≤ 35184372087808) (hE : Rd w w.heap.size A (us E)) :
    Calls Try.prog 36 #[.agg #[.int .i64 V, .slice A E.length c]] w fun e w' => ∃ v Z code, e = .returned (.tuple #[v, .int .i64 code]) ∧ w'.ownsRow w.heap.size 3 1 v Z.length (is Z) ∧ Hid (BuildIs V E Z code) ∧ Below w.heap.size w w' := by
  go_enter Try.func36, Try.ntmps36
  go_wp2_with fail
  have hb0 := below_alloc w (.cells #[.int .i64 V, .slice A E.length c] 24)
  have hG0 : Row (w.alloc (.cells #[.int .i64 V, .slice A E.length c] 24)) w.heap.size 24 [.int .i64 V, .slice A E.length c] := Row.new _ _ _
  generalize w.alloc _ = W0 at hb0 hG0 ⊢
  have hrun := run_any V A E c 0#32 W0 hl (hE.later hb0)
  have huz : uz 0#32 = 0 := rfl
  rw [huz] at hrun
  clear huz
  refine hrun.mono ?_
  rintro e w1 ⟨v1, v2, ss, L, code, rfl, hown1, hown2, hRI, hb1⟩
  clear hrun
  have hB1 := bthen hb0 hb1
  have hG1 := hG0.later hb1
  obtain ⟨A1, c1, rfl, _, _, hS, _⟩ := Rd.of_ownS hown1
  obtain ⟨A2, c2, rfl, _, _, _, _⟩ := Rd.of_ownS hown2
  have d1 : w1.cell? ⟨w.heap.size, 1, none⟩ = some (.slice A E.length c) := hG1.cell 1
  have hlt0 := hG1.lt
  clear hG0 hb0 hG1 hown1 hown2
  rcases hRI.out with ⟨hv, rfl, rfl, rfl⟩ | ⟨hv, hss, hL, rfl⟩
  · have HP : Hid (BuildIs V E [] 140) := Lib.hid (.inl ⟨hv, rfl, rfl⟩)
    go_wp2_with fail
    go_ret2
    exact ⟨_, [], _, rfl, ⟨rfl, .inl ⟨rfl, rfl⟩⟩, HP, hB1⟩
  · by_cases hL1 : 1 < L.length
    · have HP : Hid (BuildIs V E [] 161) := Lib.hid (.inr (.inl ⟨hv, by rw [← hL]; exact hL1, rfl, rfl⟩))
      have hd : decide ((1 : Int) < (L.length : Int)) = true := decide_eq_true (by omega)
      clear hv hss hL
      go_wp2_with fail
      go_ret2
      exact ⟨_, [], _, rfl, ⟨rfl, .inl ⟨rfl, rfl⟩⟩, HP, hB1⟩
    · have h7 := (validB_of hv).2.2.1
      have HP : Hid (BuildIs V E (rowOf E.length (parOf ss)) 0) := Lib.hid (.inr (.inr ⟨hv, by rw [← hL]; omega, by rw [hss], rfl⟩))
      have HIN : Hid (∀ s ∈ ss, ∃ i j : Nat, s.edge = i ∧ s.into = j ∧ i < E.length ∧ j < E.length) := Lib.hid (by
        rw [hss]; exact steps_in (runE_rch E 0#32) (srt_begin E) fun x hx => (mem_begin.1 hx).1)
      have hsl : ss.length ≤ 232 := by rw [hss]; exact runN_len _ _ _
      have hd : decide ((1 : Int) < (L.length : Int)) = false := decide_eq_false (by omega)
      clear hv hss hL hL1
      go_wp2_with fail
      have hb2 := below_alloc w1 (.cells #[.int .i64 (-1)] 3)
      have hcx : (w1.alloc (.cells #[.int .i64 (-1)] 3)).cell? ⟨w1.heap.size, 0, none⟩ = some (.int .i64 (-1)) := by simp
      have hB2 := bthen hB1 hb2
      have hS2 := hS.later hb2
      generalize hbx : w1.heap.size = bx at hcx ⊢
      generalize w1.alloc _ = w2 at hb2 hcx hB2 hS2 ⊢
      refine (repeat_any bx E.length w2 h7 hcx).mono ?_
      rintro e w3 ⟨g, rfl, hg, hR, hb3⟩
      have hB3 := bthen hB2 hb3
      have hS3 := hS2.below hb3
      have hwg : w.heap.size ≤ g := by have := hB2.size; omega
      clear hS hb2 hcx hS2 d1 hb1 hbx
      go_wp2_with fail
      go_loopw [29, 9] (fun j _ wr => ∃ k : Nat, k ≤ ss.length ∧ j = .int .i64 k ∧ Row wr g 3 (is (rowOf E.length (parOf (ss.take k)))) ∧ Below g w3 wr) (fun j _ _ => ss.length - (intOf j).toNat)
      case atStart =>
        refine ⟨0, Nat.zero_le _, rfl, ?_, Below.refl _ _⟩
        have e : rowOf E.length (parOf (ss.take 0)) = rowOf E.length (fill E.length) := rowOf_congr fun i hi => by
          rw [List.take_zero]; unfold fill; rw [if_pos hi]; rfl
        rw [e]; exact hR
      case round =>
        obtain ⟨k, hk, rfl, hRk, hbk⟩ := hrel
        by_cases hlt : k < ss.length
        · have hSk := (hS3.mono hg).below hbk
          obtain ⟨ad, hA, hbl, q0, q1, q2, q3⟩ := hSk.st_cells hlt
          obtain ⟨i, j, e1, e2, hi, hj⟩ := HIN.out (stp ss k) (by rw [← stp_eq ss k hlt]; exact List.getElem_mem _)
          have HS := Lib.hid (take_snoc ss k hlt)
          rw [stp_eq ss k hlt] at HS
          have HN : Hid (∀ m, parOf (ss.take (k + 1)) m = if (stp ss k).kind ≠ 1 ∧ (stp ss k).edge = m then (stp ss k).into else parOf (ss.take k) m) := Lib.hid (fun m => by
            rw [HS.out]; exact parOf_snoc _ (by rw [e2]; omega) m _)
          subst hA
          generalize stp ss k = s at q0 q1 q2 q3 e1 e2 HN
          obtain ⟨kd, ed', io, ct⟩ := s
          simp only at e1 e2 q0 q1 q2 q3
          subst e1 e2
          have a1 : (0 : Int) ≤ i := by omega
          have a2 : (i : Int) < E.length := by omega
          have r1 : wr.cell? ⟨g, i, none⟩ = some (.int .i64 (parOf (ss.take k) i)) := (hRk.cell i).trans (rowOf_at _ _ _ hi)
          have r2 := hRk.frozen i
          have hgl : g < wr.heap.size := hRk.lt
          by_cases hkd : kd = 1
          · have hkb : (kd != 1) = false := by simp [hkd]
            have HK := Lib.hid hkd
            clear hkd
            go_wp2_with fail
            go_roundw
            case rel =>
              refine ⟨k + 1, by omega, by go_num, ?_, hbk.alloc (Nat.le_of_lt hRk.lt) _⟩
              rw [rowOf_congr (g := parOf (ss.take k)) fun m _ => by rw [HN.out m]; exact if_neg fun c => c.1 HK.out]
              exact hRk.alloc _
            case measure => simp [intOf]; omega
          · have hkb : (kd != 1) = true := by simp [hkd]
            have HK := Lib.hid hkd
            clear hkd
            go_wp2_with fail
            go_roundw
            case rel =>
              refine ⟨k + 1, by omega, by go_num, ?_, (hbk.setCell (Nat.le_refl _) _).alloc (by simp; omega) _⟩
              have h2 := hRk.set_ i (.int .i64 j)
              rw [rowOf_set] at h2
              rw [rowOf_congr (g := fun m => if m = i then (j : Int) else parOf (ss.take k) m) fun m _ => by
                rw [HN.out m]
                by_cases e : m = i
                · subst e; rw [if_pos ⟨HK.out, rfl⟩, if_pos rfl]
                · rw [if_neg fun c => e (ni.1 c.2).symm, if_neg e]]
              exact h2.alloc _
            case measure => simp [intOf]; omega
        · obtain rfl : k = ss.length := by omega
          rw [List.take_length] at hRk
          go_wp2_with fail
          go_ret2
          exact ⟨_, _, _, rfl, by simpa using hRk.own hwg (by unfold maxLen; simp; omega), HP, hB3.trans (hbk.mono hwg)⟩
end Go.Proofs.Ytkenbmelhfhidaa
