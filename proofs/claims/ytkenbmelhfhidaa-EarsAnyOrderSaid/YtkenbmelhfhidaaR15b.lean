/- The contract of osierref15.Steps. -/
import Derived.Test.YtkenbmelhfhidaaBD
namespace Go.Proofs.Ytkenbmelhfhidaa
open Go.RowKit

attribute [local go_sem ↓] uz_and uz_or uz_andNot uz_and_one uz_shr uz_shl_one uz_shl uz_sub uz_sub_one uz_add uz_beq_zero uz_bne_zero uz_beq uz_bne uz_beq_one

theorem flat_take {α β : Type} {f : α → List β} {l : List α} {k : Nat} (h : k < l.length) : (l.take (k + 1)).flatMap f = (l.take k).flatMap f ++ f l[k] := by
  rw [take_snoc l k h, List.flatMap_append]; simp
theorem flat_lft {β : Type} {f : Nat × BitVec 32 → List β} {L : Lt} {k : Nat} (h : k < L.length) : (L.take (k + 1)).flatMap f = (L.take k).flatMap f ++ f (lft L k) := by
  rw [flat_take h, lft_eq L k h]
theorem nat_dec (i j : Nat) : decide ((i : Int) < (j : Int)) = decide (i < j) := by
  rw [Bool.eq_iff_iff, decide_eq_true_iff, decide_eq_true_iff]; omega
theorem own_drewN {w : World} {base : Nat} {e : TypeId} {size : Nat} {v : Value} {n : Nat} {xs : List Value} (h : w.ownsRow base e size v n xs) (m : Nat) : (w.drewN m).ownsRow base e size v n xs := h
def trimL (L : Lt) (keep : BitVec 32) (k : Nat) : List Stp := (L.take k).flatMap (trimOf L keep)
theorem trimL_t {L : Lt} {keep c : BitVec 32} {k : Nat} (hk : k < L.length) (hc : cutE L keep (lft L k) = c) (h : c ≠ 0#32) : trimL L keep (k + 1) = trimL L keep k ++ [⟨1, (lft L k).1, 0, c⟩] := by
  unfold trimL; rw [flat_lft hk]; unfold trimOf; rw [hc, if_neg h]
theorem trimL_f {L : Lt} {keep c : BitVec 32} {k : Nat} (hk : k < L.length) (hc : cutE L keep (lft L k) = c) (h : c = 0#32) : trimL L keep (k + 1) = trimL L keep k := by
  unfold trimL; rw [flat_lft hk]; unfold trimOf; rw [hc, if_pos h]; simp
/-- The pairs that a double loop has seen: k whole rows, and m of the next. -/
def rows2 (f : Nat × BitVec 32 → Nat × BitVec 32 → List Stp) (L : Lt) (k : Nat) : List Stp := (L.take k).flatMap fun x => L.flatMap (f x)
def row2 (f : Nat × BitVec 32 → Nat × BitVec 32 → List Stp) (L : Lt) (k m : Nat) : List Stp := (L.take m).flatMap (f (lft L k))
theorem row2_zero (f : Nat × BitVec 32 → Nat × BitVec 32 → List Stp) (L : Lt) (k : Nat) : row2 f L k 0 = [] := by simp [row2]
theorem row2_next {f : Nat × BitVec 32 → Nat × BitVec 32 → List Stp} {L : Lt} {k m : Nat} (h : m < L.length) : row2 f L k (m + 1) = row2 f L k m ++ f (lft L k) (lft L m) := by
  unfold row2; rw [flat_lft h]
theorem rows2_next {f : Nat × BitVec 32 → Nat × BitVec 32 → List Stp} {L : Lt} {k : Nat} (h : k < L.length) : rows2 f L (k + 1) = rows2 f L k ++ row2 f L k L.length := by
  unfold rows2 row2; rw [flat_take h, lft_eq L k h, List.take_length]
theorem row2_done {f : Nat × BitVec 32 → Nat × BitVec 32 → List Stp} {L : Lt} {k : Nat} (h : ∀ m, k ≤ m → m < L.length → f (lft L k) (lft L m) = []) : ∀ m, k ≤ m → m ≤ L.length → row2 f L k m = row2 f L k k
  | 0, h0, _ => by obtain rfl : k = 0 := by omega
                   rfl
  | m + 1, h0, hm => by
    rcases Nat.lt_or_ge m k with c | c
    · obtain rfl : k = m + 1 := by omega
      rfl
    · rw [row2_next (by omega), h m c (by omega), List.append_nil]
      exact row2_done h m c (by omega)
theorem steps_rows (L : Lt) (keep : BitVec 32) : stepsE L keep = ((trimL L keep L.length ++ rows2 sameOf L L.length) ++ rows2 underOf L L.length) ++ rows2 backOf L L.length := by
  unfold stepsE trimL rows2
  rw [List.take_length]
  simp [List.append_assoc]
theorem same_t {x y : Nat × BitVec 32} (h1 : x.1 < y.1) (h2 : (x.2 == y.2) = true) : sameOf x y = [⟨2, y.1, x.1, 0#32⟩] := by unfold sameOf; rw [if_pos ⟨h1, by simpa using h2⟩]
theorem same_f {x y : Nat × BitVec 32} (h2 : (x.2 == y.2) = false) : sameOf x y = [] := by unfold sameOf; rw [if_neg fun c => by simp [c.2] at h2]
theorem same_n {x y : Nat × BitVec 32} (h1 : ¬ x.1 < y.1) : sameOf x y = [] := by unfold sameOf; rw [if_neg fun c => h1 c.1]
theorem back_t {x y : Nat × BitVec 32} (h1 : y.1 < x.1) (h2 : (x.2 == y.2) = true) : backOf x y = [⟨2, y.1, x.1, 0#32⟩] := by unfold backOf; rw [if_pos ⟨h1, by simpa using h2⟩]
theorem back_f {x y : Nat × BitVec 32} (h2 : (x.2 == y.2) = false) : backOf x y = [] := by unfold backOf; rw [if_neg fun c => by simp [c.2] at h2]
theorem back_n {x y : Nat × BitVec 32} (h1 : ¬ y.1 < x.1) : backOf x y = [] := by unfold backOf; rw [if_neg fun c => h1 c.1]
theorem under_t {x y : Nat × BitVec 32} (h1 : (x.2 != y.2) = true) (h2 : subB x.2 y.2 = true) : underOf x y = [⟨3, x.1, y.1, 0#32⟩] := by unfold underOf; rw [if_pos ⟨by simpa using h1, h2⟩]
theorem under_e {x y : Nat × BitVec 32} (h1 : (x.2 != y.2) = false) : underOf x y = [] := by unfold underOf; rw [if_neg fun c => by simp [c.1] at h1]
theorem under_f {x y : Nat × BitVec 32} (h2 : subB x.2 y.2 = false) : underOf x y = [] := by unfold underOf; rw [if_neg fun c => by rw [h2] at c; cases c.2]

set_option maxHeartbeats 8000000 in
set_option maxRecDepth 100000 in
theorem r15steps_any (A : Option Addr) (L : Lt) (c : Nat) (keep : BitVec 32) (w : World) (hl : L.length ≤ 7) (hs : Srt L) (hL : Rd w w.heap.size A (lfs L)) :
    Calls Try.prog 64 #[.slice A L.length c, .int .u32 (uz keep)] w fun e w' => ∃ v, e = .returned v ∧ w'.ownsRow w.heap.size 68 4 v (stepsE L keep).length (sts (stepsE L keep)) ∧ (stepsE L keep).length ≤ 200 ∧ Below w.heap.size w w' := by
  have HR := Lib.hid (steps_rows L keep)
  have HS := Lib.hid hs
  clear hs
  go_enter Try.func64, Try.ntmps64
  go_wp2_with fail
  go_loopw [5, 6, 7] (fun v i _ wr => ∃ (k : Nat) (M : List Stp), k ≤ L.length ∧ i = .int .i64 k ∧ Hid (M = trimL L keep k) ∧ M.length ≤ k ∧ wr.ownsRow w.heap.size 68 4 v M.length (sts M) ∧ Below w.heap.size w wr) (fun _ i _ _ => L.length - (intOf i).toNat)
  case atStart => exact ⟨0, [], Nat.zero_le _, rfl, Lib.hid rfl, Nat.zero_le _, ⟨rfl, .inl ⟨rfl, rfl⟩⟩, Below.refl _ _⟩
  case round =>
    obtain ⟨k, M, hk, rfl, HM, hml, hown, hb⟩ := hrel
    obtain ⟨wr, ewr, hb⟩ : ∃ wr : World, wr = _ ∧ Below w.heap.size w wr := ⟨_, rfl, hb⟩
    subst ewr
    by_cases hlt : k < L.length
    · obtain ⟨ad, hA, hbl, q0, q1⟩ := (hL.later hb).lf_cells hlt
      have HO := Lib.hid (r15others_any A L c k wr hl HS.out hlt (hL.later hb))
      have HT := Lib.hid (trimL_t (keep := keep) (c := cutE L keep (lft L k)) hlt rfl)
      have HF := Lib.hid (trimL_f (keep := keep) (c := cutE L keep (lft L k)) hlt rfl)
      subst hA
      unfold cutE at HT HF
      have b1 : (0 : Int) ≤ k := by omega
      have b2 : (k : Int) < L.length := by omega
      generalize othersE L (lft L k).1 = o at HO HT HF
      generalize lft L k = x at q0 q1 HT HF
      obtain ⟨i, x⟩ := x
      simp only at q0 q1 HT HF
      by_cases hz : (x &&& ~~~keep) &&& ~~~o = 0#32
      · have hzb : ((x &&& ~~~keep) &&& ~~~o != 0#32) = false := by simp [hz]
        have HN := Lib.hid (HF.out hz)
        clear hz HT HF
        go_wp2_with (first | (go_at_call 74; refine (r14less_any _ _ _).mono ?_; rintro e w' ⟨rfl, rfl⟩) | (go_at_call 95; refine HO.out.mono ?_; rintro e w' ⟨rfl, rfl⟩))
        go_roundw
        case rel => exact ⟨k + 1, M, by omega, by go_num, Lib.hid (by rw [HN.out]; exact HM.out), by omega, hown, hb⟩
        case measure => simp [intOf]; omega
      · have hzb : ((x &&& ~~~keep) &&& ~~~o != 0#32) = true := by simp [hz]
        have HN := Lib.hid (HT.out hz)
        clear hz HT HF
        go_wp2_with (first | (go_at_call 74; refine (r14less_any _ _ _).mono ?_; rintro e w' ⟨rfl, rfl⟩) | (go_at_call 95; refine HO.out.mono ?_; rintro e w' ⟨rfl, rfl⟩) | ((with_reducible show wpList _ _ _ _ _ _); refine app_rstep rfl (.tmp 33) (.tmp 41) rfl w.heap.size _ M ⟨1, i, 0, (x &&& ~~~keep) &&& ~~~o⟩ rfl rfl hown (by omega) hb.size ?_))
        intro v' w' hown' _ hb'
        go_wp2_with fail
        go_roundw
        case rel => exact ⟨k + 1, M ++ [⟨1, i, 0, (x &&& ~~~keep) &&& ~~~o⟩], by omega, by go_num, Lib.hid (by rw [HN.out, HM.out]), by simp; omega, by rw [List.length_append]; exact hown', hb.trans hb'⟩
        case measure => simp [intOf]; omega
    · obtain rfl : k = L.length := by omega
      rw [HM.out] at hml hown
      clear HM M
      generalize hM1 : trimL L keep L.length = M1 at hml hown
      have HM1 := Lib.hid hM1
      clear hM1 hlt hk
      go_wp2_with fail
      go_loopw [5, 8, 9] (fun v i _ wr => ∃ (k : Nat) (M : List Stp), k ≤ L.length ∧ i = .int .i64 k ∧ Hid (M = M1 ++ rows2 sameOf L k) ∧ M.length ≤ 7 + 7 * k ∧ wr.ownsRow w.heap.size 68 4 v M.length (sts M) ∧ Below w.heap.size w wr) (fun _ i _ _ => L.length - (intOf i).toNat)
      case atStart => exact ⟨0, M1, Nat.zero_le _, rfl, Lib.hid (by simp [rows2]), by omega, hown, hb⟩
      case round =>
        obtain ⟨k, M, hk, rfl, HM, hml, hown, hb⟩ := hrel
        obtain ⟨wr, ewr, hb⟩ : ∃ wr : World, wr = _ ∧ Below w.heap.size w wr := ⟨_, rfl, hb⟩
        subst ewr
        by_cases hlt : k < L.length
        · go_wp2_with fail
          go_loopw [5, 9] (fun v i wr => ∃ (m : Nat) (M' : List Stp), m ≤ L.length ∧ i = .int .i64 m ∧ Hid (M' = M ++ row2 sameOf L k m) ∧ M'.length ≤ 7 + 7 * k + m ∧ wr.ownsRow w.heap.size 68 4 v M'.length (sts M') ∧ Below w.heap.size w wr) (fun _ i _ => L.length - (intOf i).toNat)
          case atStart => exact ⟨0, M, Nat.zero_le _, rfl, Lib.hid (by rw [row2_zero, List.append_nil]), by omega, hown, hb⟩
          case round =>
            obtain ⟨m, M', hm, rfl, HM', hml', hown, hb⟩ := hrel
            obtain ⟨wr, ewr, hb⟩ : ∃ wr : World, wr = _ ∧ Below w.heap.size w wr := ⟨_, rfl, hb⟩
            subst ewr
            by_cases hltm : m < L.length
            · obtain ⟨ad, hA, hbl, q0, q1⟩ := (hL.later hb).lf_cells hlt
              obtain ⟨ad2, hA2, hbl2, q2, q3⟩ := (hL.later hb).lf_cells hltm
              subst hA
              obtain rfl : ad = ad2 := by injection hA2
              have HN := Lib.hid (row2_next (f := sameOf) (k := k) hltm)
              have hord : k < m → (lft L k).1 < (lft L m).1 := fun h => HS.out.lft_lt h hltm
              have hord2 : ¬ k < m → ¬ (lft L k).1 < (lft L m).1 := fun h => by
                rcases Nat.lt_or_eq_of_le (Nat.le_of_not_lt h) with c | c
                · have := HS.out.lft_lt c hlt; omega
                · rw [c]; omega
              have b1 : (0 : Int) ≤ k := by omega
              have b2 : (k : Int) < L.length := by omega
              have b3 : (0 : Int) ≤ m := by omega
              have b4 : (m : Int) < L.length := by omega
              generalize lft L k = x at q0 q1 HN hord hord2
              generalize lft L m = y at q2 q3 HN hord hord2
              by_cases hkm : k < m
              · have d1 : decide (k < m) = true := by simpa using hkm
                have d2 : decide ((k : Int) < (m : Int)) = true := by rw [nat_dec]; exact d1
                have HORD := Lib.hid (hord hkm)
                clear hord hord2 hkm hA2
                cases hxy : (x.2 == y.2)
                · have HN2 : Hid (row2 sameOf L k (m + 1) = row2 sameOf L k m) := Lib.hid (by rw [HN.out, same_f hxy, List.append_nil])
                  clear HN
                  go_wp2_with fail
                  go_quiet (fail)
                  go_wp2_with fail
                  go_roundw
                  case rel => exact ⟨m + 1, M', by omega, by go_num, Lib.hid (by rw [HN2.out]; exact HM'.out), by omega, hown, below_drewN hb _⟩
                  case measure => simp [intOf]; omega
                · have HN2 : Hid (row2 sameOf L k (m + 1) = row2 sameOf L k m ++ [⟨2, y.1, x.1, 0#32⟩]) := Lib.hid (by rw [HN.out, same_t HORD.out hxy])
                  clear HN
                  go_wp2_with fail
                  go_quiet (fail)
                  go_upto_region 15 with fail
                  have hb2 := below_drewN hb nq
                  have hown2 := own_drewN hown nq
                  replace q0 : (wr.drewN nq).cell? (ad.add (k * 2)) = some (.int .i64 x.1) := q0
                  replace q2 : (wr.drewN nq).cell? (ad.add (m * 2)) = some (.int .i64 y.1) := q2
                  clear hown hb q1 q3
                  generalize wr.drewN nq = w2 at q0 q2 hb2 hown2 ⊢
                  go_region_law (first | (refine step_rstep (wr := w2.drew) rfl (.tmp 71) (.tmp 83) rfl w.heap.size _ M' ⟨2, y.1, x.1, 0#32⟩ rfl rfl (own_drewN hown2 1) (by omega) hb2.size ?_; intro g' c' w' hown' hgr' hb' hg'))
                  all_goals
                    go_wp2_with fail
                    go_roundw
                    case rel => exact ⟨m + 1, M' ++ [⟨2, y.1, x.1, 0#32⟩], by omega, by go_num, Lib.hid (by rw [HN2.out, HM'.out, List.append_assoc]), by simp; omega, by rw [List.length_append]; exact hown', hb2.trans (below_undrew2 hb')⟩
                    case measure => simp [intOf]; omega
              · have d1 : decide (k < m) = false := by simpa using hkm
                have d2 : decide ((k : Int) < (m : Int)) = false := by rw [nat_dec]; exact d1
                have HN2 : Hid (row2 sameOf L k (m + 1) = row2 sameOf L k m) := Lib.hid (by rw [HN.out, same_n (hord2 hkm), List.append_nil])
                clear HN hord hord2 hkm hA2
                go_wp2_with fail
                go_quiet (fail)
                go_wp2_with fail
                go_roundw
                case rel => exact ⟨m + 1, M', by omega, by go_num, Lib.hid (by rw [HN2.out]; exact HM'.out), by omega, hown, below_drewN hb _⟩
                case measure => simp [intOf]; omega
            · obtain rfl : m = L.length := by omega
              have HN := Lib.hid (rows2_next (f := sameOf) hlt)
              go_wp2_with fail
              go_roundw
              case rel => exact ⟨k + 1, M', by omega, by go_num, Lib.hid (by rw [HM'.out, HN.out, HM.out, List.append_assoc]), by omega, hown, hb⟩
              case measure => simp [intOf]; omega
        · obtain rfl : k = L.length := by omega
          rw [HM.out] at hml hown
          clear HM M
          generalize hM2 : M1 ++ rows2 sameOf L L.length = M2 at hml hown
          have HM2 := Lib.hid hM2
          clear hM2 hlt hk
          go_wp2_with fail
          go_loopw [5, 10, 11] (fun v i _ wr => ∃ (k : Nat) (M : List Stp), k ≤ L.length ∧ i = .int .i64 k ∧ Hid (M = M2 ++ rows2 underOf L k) ∧ M.length ≤ 56 + 7 * k ∧ wr.ownsRow w.heap.size 68 4 v M.length (sts M) ∧ Below w.heap.size w wr) (fun _ i _ _ => L.length - (intOf i).toNat)
          case atStart => exact ⟨0, M2, Nat.zero_le _, rfl, Lib.hid (by simp [rows2]), by omega, hown, hb⟩
          case round =>
            obtain ⟨k, M, hk, rfl, HM, hml, hown, hb⟩ := hrel
            obtain ⟨wr, ewr, hb⟩ : ∃ wr : World, wr = _ ∧ Below w.heap.size w wr := ⟨_, rfl, hb⟩
            subst ewr
            by_cases hlt : k < L.length
            · go_wp2_with fail
              go_loopw [5, 11] (fun v i wr => ∃ (m : Nat) (M' : List Stp), m ≤ L.length ∧ i = .int .i64 m ∧ Hid (M' = M ++ row2 underOf L k m) ∧ M'.length ≤ 56 + 7 * k + m ∧ wr.ownsRow w.heap.size 68 4 v M'.length (sts M') ∧ Below w.heap.size w wr) (fun _ i _ => L.length - (intOf i).toNat)
              case atStart => exact ⟨0, M, Nat.zero_le _, rfl, Lib.hid (by rw [row2_zero, List.append_nil]), by omega, hown, hb⟩
              case round =>
                obtain ⟨m, M', hm, rfl, HM', hml', hown, hb⟩ := hrel
                obtain ⟨wr, ewr, hb⟩ : ∃ wr : World, wr = _ ∧ Below w.heap.size w wr := ⟨_, rfl, hb⟩
                subst ewr
                by_cases hltm : m < L.length
                · obtain ⟨ad, hA, hbl, q0, q1⟩ := (hL.later hb).lf_cells hlt
                  obtain ⟨ad2, hA2, hbl2, q2, q3⟩ := (hL.later hb).lf_cells hltm
                  subst hA
                  obtain rfl : ad = ad2 := by injection hA2
                  have HN := Lib.hid (row2_next (f := underOf) (k := k) hltm)
                  have b1 : (0 : Int) ≤ k := by omega
                  have b2 : (k : Int) < L.length := by omega
                  have b3 : (0 : Int) ≤ m := by omega
                  have b4 : (m : Int) < L.length := by omega
                  generalize lft L k = x at q0 q1 HN
                  generalize lft L m = y at q2 q3 HN
                  clear hA2
                  cases hxy : (x.2 != y.2)
                  · have HN2 : Hid (row2 underOf L k (m + 1) = row2 underOf L k m) := Lib.hid (by rw [HN.out, under_e hxy, List.append_nil])
                    clear HN
                    go_wp2_with fail
                    go_quiet (fail)
                    go_wp2_with fail
                    go_roundw
                    case rel => exact ⟨m + 1, M', by omega, by go_num, Lib.hid (by rw [HN2.out]; exact HM'.out), by omega, hown, below_drewN hb _⟩
                    case measure => simp [intOf]; omega
                  · cases hsb : subB x.2 y.2
                    · have HN2 : Hid (row2 underOf L k (m + 1) = row2 underOf L k m) := Lib.hid (by rw [HN.out, under_f hsb, List.append_nil])
                      have HW : Hid (∀ w, Calls Try.prog 57 #[.int .u32 (uz x.2), .int .u32 (uz y.2)] w fun e w' => e = .returned (.bool false) ∧ w = w') := Lib.hid (fun w => by rw [← hsb]; exact within_any _ _ w)
                      clear HN hsb
                      go_wp2_with fail
                      go_quiet ((go_at_call 57; exact pure_quiet HW.out))
                      go_wp2_with fail
                      go_roundw
                      case rel => exact ⟨m + 1, M', by omega, by go_num, Lib.hid (by rw [HN2.out]; exact HM'.out), by omega, hown, below_drewN hb _⟩
                      case measure => simp [intOf]; omega
                    · have HN2 : Hid (row2 underOf L k (m + 1) = row2 underOf L k m ++ [⟨3, x.1, y.1, 0#32⟩]) := Lib.hid (by rw [HN.out, under_t hxy hsb])
                      have HW : Hid (∀ w, Calls Try.prog 57 #[.int .u32 (uz x.2), .int .u32 (uz y.2)] w fun e w' => e = .returned (.bool true) ∧ w = w') := Lib.hid (fun w => by rw [← hsb]; exact within_any _ _ w)
                      clear HN hsb
                      go_wp2_with fail
                      go_quiet ((go_at_call 57; exact pure_quiet HW.out))
                      go_upto_region 23 with fail
                      have hb2 := below_drewN hb nq
                      have hown2 := own_drewN hown nq
                      replace q0 : (wr.drewN nq).cell? (ad.add (k * 2)) = some (.int .i64 x.1) := q0
                      replace q2 : (wr.drewN nq).cell? (ad.add (m * 2)) = some (.int .i64 y.1) := q2
                      clear hown hb q1 q3 HW
                      generalize wr.drewN nq = w2 at q0 q2 hb2 hown2 ⊢
                      go_region_law (first | (refine step_rstep (wr := w2.drew) rfl (.tmp 121) (.tmp 133) rfl w.heap.size _ M' ⟨3, x.1, y.1, 0#32⟩ rfl rfl (own_drewN hown2 1) (by omega) hb2.size ?_; intro g' c' w' hown' hgr' hb' hg'))
                      all_goals
                        go_wp2_with fail
                        go_roundw
                        case rel => exact ⟨m + 1, M' ++ [⟨3, x.1, y.1, 0#32⟩], by omega, by go_num, Lib.hid (by rw [HN2.out, HM'.out, List.append_assoc]), by simp; omega, by rw [List.length_append]; exact hown', hb2.trans (below_undrew2 hb')⟩
                        case measure => simp [intOf]; omega
                · obtain rfl : m = L.length := by omega
                  have HN := Lib.hid (rows2_next (f := underOf) hlt)
                  go_wp2_with fail
                  go_roundw
                  case rel => exact ⟨k + 1, M', by omega, by go_num, Lib.hid (by rw [HM'.out, HN.out, HM.out, List.append_assoc]), by omega, hown, hb⟩
                  case measure => simp [intOf]; omega
            · obtain rfl : k = L.length := by omega
              rw [HM.out] at hml hown
              clear HM M
              generalize hM3 : M2 ++ rows2 underOf L L.length = M3 at hml hown
              have HM3 := Lib.hid hM3
              clear hM3 hlt hk
              go_wp2_with fail
              go_loopw [5, 12, 13] (fun v i _ wr => ∃ (k : Nat) (M : List Stp), k ≤ L.length ∧ i = .int .i64 k ∧ Hid (M = M3 ++ rows2 backOf L k) ∧ M.length ≤ 105 + 7 * k ∧ wr.ownsRow w.heap.size 68 4 v M.length (sts M) ∧ Below w.heap.size w wr) (fun _ i _ _ => L.length - (intOf i).toNat)
              case atStart => exact ⟨0, M3, Nat.zero_le _, rfl, Lib.hid (by simp [rows2]), by omega, hown, hb⟩
              case round =>
                obtain ⟨k, M, hk, rfl, HM, hml, hown, hb⟩ := hrel
                obtain ⟨wr, ewr, hb⟩ : ∃ wr : World, wr = _ ∧ Below w.heap.size w wr := ⟨_, rfl, hb⟩
                subst ewr
                by_cases hlt : k < L.length
                · go_wp2_with fail
                  go_loopw [5, 13] (fun v i wr => ∃ (m : Nat) (M' : List Stp), m ≤ k ∧ i = .int .i64 m ∧ Hid (M' = M ++ row2 backOf L k m) ∧ M'.length ≤ 105 + 7 * k + m ∧ wr.ownsRow w.heap.size 68 4 v M'.length (sts M') ∧ Below w.heap.size w wr) (fun _ i _ => k - (intOf i).toNat)
                  case atStart => exact ⟨0, M, Nat.zero_le _, rfl, Lib.hid (by rw [row2_zero, List.append_nil]), by omega, hown, hb⟩
                  case round =>
                    obtain ⟨m, M', hm, rfl, HM', hml', hown, hb⟩ := hrel
                    obtain ⟨wr, ewr, hb⟩ : ∃ wr : World, wr = _ ∧ Below w.heap.size w wr := ⟨_, rfl, hb⟩
                    subst ewr
                    by_cases hltm : m < k
                    · have hltl : m < L.length := by omega
                      obtain ⟨ad, hA, hbl, q0, q1⟩ := (hL.later hb).lf_cells hlt
                      obtain ⟨ad2, hA2, hbl2, q2, q3⟩ := (hL.later hb).lf_cells hltl
                      subst hA
                      obtain rfl : ad = ad2 := by injection hA2
                      have HN := Lib.hid (row2_next (f := backOf) (k := k) hltl)
                      have HORD := Lib.hid (HS.out.lft_lt hltm hlt)
                      have b1 : (0 : Int) ≤ k := by omega
                      have b2 : (k : Int) < L.length := by omega
                      have b3 : (0 : Int) ≤ m := by omega
                      have b4 : (m : Int) < L.length := by omega
                      generalize lft L k = x at q0 q1 HN HORD
                      generalize lft L m = y at q2 q3 HN HORD
                      clear hA2
                      cases hxy : (x.2 == y.2)
                      · have HN2 : Hid (row2 backOf L k (m + 1) = row2 backOf L k m) := Lib.hid (by rw [HN.out, back_f hxy, List.append_nil])
                        clear HN
                        go_wp2_with fail
                        go_quiet (fail)
                        go_wp2_with fail
                        go_roundw
                        case rel => exact ⟨m + 1, M', by omega, by go_num, Lib.hid (by rw [HN2.out]; exact HM'.out), by omega, hown, below_drewN hb _⟩
                        case measure => simp [intOf]; omega
                      · have HN2 : Hid (row2 backOf L k (m + 1) = row2 backOf L k m ++ [⟨2, y.1, x.1, 0#32⟩]) := Lib.hid (by rw [HN.out, back_t HORD.out hxy])
                        clear HN
                        go_wp2_with fail
                        go_quiet (fail)
                        go_upto_region 31 with fail
                        have hb2 := below_drewN hb nq
                        have hown2 := own_drewN hown nq
                        replace q0 : (wr.drewN nq).cell? (ad.add (k * 2)) = some (.int .i64 x.1) := q0
                        replace q2 : (wr.drewN nq).cell? (ad.add (m * 2)) = some (.int .i64 y.1) := q2
                        clear hown hb q1 q3
                        generalize wr.drewN nq = w2 at q0 q2 hb2 hown2 ⊢
                        go_region_law (first | (refine step_rstep (wr := w2.drew) rfl (.tmp 157) (.tmp 169) rfl w.heap.size _ M' ⟨2, y.1, x.1, 0#32⟩ rfl rfl (own_drewN hown2 1) (by omega) hb2.size ?_; intro g' c' w' hown' hgr' hb' hg'))
                        all_goals
                          go_wp2_with fail
                          go_roundw
                          case rel => exact ⟨m + 1, M' ++ [⟨2, y.1, x.1, 0#32⟩], by omega, by go_num, Lib.hid (by rw [HN2.out, HM'.out, List.append_assoc]), by simp; omega, by rw [List.length_append]; exact hown', hb2.trans (below_undrew2 hb')⟩
                          case measure => simp [intOf]; omega
                    · obtain rfl : m = k := by omega
                      have HN := Lib.hid (rows2_next (f := backOf) hlt)
                      have HD := Lib.hid (row2_done (f := backOf) (L := L) (k := m) (fun q h1 h2 => back_n (fun h3 => by
                        rcases Nat.lt_or_eq_of_le h1 with c | c
                        · have := HS.out.lft_lt c h2; omega
                        · rw [c] at h3; omega)) L.length hk (Nat.le_refl _))
                      go_wp2_with fail
                      go_roundw
                      case rel => exact ⟨m + 1, M', by omega, by go_num, Lib.hid (by rw [HM'.out, HN.out, HM.out, HD.out, List.append_assoc]), by omega, hown, hb⟩
                      case measure => simp [intOf]; omega
                · obtain rfl : k = L.length := by omega
                  have HE : Hid (M = stepsE L keep) := Lib.hid (by rw [HR.out, HM1.out, HM2.out, HM3.out]; exact HM.out)
                  go_wp2_with fail
                  go_ret
                  exact ⟨_, rfl, by rw [← HE.out]; exact hown, by rw [← HE.out]; omega, hb⟩
end Go.Proofs.Ytkenbmelhfhidaa
