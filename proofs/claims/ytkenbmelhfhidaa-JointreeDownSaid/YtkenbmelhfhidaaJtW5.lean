/- The contracts of osierref16.way, has, Between. -/
import Derived.Test.YtkenbmelhfhidaaJtW4
import Derived.Test.YtkenbmelhfhidaaOwn
namespace Go.Proofs.Ytkenbmelhfhidaa
open Go.RowKit

theorem nat_snoc (l : List Nat) (k : Nat) : (l ++ [k]).map Int.ofNat = l.map Int.ofNat ++ [(k : Int)] := by simp
set_option maxHeartbeats 2000000 in
set_option maxRecDepth 100000 in
theorem way_any (A : Option Addr) (P : List Int) (c i : Nat) (w : World) (hl : P.length ≤ 7) (hP : Rd w w.heap.size A (is P)) (ht : Tree P.length (pz P)) (hi : i < P.length) :
    Calls Try.prog 88 #[.slice A P.length c, .int .i64 i] w fun e w' => ∃ v, e = .returned v ∧ w'.ownsRow w.heap.size 3 1 v (way P.length (pz P) i).length (is ((way P.length (pz P) i).map Int.ofNat)) ∧ Below w.heap.size w w' := by
  have HT := Lib.hid ht
  have hu := Lib.hid (ht.reach i hi)
  clear ht
  go_enter Try.func88, Try.ntmps88
  go_wp2_with fail
  go_loopg [5, 6] P.length (fun gk v a wr => ∃ (m : Nat) (l : List Nat) (y : Int), gk = P.length - m ∧ m ≤ P.length ∧ l.length = m ∧ a = .int .i64 y ∧ -1 ≤ y ∧ y < P.length ∧ Hid (way P.length (pz P) i = l ++ wayF (pz P) (P.length - m) y) ∧ Hid (up (pz P) (P.length - m) y = -1) ∧
    wr.ownsRow w.heap.size 3 1 v (l.map Int.ofNat).length (is (l.map Int.ofNat)) ∧ Below w.heap.size w wr)
  case atStart => exact ⟨0, [], i, rfl, Nat.zero_le _, rfl, rfl, by omega, by omega, rfl, hu, ⟨rfl, .inl ⟨rfl, rfl⟩⟩, Below.refl _ _⟩
  case round =>
    obtain ⟨m, l, y, rfl, hm, hlm, rfl, hy1, hy2, HW, HU, hown, hb⟩ := hrel
    by_cases hy : 0 ≤ y
    · obtain ⟨j, rfl⟩ := Int.eq_ofNat_of_zero_le hy
      have hj : j < P.length := by omega
      have hmn : m < P.length := by
        rcases Nat.lt_or_ge m P.length with d | d
        · exact d
        · have h1 := HU.out
          rw [show P.length - m = 0 by omega] at h1
          have h1 : (j : Int) = -1 := h1
          omega
      have hr := HT.out.rng j hj
      have HW2 : Hid (way P.length (pz P) i = (l ++ [j]) ++ wayF (pz P) (P.length - (m + 1)) (pz P j)) := Lib.hid (by
        have e : wayF (pz P) (P.length - m) (j : Int) = j :: wayF (pz P) (P.length - (m + 1)) (pz P j) := by
          rw [show P.length - m = (P.length - (m + 1)) + 1 by omega]
          conv => lhs; unfold wayF
          rw [if_neg (by omega), Int.toNat_natCast]
        rw [HW.out, e]; simp)
      have HU2 : Hid (up (pz P) (P.length - (m + 1)) (pz P j) = -1) := Lib.hid (by
        have h1 := HU.out
        rw [show P.length - m = (P.length - (m + 1)) + 1 by omega, up_nat] at h1
        exact h1)
      clear HW HU hy
      go_wp2_with ((with_reducible show wpList _ _ _ _ _ _); refine app_int rfl (.tmp 14) (.tmp 16) rfl w.heap.size _ _ (l.map Int.ofNat) j rfl rfl hown (by simp; omega) hb.size ?_)
      intro v' w1 hown1 hb1
      have hB1 := hb.trans hb1
      obtain ⟨ad, hA, _, hc⟩ := (hP.later hB1).p_at hj
      subst hA
      generalize pz P j = z at hc hr HW2 HU2
      clear hb1 hown
      go_wp2_with fail
      go_roundg (P.length - (m + 1))
      case measure => omega
      case rel =>
        refine ⟨m + 1, l ++ [j], z, rfl, by omega, by simp [hlm], rfl, hr.1, hr.2, HW2, HU2, ?_, hB1⟩
        rw [nat_snoc, List.length_append, List.length_map, hlm]
        exact hown1
    · obtain rfl : y = -1 := by omega
      have HE : Hid (way P.length (pz P) i = l) := Lib.hid (by rw [HW.out, wayF_neg _ (by omega), List.append_nil])
      rw [List.length_map] at hown
      go_wp2_with fail
      go_ret
      exact ⟨_, rfl, by rw [HE.out]; exact hown, hb⟩
/-- Does it stand in the list? -/
def hasB (l : List Nat) (x : Nat) : Bool := l.contains x
theorem has_any (A : Option Addr) (Z : List Nat) (c x : Nat) (w : World) (hl : Z.length ≤ 35184372087808) (hZ : Rd w w.heap.size A (is (Z.map Int.ofNat))) :
    Calls Try.prog 111 #[.slice A Z.length c, .int .i64 x] w fun e w' => e = .returned (.bool (hasB Z x)) ∧ w = w' := by
  go_enter Try.func111, Try.ntmps111
  go_wp2_with fail
  go_loop [5] (fun i => ∃ k : Nat, k ≤ Z.length ∧ i = .int .i64 k ∧ Hid (x ∉ Z.take k)) (fun i => Z.length - (intOf i).toNat)
  case atStart => exact ⟨0, Nat.zero_le _, rfl, Lib.hid (by simp)⟩
  case round =>
    obtain ⟨k, hk, rfl, hno⟩ := hrel
    by_cases hlt : k < Z.length
    · obtain ⟨ad, hA, _, hc⟩ := hZ.z_at hlt
      subst hA
      have HS := Lib.hid (take_snoc Z k hlt)
      rw [zed_eq Z k hlt] at HS
      have HM := Lib.hid (zed_mem Z k hlt)
      generalize zed Z k = y at hc HS HM
      by_cases hy : y = x
      · subst hy
        have hf : Hid (hasB Z y = true) := Lib.hid (by unfold hasB; simpa using HM.out)
        go_wp2_with fail
        go_ret
        exact ⟨by first | rfl | (rw [hf.out]; rfl), rfl⟩
      · have hyb : ((y : Int) == (x : Int)) = false := by simp; omega
        have HN : Hid (x ∉ Z.take (k + 1)) := Lib.hid (by
          rw [HS.out, List.mem_append, List.mem_singleton]
          rintro (a | a)
          · exact hno.out a
          · exact hy a.symm)
        clear hy
        go_wp2_with fail
        go_round
        case rel => exact ⟨k + 1, by omega, by go_num, HN⟩
        case measure => simp [intOf]; omega
    · have hf : Hid (hasB Z x = false) := Lib.hid (by
        unfold hasB
        have h1 := hno.out
        rw [List.take_of_length_le (by omega)] at h1
        simpa using h1)
      go_wp2_with fail
      go_ret
      exact ⟨by first | rfl | (rw [hf.out]; rfl), rfl⟩

/-- The first of a's first k that stands in b; -1 if none does. -/
def meetTo (a b : List Nat) (k : Nat) : Int := meetOf (a.take k) b
theorem meetOf_lo (a b : List Nat) : -1 ≤ meetOf a b := by unfold meetOf; split <;> omega
theorem meetTo_next {a b : List Nat} {k : Nat} (hk : k < a.length) : meetTo a b (k + 1) = if meetTo a b k < 0 ∧ hasB b (zed a k) = true then (zed a k : Int) else meetTo a b k := by
  unfold meetTo meetOf hasB
  rw [take_snoc a k hk, zed_eq a k hk, List.find?_append]
  cases h : (a.take k).find? fun x => b.contains x with
  | none =>
    by_cases c : zed a k ∈ b
    · simp [c]
    · simp [c]
  | some y => simp; omega
theorem takeWhile_at {a : List Nat} {m k : Nat} (h : ∀ x ∈ a.take k, x ≠ m) (hk : k < a.length) (hm : zed a k = m) : a.takeWhile (fun x => x != m) = a.take k := by
  induction a generalizing k with
  | nil => simp at hk
  | cons x a ih =>
    cases k with
    | zero =>
      have : x = m := by simpa [zed] using hm
      simp [this]
    | succ k =>
      have hx : x ≠ m := h x (by simp)
      rw [List.takeWhile_cons, if_pos (by simpa using hx), List.take_succ_cons, ih (k := k) (fun y hy => h y (by simp [hy])) (by simpa using hk) (by simpa [zed] using hm)]

set_option maxHeartbeats 4000000 in
set_option maxRecDepth 100000 in
theorem between_any (A : Option Addr) (P : List Int) (c i j : Nat) (w : World) (hl : P.length ≤ 7) (hP : Rd w w.heap.size A (is P)) (ht : Tree P.length (pz P)) (hi : i < P.length) (hj : j < P.length) :
    Calls Try.prog 83 #[.slice A P.length c, .int .i64 i, .int .i64 j] w fun e w' => ∃ v, e = .returned v ∧
      w'.ownsRow w.heap.size 3 1 v (betweenL (way P.length (pz P) i) (way P.length (pz P) j)).length (is ((betweenL (way P.length (pz P) i) (way P.length (pz P) j)).map Int.ofNat)) ∧ Below w.heap.size w w' := by
  have hwl : ∀ i, i < P.length → (way P.length (pz P) i).length ≤ 7 := fun i hi => by
    have : ∀ f y, (wayF (pz P) f y).length ≤ f := by
      intro f
      induction f with
      | zero => intro y; exact Nat.le_refl _
      | succ f ih => intro y; unfold wayF; split <;> simp; exact ih _
    exact Nat.le_trans (this _ _) hl
  obtain ⟨m, hm, hmn, hma, hmb, _⟩ := ht.meet hi hj
  have hla := hwl i hi
  have hlb := hwl j hj
  have hwa := way_any A P c i w hl hP ht hi
  have hwb := fun w' hb => way_any A P c j w' hl (hP.later hb) ht hj
  go_enter Try.func83, Try.ntmps83
  clear ht hwl
  unfold betweenL
  rw [hm, Int.toNat_natCast]
  have HM := Lib.hid hm
  have HMA := Lib.hid hma
  have HMB := Lib.hid hmb
  have HWB := Lib.hid hwb
  clear hm hma hmb hwb
  generalize way P.length (pz P) i = a at hwa HM HMA hla ⊢
  generalize way P.length (pz P) j = b at HWB HM HMB hlb ⊢
  go_wp2_with fail
  refine hwa.mono ?_
  rintro e w1 ⟨va, rfl, howna, hb1⟩
  go_wp2_with fail
  refine (HWB.out w1 hb1).mono ?_
  rintro e w2 ⟨vb, rfl, hownb, hb2⟩
  obtain ⟨Aa, ca, rfl, _, _, hra, _⟩ := Rd.of_own howna
  obtain ⟨Ab, cb, rfl, _, _, hrb, _⟩ := Rd.of_own hownb
  have hra2 := hra.later hb2
  have hB2 := bthen hb1 hb2
  clear hwa HWB howna hownb hra hb1 hb2 hP
  go_wp2_with fail
  go_loop [10, 11] (fun mt x => ∃ k : Nat, k ≤ a.length ∧ x = .int .i64 k ∧ mt = .int .i64 (meetTo a b k)) (fun _ x => a.length - (intOf x).toNat)
  case atStart => exact ⟨0, Nat.zero_le _, rfl, rfl⟩
  case round =>
    obtain ⟨k, hk, rfl, rfl⟩ := hrel
    have hlo := meetOf_lo (a.take k) b
    by_cases hlt : k < a.length
    · obtain ⟨ad, hA, _, hc⟩ := hra2.z_at hlt
      subst hA
      have HN := Lib.hid (meetTo_next (b := b) hlt)
      have hlo : -1 ≤ meetTo a b k := hlo
      generalize zed a k = x at hc HN
      generalize meetTo a b k = mt at HN hlo ⊢
      have hh := has_any Ab b cb x w2 (by omega) hrb
      cases hx : hasB b x
      · have HN2 : Hid (meetTo a b (k + 1) = mt) := Lib.hid (by rw [HN.out, hx]; simp)
        rw [hx] at hh
        clear hx
        go_wp2_with fail
        refine hh.mono ?_
        rintro e w3 ⟨rfl, rfl⟩
        go_wp2_with fail
        go_round
        case rel => exact ⟨k + 1, by omega, by go_num, by rw [HN2.out]⟩
        case measure => simp [intOf]; omega
      · rw [hx] at hh
        by_cases hneg : mt < 0
        · have HN2 : Hid (meetTo a b (k + 1) = x) := Lib.hid (by rw [HN.out, hx, if_pos ⟨hneg, rfl⟩])
          have hnb : decide (mt < 0) = true := by simpa using hneg
          clear hx hneg
          go_wp2_with fail
          refine hh.mono ?_
          rintro e w3 ⟨rfl, rfl⟩
          go_wp2_with fail
          go_round
          case rel => exact ⟨k + 1, by omega, by go_num, by rw [HN2.out]⟩
          case measure => simp [intOf]; omega
        · have HN2 : Hid (meetTo a b (k + 1) = mt) := Lib.hid (by rw [HN.out, if_neg fun c => hneg c.1])
          have hnb : decide (mt < 0) = false := by simpa using hneg
          clear hx hneg
          go_wp2_with fail
          refine hh.mono ?_
          rintro e w3 ⟨rfl, rfl⟩
          go_wp2_with fail
          go_round
          case rel => exact ⟨k + 1, by omega, by go_num, by rw [HN2.out]⟩
          case measure => simp [intOf]; omega
    · obtain rfl : k = a.length := by omega
      have e : meetTo a b a.length = m := by unfold meetTo; rw [List.take_length]; exact HM.out
      rw [e]
      clear hlo e
      go_wp2_with fail
      go_loopw [9, 12] (fun v x wr => ∃ k : Nat, k ≤ a.length ∧ x = .int .i64 k ∧ Hid (∀ y ∈ a.take k, y ≠ m) ∧ wr.ownsRow w2.heap.size 3 1 v ((a.take k).map Int.ofNat).length (is ((a.take k).map Int.ofNat)) ∧ Below w2.heap.size w2 wr) (fun _ x _ => a.length - (intOf x).toNat)
      case atStart => exact ⟨0, Nat.zero_le _, rfl, Lib.hid (by simp), ⟨rfl, .inl ⟨rfl, rfl⟩⟩, Below.refl _ _⟩
      case round =>
        obtain ⟨k, hk, rfl, hno, hown, hb⟩ := hrel
        have HLEN : Hid (((a.take k).map Int.ofNat).length = k) := Lib.hid (by simp; omega)
        have hkl : ((a.take k).map Int.ofNat).length ≤ 7 := by rw [HLEN.out]; omega
        by_cases hlt : k < a.length
        · obtain ⟨ad, hA, _, hc⟩ := (hra2.later hb).z_at hlt
          subst hA
          have HS := Lib.hid (take_snoc a k hlt)
          rw [zed_eq a k hlt] at HS
          have HTW := Lib.hid (takeWhile_at hno.out hlt)
          generalize zed a k = x at hc HS HTW
          generalize hys : (a.take k).map Int.ofNat = ys at hown HLEN hkl
          have HYS := Lib.hid hys
          clear hys
          by_cases hxm : x = m
          · have hxb : ((x : Int) != (m : Int)) = false := by simp [hxm]
            have HTW2 := Lib.hid (HTW.out hxm)
            clear hxm
            go_wp2_with fail
            go_loopw [9, 13] (fun v x ws => ∃ q : Nat, q ≤ b.length ∧ x = .int .i64 q ∧ Hid (∀ y ∈ b.take q, y ≠ m) ∧ ws.ownsRow w2.heap.size 3 1 v (ys ++ (b.take q).map Int.ofNat).length (is (ys ++ (b.take q).map Int.ofNat)) ∧ Below w2.heap.size w2 ws) (fun _ x _ => b.length - (intOf x).toNat)
            case atStart => exact ⟨0, Nat.zero_le _, rfl, Lib.hid (by simp), by rw [List.take_zero, List.map_nil, List.append_nil]; exact hown, hb⟩
            case round =>
              obtain ⟨q, hq, rfl, hno2, hown2, hb2⟩ := hrel
              have hkl2 : (ys ++ (b.take q).map Int.ofNat).length ≤ 14 := by rw [List.length_append, List.length_map, List.length_take]; omega
              by_cases hlt2 : q < b.length
              · obtain ⟨ad2, hA2, _, hc2⟩ := (hrb.later hb2).z_at hlt2
                subst hA2
                have HS2 := Lib.hid (take_snoc b q hlt2)
                rw [zed_eq b q hlt2] at HS2
                have HTX := Lib.hid (takeWhile_at hno2.out hlt2)
                generalize zed b q = x2 at hc2 HS2 HTX
                generalize hzs : ys ++ (b.take q).map Int.ofNat = zs at hown2 hkl2
                have HZS := Lib.hid hzs
                clear hzs
                by_cases hxm : x2 = m
                · have hxb2 : ((x2 : Int) != (m : Int)) = false := by simp [hxm]
                  have HTX2 := Lib.hid (HTX.out hxm)
                  clear hxm
                  go_wp2_with ((with_reducible show wpList _ _ _ _ _ _); refine app_int rfl (.tmp 82) (.tmp 84) rfl w2.heap.size _ _ zs m rfl rfl hown2 (by omega) hb2.size ?_)
                  intro v' w3 hown3 hb3
                  clear hown2
                  go_wp2_with fail
                  go_ret
                  refine ⟨_, rfl, ?_, bthen hB2 (hb2.trans hb3)⟩
                  have e : (a.takeWhile (fun x => x != m) ++ b.takeWhile (fun x => x != m) ++ [m]).map Int.ofNat = zs ++ [(m : Int)] := by
                    rw [HTW2.out, HTX2.out, ← HZS.out, ← HYS.out]; simp
                  have e2 : (a.takeWhile (fun x => x != m) ++ b.takeWhile (fun x => x != m) ++ [m]).length = zs.length + 1 := by
                    rw [← List.length_map (f := Int.ofNat), e, List.length_append]; rfl
                  rw [e, e2]
                  exact own_less hown3 hB2.size
                · have hxb2 : ((x2 : Int) != (m : Int)) = true := by simp; omega
                  have HNO : Hid (∀ y ∈ b.take (q + 1), y ≠ m) := Lib.hid (fun y hy => by
                    rw [HS2.out, List.mem_append, List.mem_singleton] at hy
                    rcases hy with hy | hy
                    · exact hno2.out y hy
                    · subst hy; exact hxm)
                  clear hxm
                  go_wp2_with ((with_reducible show wpList _ _ _ _ _ _); refine app_int rfl (.tmp 75) (.tmp 80) rfl w2.heap.size _ _ zs x2 rfl rfl hown2 (by omega) hb2.size ?_)
                  intro v' w3 hown3 hb3
                  clear hown2
                  go_wp2_with fail
                  go_roundw
                  case rel =>
                    refine ⟨q + 1, by omega, by go_num, HNO, ?_, hb2.trans hb3⟩
                    rw [HS2.out, nat_snoc, ← List.append_assoc, HZS.out, List.length_append]
                    exact hown3
                  case measure => simp [intOf]; omega
              · exfalso
                have h1 := HMB.out
                have h2 := hno2.out
                rw [List.take_of_length_le (by omega)] at h2
                exact h2 m h1 rfl
          · have hxb : ((x : Int) != (m : Int)) = true := by simp; omega
            have HNO : Hid (∀ y ∈ a.take (k + 1), y ≠ m) := Lib.hid (fun y hy => by
              rw [HS.out, List.mem_append, List.mem_singleton] at hy
              rcases hy with hy | hy
              · exact hno.out y hy
              · subst hy; exact hxm)
            clear hxm
            go_wp2_with ((with_reducible show wpList _ _ _ _ _ _); refine app_int rfl (.tmp 54) (.tmp 59) rfl w2.heap.size _ _ ys x rfl rfl hown (by omega) hb.size ?_)
            intro v' w3 hown3 hb3
            clear hown
            go_wp2_with fail
            go_roundw
            case rel =>
              refine ⟨k + 1, by omega, by go_num, HNO, ?_, hb.trans hb3⟩
              rw [HS.out, nat_snoc, HYS.out, List.length_append]
              exact hown3
            case measure => simp [intOf]; omega
        · exfalso
          have h1 := HMA.out
          have h2 := hno.out
          rw [List.take_of_length_le (by omega)] at h2
          exact h2 m h1 rfl
end Go.Proofs.Ytkenbmelhfhidaa
