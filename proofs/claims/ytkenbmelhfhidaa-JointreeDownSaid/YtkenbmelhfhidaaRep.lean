/- slices.Repeat of one number, for few. -/
import Derived.Test.YtkenbmelhfhidaaZed
import Derived.Deep.RegionLaw
import Derived.IntWalk
namespace Go.Proofs.Ytkenbmelhfhidaa
open Go.RowKit

theorem mul64_few (n : Nat) (h : n ≤ 7) (w : World) : Calls Try.prog 122 #[.int .u64 1, .int .u64 n] w fun e w' => e = .returned (.tuple #[.int .u64 0, .int .u64 n]) ∧ w = w' := by
  have hc : n = 0 ∨ n = 1 ∨ n = 2 ∨ n = 3 ∨ n = 4 ∨ n = 5 ∨ n = 6 ∨ n = 7 := by omega
  rcases hc with rfl | rfl | rfl | rfl | rfl | rfl | rfl | rfl
  all_goals
    go_enter Try.func122, Try.ntmps122
    go_wp2
    go_ret2
    exact ⟨rfl, rfl⟩
theorem mul_few (n : Nat) (h : n ≤ 7) (w : World) : Calls Try.prog 112 #[.int .u64 1, .int .u64 n] w fun e w' => e = .returned (.tuple #[.int .u64 0, .int .u64 n]) ∧ w = w' := by
  go_enter Try.func112, Try.ntmps112
  go_wp2_with fail
  refine (mul64_few n h w).mono ?_
  rintro e w' ⟨rfl, rfl⟩
  go_wp2
  go_ret2
  exact ⟨rfl, rfl⟩
/-- The first k are -1, the others 0. -/
def fill (k : Nat) : Nat → Int := fun i => if i < k then -1 else 0
theorem fill_splice (n k m : Nat) (h : k + m ≤ n) : splice (is (rowOf n (fill k))) k (List.replicate m (.int .i64 (-1))) = is (rowOf n (fill (k + m))) := by
  apply List.ext_getElem?
  intro i
  unfold splice
  have hlen : (is (rowOf n (fill k))).length = n := by simp
  rcases Nat.lt_or_ge i k with c | c
  · rw [List.getElem?_append_left (by rw [List.length_take, hlen]; omega), List.getElem?_take_of_lt c, rowOf_at _ _ _ (by omega), rowOf_at _ _ _ (by omega)]
    unfold fill; rw [if_pos c, if_pos (by omega)]
  · rcases Nat.lt_or_ge i (k + m) with d | d
    · rw [List.getElem?_append_right (by rw [List.length_take, hlen]; omega), List.getElem?_append_left (by rw [List.length_take, hlen, List.length_replicate]; omega), rowOf_at _ _ _ (by omega)]
      rw [List.getElem?_replicate, if_pos (by rw [List.length_take, hlen]; omega)]
      unfold fill; rw [if_pos d]
    · rw [List.getElem?_append_right (by rw [List.length_take, hlen]; omega), List.getElem?_append_right (by rw [List.length_take, hlen, List.length_replicate]; omega), List.getElem?_drop, List.length_take, hlen, List.length_replicate, show k + m + (i - min k n - m) = i by omega]
      rcases Nat.lt_or_ge i n with f | f
      · rw [rowOf_at _ _ _ f, rowOf_at _ _ _ f]
        unfold fill; rw [if_neg (by omega), if_neg (by omega)]
      · rw [List.getElem?_eq_none (by simp; omega), List.getElem?_eq_none (by simp; omega)]
theorem fill_zero (n : Nat) : is (rowOf n (fill 0)) = zeros (.int .i64 0) n := by
  rw [rowOf_zeros]
  congr 1

/-- Copying the cells that are filled behind themselves, as a step of a region that draws. -/
theorem step_fill {ops : Array Oper} {o : Oper} {a : Act} {wr W0 : World} {K : Act → World → Prop} {Q : Exit → Act → World → Prop} {F : Prop} {g n k m : Nat} (d s : Operand)
    (hR : Row wr g 3 (is (rowOf n (fill k)))) (hb : Below g W0 wr) (hm : m = min k (n - k)) (hk : k < n)
    (hgd : o.guard = none) (ho : o.op = .call { callee := .builtin .copy, args := #[d, s], argTypes := #[25, 25] })
    (hd : a.eval d = .slice (some ⟨g, k, none⟩) (n - k) (n - k)) (hs : a.eval s = .slice (some ⟨g, 0, none⟩) k n)
    (h : ∀ w', Row w' g 3 (is (rowOf n (fill (k + m)))) → Below g W0 w' → K (a.put o.dst (.int .i64 (m : Nat))) w') :
    if Region.wanted o (yielded ops a.tmps) = true then Oper.wp Try.prog o a wr K Q else F := by
  have hnews : ∀ j v, (List.replicate m (Value.int .i64 (-1)))[j]? = some v → wr.cell? ((⟨g, 0, none⟩ : Addr).add j) = some v := fun j v hj => by
    rw [List.getElem?_replicate] at hj
    split at hj
    · next hj2 =>
      rw [Addr.add_lit, Nat.zero_add, hR.cell, rowOf_at _ _ _ (by omega)]
      rw [← hj]; unfold fill; rw [if_pos (by omega)]
    · cases hj
  refine step_copy_splice hgd d s 25 25 ho 3 Try.underlying25 Try.size_int _ _ _ _ _ _ hd hs g k _ 3 hR (List.replicate m (.int .i64 (-1))) (by rw [List.length_replicate]; exact hm) (fun _ => ⟨rfl, _, rfl, hnews⟩) (by rw [List.length_replicate]; simp; omega) (fun v hv => by rw [List.eq_of_mem_replicate hv]; rfl) g W0 hb (Nat.le_refl _) ?_
  intro w4 hw hb4
  have := hw.out
  rw [fill_splice n k m (by omega)] at this
  have h5 := h w4 this hb4
  rw [List.length_replicate]
  exact h5

set_option maxHeartbeats 400000 in
set_option maxRecDepth 100000 in
theorem repeat_any (b n : Nat) (w : World) (hn : n ≤ 7) (hc : w.cell? ⟨b, 0, none⟩ = some (.int .i64 (-1))) :
    Calls Try.prog 84 #[.slice (some ⟨b, 0, none⟩) 1 1, .int .i64 n] w fun e w' => ∃ g, e = .returned (.slice (some ⟨g, 0, none⟩) n n) ∧ w.heap.size ≤ g ∧ Row w' g 3 (is (rowOf n (fill n))) ∧ Below w.heap.size w w' := by
  have a1 : (0 : Int) ≤ n := by omega
  have a2 : (n : Int) ≤ 7 := by omega
  have hmk := mk_int n (by omega)
  have hb := World.block_lt_of_cell? w _ hc
  go_enter Try.func84, Try.ntmps84
  go_wp2_with fail
  refine (mul_few n hn w).mono ?_
  rintro e w' ⟨rfl, rfl⟩
  have hR0 : Row (w.alloc (.cells (zeros (.int .i64 0) n).toArray 3)) w.heap.size 3 (is (rowOf n (fill 0))) := by rw [fill_zero]; exact Row.new _ _ _
  have hb0 := below_alloc w (.cells (zeros (.int .i64 0) n).toArray 3)
  have hc0 := Tab_cell hb0 hc
  rcases Nat.eq_zero_or_pos n with h0 | h0
  · subst h0
    have hmk0 : ∀ w : World, (Instr.makeSlice 25 (.int .i64 0) (.int .i64 0)).run Try.prog w = .ok (.slice (some ⟨w.heap.size, 0, none⟩) 0 0) (w.alloc (.cells (zeros (.int .i64 0) 0).toArray 3)) := mk_int 0 (by omega)
    clear hmk
    go_upto_region 7 with fail
    generalize hg : w.heap.size = g at hR0 hb0 hb ⊢
    generalize w.alloc _ = W0 at hR0 hb0 hc0 ⊢
    go_wp2_with ((with_reducible show wpList _ _ _ _ _ _); refine wpList_copy_splice rfl (.tmp 31) (.tmp 32) 25 25 rfl 3 Try.underlying25 Try.size_int (some ⟨g, 0, none⟩) (some ⟨b, 0, none⟩) 0 0 1 1 rfl rfl g 0 _ 3 hR0 [] rfl (fun h => absurd h (by simp)) (by simp) (fun v hv => by cases hv) g W0 (Below.refl _ _) (Nat.le_refl _) ?_)
    intro w1 hw hb1
    have hR1 : Row w1 g 3 (is (rowOf 0 (fill 0))) := by
      have := hw.out
      rw [show ([] : List Value) = List.replicate 0 (.int .i64 (-1)) from rfl, fill_splice 0 0 0 (by omega)] at this
      exact this
    clear hw hmk0
    go_wp2_with fail
    go_loopw [8] (fun j wr => j = .int .i64 0 ∧ wr = w1) (fun _ _ => 0)
    case atStart => exact ⟨rfl, rfl⟩
    case round =>
      obtain ⟨rfl, rfl⟩ := hrel
      go_wp2_with fail
      go_ret
      exact ⟨g, rfl, by omega, hR1, hg ▸ (hb0.trans hb1)⟩
  · go_upto_region 7 with fail
    generalize hg : w.heap.size = g at hR0 hb0 hb ⊢
    generalize w.alloc _ = W0 at hR0 hb0 hc0 ⊢
    have hnews : ∀ j v, (List.replicate 1 (Value.int .i64 (-1)))[j]? = some v → W0.cell? ((⟨b, 0, none⟩ : Addr).add j) = some v := fun j v hj => by
      cases j with
      | zero =>
        have : v = .int .i64 (-1) := by simpa using hj.symm
        subst this
        exact hc0
      | succ j => simp at hj
    have hmin : (List.replicate 1 (Value.int .i64 (-1))).length = Nat.min 1 n := by show 1 = min 1 n; omega
    have hfit : 0 + (List.replicate 1 (Value.int .i64 (-1))).length ≤ (is (rowOf n (fill 0))).length := by simp; omega
    have HNEWS := Lib.hid hnews
    have HMIN := Lib.hid hmin
    clear hnews hmin
    go_wp2_with ((with_reducible show wpList _ _ _ _ _ _); refine wpList_copy_splice rfl (.tmp 31) (.tmp 32) 25 25 rfl 3 Try.underlying25 Try.size_int (some ⟨g, 0, none⟩) (some ⟨b, 0, none⟩) n n 1 1 rfl rfl g 0 _ 3 hR0 (List.replicate 1 (.int .i64 (-1))) HMIN.out (fun _ => ⟨rfl, _, rfl, HNEWS.out⟩) hfit (by simp [Value.oneCell']) g W0 (Below.refl _ _) (Nat.le_refl _) ?_)
    intro w1 hw hb1
    have hR1 : Row w1 g 3 (is (rowOf n (fill 1))) := by
      have := hw.out
      rw [show [Value.int .i64 (-1)] = List.replicate 1 (.int .i64 (-1)) from rfl, fill_splice n 0 1 (by omega)] at this
      exact this
    clear hw
    go_wp2_with fail
    go_loopw [8] (fun j wr => ∃ k : Nat, 1 ≤ k ∧ k ≤ n ∧ j = .int .i64 k ∧ Row wr g 3 (is (rowOf n (fill k))) ∧ Below g W0 wr) (fun j _ => n - (intOf j).toNat)
    case atStart => exact ⟨1, Nat.le_refl _, h0, rfl, hR1, hb1⟩
    case round =>
      obtain ⟨k, hk1, hk, rfl, hRk, hbk⟩ := hrel
      by_cases hlt : k < n
      · have b1 : (0 : Int) ≤ k := by omega
        have b2 : (k : Int) ≤ n := by omega
        have b3 : (n = k) = False := by simp; omega
        have hRd : Row wr.drew g 3 (is (rowOf n (fill k))) := hRk
        have hbd : Below g W0 wr.drew := hbk.drew
        obtain ⟨m, hm⟩ : ∃ m, m = min k (n - k) := ⟨_, rfl⟩
        have hm2 : 1 ≤ m := by omega
        have hm3 : k + m ≤ n := by omega
        have HM := Lib.hid hm
        clear hm
        go_upto_region 9 with fail
        have hw : IntKind.i64.wrap ((k : Int) + (m : Int)) = (k : Int) + (m : Int) := IntWalk.i64_in _ (by omega)
        go_region_law ((refine step_fill (.tmp 41) (.tmp 44) hRd hbd HM.out hlt (by rfl) (by rfl) (by go_simp) (by go_simp) ?_; intro w4 hR4 hb4))
        all_goals
          go_simp
          go_roundw
          case rel =>
            (repeat apply Exists.intro)
            exact ⟨⟨k + m, by omega, by omega, by go_num, hR4, hb4⟩, rfl⟩
          case measure => simp [intOf]; omega
      · obtain rfl : k = n := by omega
        go_wp2_with fail
        go_ret
        exact ⟨g, rfl, by omega, hRk, hg ▸ (hb0.trans hbk)⟩
end Go.Proofs.Ytkenbmelhfhidaa
