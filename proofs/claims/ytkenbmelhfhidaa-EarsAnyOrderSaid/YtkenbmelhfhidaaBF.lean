/- Several texts in one: Rep JtW2 JtW3 LJBuilt Cover Parts15 ClassLaw JtRoot. -/
import Derived.Test.YtkenbmelhfhidaaBA
import Derived.Deep.RegionLaw
import Derived.IntWalk
import Derived.Test.YtkenbmelhfhidaaBD
import Derived.Test.YtkenbmelhfhidaaBB
import Derived.Test.YtkenbmelhfhidaaBC
import Derived.Test.YtkenbmelhfhidaaBE
import Derived.StillTailTactics
import Derived.Laws.Cover3
/- slices.Repeat of one number, for few. -/
namespace Go.Proofs.Ytkenbmelhfhidaa
open Go.RowKit

theorem mul64_few (n : Nat) (h : n ≤ 7) (w : World) : Calls Try.prog 122 #[.int .u64 1, .int .u64 n] w fun e w' => e = .returned (.tuple #[.int .u64 0, .int .u64 n]) ∧ w = w' := by
  have hc : n = 0 ∨ n = 1 ∨ n = 2 ∨ n = 3 ∨ n = 4 ∨ n = 5 ∨ n = 6 ∨ n = 7 := by omega
  rcases hc with rfl | rfl | rfl | rfl | rfl | rfl | rfl | rfl
  all_goals
    go_enter Try.func122, Try.ntmps122
    go_wp2
    go_ret2
    exact ⟨rfl, rfl⟩
theorem mul_few (n : Nat) (h : n ≤ 7) (w : World) : Calls Try.prog 112 #[.int .u64 1, .int .u64 n] w fun e w' => e = .returned (.tuple #[.int .u64 0, .int .u64 n]) ∧ w = w' := by
  go_enter Try.func112, Try.ntmps112
  go_wp2_with fail
  refine (mul64_few n h w).mono ?_
  rintro e w' ⟨rfl, rfl⟩
  go_wp2
  go_ret2
  exact ⟨rfl, rfl⟩
/-- The first k are -1, the others 0. -/
def fill (k : Nat) : Nat → Int := fun i => if i < k then -1 else 0
theorem fill_splice (n k m : Nat) (h : k + m ≤ n) : splice (is (rowOf n (fill k))) k (List.replicate m (.int .i64 (-1))) = is (rowOf n (fill (k + m))) := by
  apply List.ext_getElem?
  intro i
  unfold splice
  have hlen : (is (rowOf n (fill k))).length = n := by simp
  rcases Nat.lt_or_ge i k with c | c
  · rw [List.getElem?_append_left (by rw [List.length_take, hlen]; omega), List.getElem?_take_of_lt c, rowOf_at _ _ _ (by omega), rowOf_at _ _ _ (by omega)]
    unfold fill; rw [if_pos c, if_pos (by omega)]
  · rcases Nat.lt_or_ge i (k + m) with d | d
    · rw [List.getElem?_append_right (by rw [List.length_take, hlen]; omega), List.getElem?_append_left (by rw [List.length_take, hlen, List.length_replicate]; omega), rowOf_at _ _ _ (by omega)]
      rw [List.getElem?_replicate, if_pos (by rw [List.length_take, hlen]; omega)]
      unfold fill; rw [if_pos d]
    · rw [List.getElem?_append_right (by rw [List.length_take, hlen]; omega), List.getElem?_append_right (by rw [List.length_take, hlen, List.length_replicate]; omega), List.getElem?_drop, List.length_take, hlen, List.length_replicate, show k + m + (i - min k n - m) = i by omega]
      rcases Nat.lt_or_ge i n with f | f
      · rw [rowOf_at _ _ _ f, rowOf_at _ _ _ f]
        unfold fill; rw [if_neg (by omega), if_neg (by omega)]
      · rw [List.getElem?_eq_none (by simp; omega), List.getElem?_eq_none (by simp; omega)]
theorem fill_zero (n : Nat) : is (rowOf n (fill 0)) = zeros (.int .i64 0) n := by
  rw [rowOf_zeros]
  congr 1

/-- Copying the cells that are filled behind themselves, as a step of a region that draws. -/
theorem step_fill {ops : Array Oper} {o : Oper} {a : Act} {wr W0 : World} {K : Act → World → Prop} {Q : Exit → Act → World → Prop} {F : Prop} {g n k m : Nat} (d s : Operand)
    (hR : Row wr g 3 (is (rowOf n (fill k)))) (hb : Below g W0 wr) (hm : m = min k (n - k)) (hk : k < n)
    (hgd : o.guard = none) (ho : o.op = .call { callee := .builtin .copy, args := #[d, s], argTypes := #[25, 25] })
    (hd : a.eval d = .slice (some ⟨g, k, none⟩) (n - k) (n - k)) (hs : a.eval s = .slice (some ⟨g, 0, none⟩) k n)
    (h : ∀ w', Row w' g 3 (is (rowOf n (fill (k + m)))) → Below g W0 w' → K (a.put o.dst (.int .i64 (m : Nat))) w') :
    if Region.wanted o (yielded ops a.tmps) = true then Oper.wp Try.prog o a wr K Q else F := by
  have hnews : ∀ j v, (List.replicate m (Value.int .i64 (-1)))[j]? = some v → wr.cell? ((⟨g, 0, none⟩ : Addr).add j) = some v := fun j v hj => by
    rw [List.getElem?_replicate] at hj
    split at hj
    · next hj2 =>
      rw [Addr.add_lit, Nat.zero_add, hR.cell, rowOf_at _ _ _ (by omega)]
      rw [← hj]; unfold fill; rw [if_pos (by omega)]
    · cases hj
  refine step_copy_splice hgd d s 25 25 ho 3 Try.underlying25 Try.size_int _ _ _ _ _ _ hd hs g k _ 3 hR (List.replicate m (.int .i64 (-1))) (by rw [List.length_replicate]; exact hm) (fun _ => ⟨rfl, _, rfl, hnews⟩) (by rw [List.length_replicate]; simp; omega) (fun v hv => by rw [List.eq_of_mem_replicate hv]; rfl) g W0 hb (Nat.le_refl _) ?_
  intro w4 hw hb4
  have := hw.out
  rw [fill_splice n k m (by omega)] at this
  have h5 := h w4 this hb4
  rw [List.length_replicate]
  exact h5

set_option maxHeartbeats 400000 in
set_option maxRecDepth 100000 in
theorem repeat_any (b n : Nat) (w : World) (hn : n ≤ 7) (hc : w.cell? ⟨b, 0, none⟩ = some (.int .i64 (-1))) :
    Calls Try.prog 84 #[.slice (some ⟨b, 0, none⟩) 1 1, .int .i64 n] w fun e w' => ∃ g, e = .returned (.slice (some ⟨g, 0, none⟩) n n) ∧ w.heap.size ≤ g ∧ Row w' g 3 (is (rowOf n (fill n))) ∧ Below w.heap.size w w' := by
  have a1 : (0 : Int) ≤ n := by omega
  have a2 : (n : Int) ≤ 7 := by omega
  have hmk := mk_int n (by omega)
  have hb := World.block_lt_of_cell? w _ hc
  go_enter Try.func84, Try.ntmps84
  go_wp2_with fail
  refine (mul_few n hn w).mono ?_
  rintro e w' ⟨rfl, rfl⟩
  have hR0 : Row (w.alloc (.cells (zeros (.int .i64 0) n).toArray 3)) w.heap.size 3 (is (rowOf n (fill 0))) := by rw [fill_zero]; exact Row.new _ _ _
  have hb0 := below_alloc w (.cells (zeros (.int .i64 0) n).toArray 3)
  have hc0 := Tab_cell hb0 hc
  rcases Nat.eq_zero_or_pos n with h0 | h0
  · subst h0
    have hmk0 : ∀ w : World, (Instr.makeSlice 25 (.int .i64 0) (.int .i64 0)).run Try.prog w = .ok (.slice (some ⟨w.heap.size, 0, none⟩) 0 0) (w.alloc (.cells (zeros (.int .i64 0) 0).toArray 3)) := mk_int 0 (by omega)
    clear hmk
    go_upto_region 7 with fail
    generalize hg : w.heap.size = g at hR0 hb0 hb ⊢
    generalize w.alloc _ = W0 at hR0 hb0 hc0 ⊢
    go_wp2_with ((with_reducible show wpList _ _ _ _ _ _); refine wpList_copy_splice rfl (.tmp 31) (.tmp 32) 25 25 rfl 3 Try.underlying25 Try.size_int (some ⟨g, 0, none⟩) (some ⟨b, 0, none⟩) 0 0 1 1 rfl rfl g 0 _ 3 hR0 [] rfl (fun h => absurd h (by simp)) (by simp) (fun v hv => by cases hv) g W0 (Below.refl _ _) (Nat.le_refl _) ?_)
    intro w1 hw hb1
    have hR1 : Row w1 g 3 (is (rowOf 0 (fill 0))) := by
      have := hw.out
      rw [show ([] : List Value) = List.replicate 0 (.int .i64 (-1)) from rfl, fill_splice 0 0 0 (by omega)] at this
      exact this
    clear hw hmk0
    go_wp2_with fail
    go_loopw [8] (fun j wr => j = .int .i64 0 ∧ wr = w1) (fun _ _ => 0)
    case atStart => exact ⟨rfl, rfl⟩
    case round =>
      obtain ⟨rfl, rfl⟩ := hrel
      go_wp2_with fail
      go_ret
      exact ⟨g, rfl, by omega, hR1, hg ▸ (hb0.trans hb1)⟩
  · go_upto_region 7 with fail
    generalize hg : w.heap.size = g at hR0 hb0 hb ⊢
    generalize w.alloc _ = W0 at hR0 hb0 hc0 ⊢
    have hnews : ∀ j v, (List.replicate 1 (Value.int .i64 (-1)))[j]? = some v → W0.cell? ((⟨b, 0, none⟩ : Addr).add j) = some v := fun j v hj => by
      cases j with
      | zero =>
        have : v = .int .i64 (-1) := by simpa using hj.symm
        subst this
        exact hc0
      | succ j => simp at hj
    have hmin : (List.replicate 1 (Value.int .i64 (-1))).length = Nat.min 1 n := by show 1 = min 1 n; omega
    have hfit : 0 + (List.replicate 1 (Value.int .i64 (-1))).length ≤ (is (rowOf n (fill 0))).length := by simp; omega
    have HNEWS := Lib.hid hnews
    have HMIN := Lib.hid hmin
    clear hnews hmin
    go_wp2_with ((with_reducible show wpList _ _ _ _ _ _); refine wpList_copy_splice rfl (.tmp 31) (.tmp 32) 25 25 rfl 3 Try.underlying25 Try.size_int (some ⟨g, 0, none⟩) (some ⟨b, 0, none⟩) n n 1 1 rfl rfl g 0 _ 3 hR0 (List.replicate 1 (.int .i64 (-1))) HMIN.out (fun _ => ⟨rfl, _, rfl, HNEWS.out⟩) hfit (by simp [Value.oneCell']) g W0 (Below.refl _ _) (Nat.le_refl _) ?_)
    intro w1 hw hb1
    have hR1 : Row w1 g 3 (is (rowOf n (fill 1))) := by
      have := hw.out
      rw [show [Value.int .i64 (-1)] = List.replicate 1 (.int .i64 (-1)) from rfl, fill_splice n 0 1 (by omega)] at this
      exact this
    clear hw
    go_wp2_with fail
    go_loopw [8] (fun j wr => ∃ k : Nat, 1 ≤ k ∧ k ≤ n ∧ j = .int .i64 k ∧ Row wr g 3 (is (rowOf n (fill k))) ∧ Below g W0 wr) (fun j _ => n - (intOf j).toNat)
    case atStart => exact ⟨1, Nat.le_refl _, h0, rfl, hR1, hb1⟩
    case round =>
      obtain ⟨k, hk1, hk, rfl, hRk, hbk⟩ := hrel
      by_cases hlt : k < n
      · have b1 : (0 : Int) ≤ k := by omega
        have b2 : (k : Int) ≤ n := by omega
        have b3 : (n = k) = False := by simp; omega
        have hRd : Row wr.drew g 3 (is (rowOf n (fill k))) := hRk
        have hbd : Below g W0 wr.drew := hbk.drew
        obtain ⟨m, hm⟩ : ∃ m, m = min k (n - k) := ⟨_, rfl⟩
        have hm2 : 1 ≤ m := by omega
        have hm3 : k + m ≤ n := by omega
        have HM := Lib.hid hm
        clear hm
        go_upto_region 9 with fail
        have hw : IntKind.i64.wrap ((k : Int) + (m : Int)) = (k : Int) + (m : Int) := IntWalk.i64_in _ (by omega)
        go_region_law ((refine step_fill (.tmp 41) (.tmp 44) hRd hbd HM.out hlt (by rfl) (by rfl) (by go_simp) (by go_simp) ?_; intro w4 hR4 hb4))
        all_goals
          go_simp
          go_roundw
          case rel =>
            (repeat apply Exists.intro)
            exact ⟨⟨k + m, by omega, by omega, by go_num, hR4, hb4⟩, rfl⟩
          case measure => simp [intOf]; omega
      · obtain rfl : k = n := by omega
        go_wp2_with fail
        go_ret
        exact ⟨g, rfl, by omega, hRk, hg ▸ (hb0.trans hbk)⟩
end Go.Proofs.Ytkenbmelhfhidaa

/- The contract of jointree.Build. -/
namespace Go.Proofs.Ytkenbmelhfhidaa
open Go.RowKit

attribute [local go_sem ↓] uz_and uz_or uz_andNot uz_and_one uz_shr uz_shl_one uz_shl uz_sub uz_sub_one uz_add uz_beq_zero uz_bne_zero uz_beq uz_bne uz_beq_one

theorem parOf_snoc (s : Stp) (h : s.into ≠ -1) (i : Nat) : ∀ ss : List Stp, parOf (ss ++ [s]) i = if s.kind ≠ 1 ∧ s.edge = i then s.into else parOf ss i
  | [] => by
    show (if (-1 : Int) ≠ -1 then _ else _) = _
    rw [if_neg (by simp)]; rfl
  | a :: ss => by
    show (if parOf (ss ++ [s]) i ≠ -1 then parOf (ss ++ [s]) i else _) = _
    rw [parOf_snoc s h i ss]
    by_cases c : s.kind ≠ 1 ∧ s.edge = i
    · rw [if_pos c, if_pos h, if_pos c]
    · rw [if_neg c, if_neg c]
      rfl
theorem steps_in {keep : BitVec 32} {L M : Lt} {ss : List Stp} {n : Nat} (r : Rch keep L ss M) (hs : Srt L) (hn : ∀ x ∈ L, x.1 < n) : ∀ s ∈ ss, ∃ i j : Nat, s.edge = i ∧ s.into = j ∧ i < n ∧ j < n := by
  induction r with
  | nil => intro s h; cases h
  | @cons L M s ss h r ih =>
    intro t ht
    rcases List.mem_cons.1 ht with rfl | ht
    · rcases h.cases hs with ⟨x, hx, _, rfl⟩ | ⟨x, hx, y, hy, k, _, _, _, rfl⟩
      · exact ⟨x.1, 0, rfl, rfl, hn x hx, by have := hn x hx; omega⟩
      · exact ⟨x.1, y.1, rfl, rfl, hn x hx, hn y hy⟩
    · exact ih hs.make (fun y hy => by obtain ⟨x, hx, e⟩ := make_key hy; rw [← e]; exact hn x hx) t ht
/-- What Build answers. -/
def BuildIs (V : Int) (E : List (BitVec 32)) (Z : List Int) (code : Int) : Prop :=
  (validB V E = false ∧ Z = [] ∧ code = 140) ∨ (validB V E = true ∧ 1 < (runE E 0#32).2.length ∧ Z = [] ∧ code = 161) ∨
  (validB V E = true ∧ (runE E 0#32).2.length ≤ 1 ∧ Z = rowOf E.length (parOf (runE E 0#32).1) ∧ code = 0)
theorem buildIs_uniq {V : Int} {E : List (BitVec 32)} {Z Y : List Int} {a b : Int} (h : BuildIs V E Z a) (k : BuildIs V E Y b) : Z = Y ∧ a = b := by
  rcases h with ⟨a1, a2, a3⟩ | ⟨a1, a2, a3, a4⟩ | ⟨a1, a2, a3, a4⟩ <;> rcases k with ⟨b1, b2, b3⟩ | ⟨b1, b2, b3, b4⟩ | ⟨b1, b2, b3, b4⟩ <;>
  first
    | (rw [a1] at b1; cases b1; done)
    | omega
    | exact ⟨a2.trans b2.symm, a3.trans b3.symm⟩
    | exact ⟨a3.trans b3.symm, a4.trans b4.symm⟩
theorem buildIs_len {V : Int} {E : List (BitVec 32)} {Z : List Int} {a : Int} (h : BuildIs V E Z a) : Z.length ≤ 7 := by
  rcases h with ⟨_, rfl, _⟩ | ⟨_, _, rfl, _⟩ | ⟨a1, _, rfl, _⟩
  · simp
  · simp
  · simp; exact (validB_of a1).2.2.1
/-- What Build tells is a join tree, and where it tells none there is none. -/
theorem buildIs_jt {V : Int} {E : List (BitVec 32)} {Z : List Int} {a : Int} (h : BuildIs V E Z a) : (a = 0 → Z.length = E.length ∧ validB V E = true ∧ JT E (pz Z)) ∧ (a ≠ 0 → Z = [] ∧ ((validB V E = false ∧ a = 140) ∨ (validB V E = true ∧ a = 161 ∧ ¬ ∃ p, JT E p))) := by
  rcases h with ⟨a1, a2, a3⟩ | ⟨a1, a2, a3, a4⟩ | ⟨a1, a2, a3, a4⟩
  · exact ⟨fun e => by omega, fun _ => ⟨a2, .inl ⟨a1, a3⟩⟩⟩
  · refine ⟨fun e => by omega, fun _ => ⟨a3, .inr ⟨a1, a4, fun hp => ?_⟩⟩⟩
    have := (left_iff (runE_rch E 0#32) (runE_Stuck 0#32 (validB_of a1).2.2.1)).2 hp
    omega
  · refine ⟨fun _ => ⟨by rw [a3]; simp, a1, ?_⟩, fun e => absurd a4 e⟩
    have h1 := jt_of_reach (runE_rch E 0#32) a2
    have e : ∀ i, i < E.length → pz Z i = parOf (runE E 0#32).1 i := fun i hi => by
      rw [a3, ← pz_eq _ i (by simpa using hi)]; simp [rowOf]
    obtain ⟨⟨t1, ⟨d, t2⟩, t3⟩, t4⟩ := h1
    refine ⟨⟨fun i hi => by rw [e i hi]; exact t1 i hi, ⟨d, fun i hi h0 => by rw [e i hi] at h0 ⊢; exact t2 i hi h0⟩, fun i j hi hj x y => t3 i j hi hj (by rw [← e i hi]; exact x) (by rw [← e j hj]; exact y)⟩, fun v i j hi hj x y => ?_⟩
    have tp : ∀ i, i < E.length → Top E (pz Z) v i → Top E (parOf (runE E 0#32).1) v i := fun i hi x => by unfold Top at x ⊢; rw [e i hi] at x; exact x
    exact t4 v i j hi hj (tp i hi x) (tp j hj y)

set_option maxHeartbeats 2000000 in
set_option maxRecDepth 100000 in
theorem build_any (V : Int) (A : Option Addr) (E : List (BitVec 32)) (c : Nat) (w : World) (hl : E.length ≤ 35184372087808) (hE : Rd w w.heap.size A (us E)) :
    Calls Try.prog 36 #[.agg #[.int .i64 V, .slice A E.length c]] w fun e w' => ∃ v Z code, e = .returned (.tuple #[v, .int .i64 code]) ∧ w'.ownsRow w.heap.size 3 1 v Z.length (is Z) ∧ Hid (BuildIs V E Z code) ∧ Below w.heap.size w w' := by
  go_enter Try.func36, Try.ntmps36
  go_wp2_with fail
  have hb0 := below_alloc w (.cells #[.int .i64 V, .slice A E.length c] 24)
  have hG0 : Row (w.alloc (.cells #[.int .i64 V, .slice A E.length c] 24)) w.heap.size 24 [.int .i64 V, .slice A E.length c] := Row.new _ _ _
  generalize w.alloc _ = W0 at hb0 hG0 ⊢
  have hrun := run_any V A E c 0#32 W0 hl (hE.later hb0)
  have huz : uz 0#32 = 0 := rfl
  rw [huz] at hrun
  clear huz
  refine hrun.mono ?_
  rintro e w1 ⟨v1, v2, ss, L, code, rfl, hown1, hown2, hRI, hb1⟩
  clear hrun
  have hB1 := bthen hb0 hb1
  have hG1 := hG0.later hb1
  obtain ⟨A1, c1, rfl, _, _, hS, _⟩ := Rd.of_ownS hown1
  obtain ⟨A2, c2, rfl, _, _, _, _⟩ := Rd.of_ownS hown2
  have d1 : w1.cell? ⟨w.heap.size, 1, none⟩ = some (.slice A E.length c) := hG1.cell 1
  have hlt0 := hG1.lt
  clear hG0 hb0 hG1 hown1 hown2
  rcases hRI.out with ⟨hv, rfl, rfl, rfl⟩ | ⟨hv, hss, hL, rfl⟩
  · have HP : Hid (BuildIs V E [] 140) := Lib.hid (.inl ⟨hv, rfl, rfl⟩)
    go_wp2_with fail
    go_ret2
    exact ⟨_, [], _, rfl, ⟨rfl, .inl ⟨rfl, rfl⟩⟩, HP, hB1⟩
  · by_cases hL1 : 1 < L.length
    · have HP : Hid (BuildIs V E [] 161) := Lib.hid (.inr (.inl ⟨hv, by rw [← hL]; exact hL1, rfl, rfl⟩))
      have hd : decide ((1 : Int) < (L.length : Int)) = true := decide_eq_true (by omega)
      clear hv hss hL
      go_wp2_with fail
      go_ret2
      exact ⟨_, [], _, rfl, ⟨rfl, .inl ⟨rfl, rfl⟩⟩, HP, hB1⟩
    · have h7 := (validB_of hv).2.2.1
      have HP : Hid (BuildIs V E (rowOf E.length (parOf ss)) 0) := Lib.hid (.inr (.inr ⟨hv, by rw [← hL]; omega, by rw [hss], rfl⟩))
      have HIN : Hid (∀ s ∈ ss, ∃ i j : Nat, s.edge = i ∧ s.into = j ∧ i < E.length ∧ j < E.length) := Lib.hid (by
        rw [hss]; exact steps_in (runE_rch E 0#32) (srt_begin E) fun x hx => (mem_begin.1 hx).1)
      have hsl : ss.length ≤ 232 := by rw [hss]; exact runN_len _ _ _
      have hd : decide ((1 : Int) < (L.length : Int)) = false := decide_eq_false (by omega)
      clear hv hss hL hL1
      go_wp2_with fail
      have hb2 := below_alloc w1 (.cells #[.int .i64 (-1)] 3)
      have hcx : (w1.alloc (.cells #[.int .i64 (-1)] 3)).cell? ⟨w1.heap.size, 0, none⟩ = some (.int .i64 (-1)) := by simp
      have hB2 := bthen hB1 hb2
      have hS2 := hS.later hb2
      generalize hbx : w1.heap.size = bx at hcx ⊢
      generalize w1.alloc _ = w2 at hb2 hcx hB2 hS2 ⊢
      refine (repeat_any bx E.length w2 h7 hcx).mono ?_
      rintro e w3 ⟨g, rfl, hg, hR, hb3⟩
      have hB3 := bthen hB2 hb3
      have hS3 := hS2.below hb3
      have hwg : w.heap.size ≤ g := by have := hB2.size; omega
      clear hS hb2 hcx hS2 d1 hb1 hbx
      go_wp2_with fail
      go_loopw [29, 9] (fun j _ wr => ∃ k : Nat, k ≤ ss.length ∧ j = .int .i64 k ∧ Row wr g 3 (is (rowOf E.length (parOf (ss.take k)))) ∧ Below g w3 wr) (fun j _ _ => ss.length - (intOf j).toNat)
      case atStart =>
        refine ⟨0, Nat.zero_le _, rfl, ?_, Below.refl _ _⟩
        have e : rowOf E.length (parOf (ss.take 0)) = rowOf E.length (fill E.length) := rowOf_congr fun i hi => by
          rw [List.take_zero]; unfold fill; rw [if_pos hi]; rfl
        rw [e]; exact hR
      case round =>
        obtain ⟨k, hk, rfl, hRk, hbk⟩ := hrel
        by_cases hlt : k < ss.length
        · have hSk := (hS3.mono hg).below hbk
          obtain ⟨ad, hA, hbl, q0, q1, q2, q3⟩ := hSk.st_cells hlt
          obtain ⟨i, j, e1, e2, hi, hj⟩ := HIN.out (stp ss k) (by rw [← stp_eq ss k hlt]; exact List.getElem_mem _)
          have HS := Lib.hid (take_snoc ss k hlt)
          rw [stp_eq ss k hlt] at HS
          have HN : Hid (∀ m, parOf (ss.take (k + 1)) m = if (stp ss k).kind ≠ 1 ∧ (stp ss k).edge = m then (stp ss k).into else parOf (ss.take k) m) := Lib.hid (fun m => by
            rw [HS.out]; exact parOf_snoc _ (by rw [e2]; omega) m _)
          subst hA
          generalize stp ss k = s at q0 q1 q2 q3 e1 e2 HN
          obtain ⟨kd, ed', io, ct⟩ := s
          simp only at e1 e2 q0 q1 q2 q3
          subst e1 e2
          have a1 : (0 : Int) ≤ i := by omega
          have a2 : (i : Int) < E.length := by omega
          have r1 : wr.cell? ⟨g, i, none⟩ = some (.int .i64 (parOf (ss.take k) i)) := (hRk.cell i).trans (rowOf_at _ _ _ hi)
          have r2 := hRk.frozen i
          have hgl : g < wr.heap.size := hRk.lt
          by_cases hkd : kd = 1
          · have hkb : (kd != 1) = false := by simp [hkd]
            have HK := Lib.hid hkd
            clear hkd
            go_wp2_with fail
            go_roundw
            case rel =>
              refine ⟨k + 1, by omega, by go_num, ?_, hbk.alloc (Nat.le_of_lt hRk.lt) _⟩
              rw [rowOf_congr (g := parOf (ss.take k)) fun m _ => by rw [HN.out m]; exact if_neg fun c => c.1 HK.out]
              exact hRk.alloc _
            case measure => simp [intOf]; omega
          · have hkb : (kd != 1) = true := by simp [hkd]
            have HK := Lib.hid hkd
            clear hkd
            go_wp2_with fail
            go_roundw
            case rel =>
              refine ⟨k + 1, by omega, by go_num, ?_, (hbk.setCell (Nat.le_refl _) _).alloc (by simp; omega) _⟩
              have h2 := hRk.set_ i (.int .i64 j)
              rw [rowOf_set] at h2
              rw [rowOf_congr (g := fun m => if m = i then (j : Int) else parOf (ss.take k) m) fun m _ => by
                rw [HN.out m]
                by_cases e : m = i
                · subst e; rw [if_pos ⟨HK.out, rfl⟩, if_pos rfl]
                · rw [if_neg fun c => e (ni.1 c.2).symm, if_neg e]]
              exact h2.alloc _
            case measure => simp [intOf]; omega
        · obtain rfl : k = ss.length := by omega
          rw [List.take_length] at hRk
          go_wp2_with fail
          go_ret2
          exact ⟨_, _, _, rfl, by simpa using hRk.own hwg (by unfold maxLen; simp; omega), HP, hB3.trans (hbk.mono hwg)⟩
end Go.Proofs.Ytkenbmelhfhidaa

/- The contract of osierlaw16.awake. -/
namespace Go.Proofs.Ytkenbmelhfhidaa
open Go.RowKit

attribute [local go_sem ↓] uz_and uz_or uz_andNot uz_and_one uz_shr uz_shl_one uz_shl uz_sub uz_sub_one uz_add uz_beq_zero uz_bne_zero uz_beq uz_bne uz_beq_one

theorem awake_build {Z : List Int} {code : Int} (h : BuildIs 3 [3#32, 6#32, 4#32] Z code) : Z.length = 3 ∧ code = 0 := by
  have hv : validB 3 [3#32, 6#32, 4#32] = true := by decide
  have hjt : ∃ p, JT [3#32, 6#32, 4#32] p := ⟨_, ((checkB_iff 3 _ [1, -1, 1]).1 (by decide)).2.2⟩
  have h2 := buildIs_jt h
  by_cases c : code = 0
  · exact ⟨(h2.1 c).1, c⟩
  · rcases (h2.2 c).2 with ⟨a, _⟩ | ⟨_, _, a⟩
    · rw [hv] at a; cases a
    · exact absurd hjt a
set_option maxHeartbeats 2000000 in
set_option maxRecDepth 100000 in
theorem awake16_any (w : World) : Calls Try.prog 29 #[] w fun e w' => e = .returned (.bool true) ∧ Below w.heap.size w w' := by
  go_enter Try.func29, Try.ntmps29
  go_wp2_with fail
  have hR : Row (w.alloc (.cells #[.int .u32 3, .int .u32 6, .int .u32 4] 39)) w.heap.size 39 (us [3#32, 6#32, 4#32]) := heap_alloc_new w _
  have hb0 := below_alloc w (.cells #[.int .u32 3, .int .u32 6, .int .u32 4] 39)
  generalize hg : w.heap.size = g at hR ⊢
  generalize w.alloc _ = w1 at hR hb0 ⊢
  have hB := build_any 3 (some ⟨g, 0, none⟩) [3#32, 6#32, 4#32] 3 w1 (by decide) hR.rd
  refine hB.mono ?_
  rintro e w2 ⟨v, Z, code, rfl, hown, hI, hb1⟩
  obtain ⟨hZ, rfl⟩ := awake_build hI.out
  clear hB hI
  obtain ⟨A, c, rfl, _, _, _, _⟩ := Rd.of_own hown
  have hB1 := bthen hb0 hb1
  have hz : ((Z.length : Int) == 3) = true := by simp [hZ]
  clear hZ hR hown
  go_wp2_with fail
  have hR2 : Row (w2.alloc (.cells #[.int .i64 1, .int .i64 (-1)] 3)) w2.heap.size 3 (is [1, -1]) := heap_alloc_new w2 _
  have hb2 := below_alloc w2 (.cells #[.int .i64 1, .int .i64 (-1)] 3)
  have hB2 := bthen hB1 hb2
  generalize hg2 : w2.heap.size = g2 at hR2 ⊢
  generalize w2.alloc _ = w3 at hR2 hb2 hB2 ⊢
  have hT := isTree_any (some ⟨g2, 0, none⟩) [1, -1] 2 w3 (by decide) hR2.rd
  rw [show treeB [1, -1] = true by decide] at hT
  refine hT.mono ?_
  rintro e w4 ⟨rfl, rfl⟩
  clear hT hR2 hb1
  go_wp2_with fail
  have hR3 : Row ((w3.alloc (.cells #[.int .u32 1] 39)).alloc (.cells #[.int .i64 (-1)] 3)) w3.heap.size 39 (us [1#32]) := Row.alloc (heap_alloc_new w3 _) _
  have hR4 : Row ((w3.alloc (.cells #[.int .u32 1] 39)).alloc (.cells #[.int .i64 (-1)] 3)) (w3.heap.size + 1) 3 (is [-1]) := Row.new_ (by simp)
  have hb3 : Below w3.heap.size w3 ((w3.alloc (.cells #[.int .u32 1] 39)).alloc (.cells #[.int .i64 (-1)] 3)) := (below_alloc _ _).alloc (by simp) _
  have hB3 := bthen hB2 hb3
  generalize hg3 : w3.heap.size = g3 at hR3 hR4 ⊢
  generalize (w3.alloc _).alloc _ = w5 at hR3 hR4 hb3 hB3 ⊢
  have hC := check_any 1 (some ⟨g3, 0, none⟩) (some ⟨g3 + 1, 0, none⟩) [1#32] [-1] 1 1 w5 (by decide) (by decide) hR3.rd hR4.rd
  rw [show checkB 1 [1#32] [-1] = true by decide] at hC
  refine hC.mono ?_
  rintro e w6 ⟨rfl, hb6⟩
  go_wp2_with fail
  go_ret
  exact ⟨rfl, bthen hB3 hb6⟩
end Go.Proofs.Ytkenbmelhfhidaa

/- The walk of osierlaw16.JointreeBuilt. -/
namespace Go.Proofs.Ytkenbmelhfhidaa
open Go.RowKit

theorem ed_lt {V : Int} {E : List (BitVec 32)} (h : validB V E = true) : ∀ i v, i < E.length → hv (ed E i) v → v < V.toNat := by
  obtain ⟨h0, h1, _, h2⟩ := validB_of h
  intro i v hi hh
  apply Classical.byContradiction
  intro hc
  have h3 := outB_true_of (x := ed E i) h0 h1 (k := v) (by omega) (by rw [inB_nat]; exact hh)
  have h4 : outB V (ed E i) = false := by
    rw [List.any_eq_false] at h2
    have := h2 E[i] (List.getElem_mem hi)
    rw [show E[i] = ed E i by simp [ed, hi]] at this
    simpa using this
  rw [h4] at h3; cases h3

theorem bool_case {V : Int} {E : List (BitVec 32)} {Z : List Int} {a : Int} (h : BuildIs V E Z a) :
    (validB V E = false ∧ a = 140) ∨ (validB V E = true ∧ a = 0 ∧ checkB V E Z = true) ∨ (validB V E = true ∧ a = 161 ∧ Z = [] ∧ existsB V.toNat E = false) := by
  obtain ⟨h1, h2⟩ := buildIs_jt h
  by_cases h0 : a = 0
  · obtain ⟨a1, a2, a3⟩ := h1 h0
    exact .inr (.inl ⟨a2, h0, (checkB_iff V E Z).2 ⟨a2, a1, a3⟩⟩)
  · obtain ⟨a1, a2 | a2⟩ := h2 h0
    · exact .inl ⟨a2.1, a2.2⟩
    · refine .inr (.inr ⟨a2.1, a2.2.1, a1, ?_⟩)
      cases hx : existsB V.toNat E
      · rfl
      · exact absurd ((existsB_iff (ed_lt a2.1)).1 hx) a2.2.2

set_option maxHeartbeats 4000000 in
set_option maxRecDepth 100000 in
theorem law_jbuilt (V : Int) (A : Option Addr) (E : List (BitVec 32)) (c : Nat) (w : World) (hl : E.length ≤ 35184372087808) (hE : Rd w w.heap.size A (us E)) :
    Calls Try.prog 5 #[.agg #[.int .i64 V, .slice A E.length c]] w fun e w' => e = .returned (.bool true) ∧ Below w.heap.size w w' := by
  go_enter Try.func5, Try.ntmps5
  go_wp2_with fail
  have hb0 := below_alloc w (.cells #[.int .i64 V, .slice A E.length c] 24)
  have hG0 : Row (w.alloc (.cells #[.int .i64 V, .slice A E.length c] 24)) w.heap.size 24 [.int .i64 V, .slice A E.length c] := Row.new _ _ _
  generalize w.alloc _ = w0 at hb0 hG0 ⊢
  refine (copy_any V A E c _ hl (hE.later hb0)).mono ?_
  rintro e w1 ⟨g, rfl, hg, hRg, hb1⟩
  have hB1 := bthen hb0 hb1
  have hG1 := hG0.later hb1
  go_wp2_with fail
  refine (build_any V _ E _ w1 hl hRg.rd).mono ?_
  rintro e w2 ⟨v, Z, code, rfl, hown, hBI, hb2⟩
  have hB2 := bthen hB1 hb2
  have hG2 := hG1.later hb2
  have HC := Lib.hid (bool_case hBI.out)
  have hZ7 := buildIs_len hBI.out
  obtain ⟨A', c', rfl, _, _, hZ, _⟩ := Rd.of_own hown
  have d0 : w2.cell? ⟨w.heap.size, 0, none⟩ = some (.int .i64 V) := hG2.cell 0
  have d1 : w2.cell? ⟨w.heap.size, 1, none⟩ = some (.slice A E.length c) := hG2.cell 1
  have hE2 := hE.later hB2
  clear hE hb0 hG0 hg hRg hb1 hB1 hG1 hb2 hown hBI
  go_wp2_with fail
  refine (r14valid_any V A E c w2 hl hE2).mono ?_
  rintro e w3 ⟨rfl, hb3⟩
  have hB3 := bthen hB2 hb3
  have hG3 := hG2.later hb3
  have hE3 := hE2.later hb3
  have hZ3 := hZ.later hb3
  have e0 : w3.cell? ⟨w.heap.size, 0, none⟩ = some (.int .i64 V) := hG3.cell 0
  have e1 : w3.cell? ⟨w.heap.size, 1, none⟩ = some (.slice A E.length c) := hG3.cell 1
  clear d0 d1 hG2 hE2 hZ hb3 hB2
  rcases HC.out with ⟨hv, rfl⟩ | ⟨hv, rfl, hck⟩ | ⟨hv, rfl, rfl, hex⟩
  · rw [hv]
    clear hv HC
    go_wp2_with fail
    refine (awake16_any w3).mono ?_
    rintro e w5 ⟨rfl, hb5⟩
    go_wp2_with fail
    go_ret
    exact ⟨rfl, bthen hB3 hb5⟩
  · rw [hv]
    have HK : Hid (Calls Try.prog 33 #[.agg #[.int .i64 V, .slice A E.length c], .slice A' Z.length c'] w3 fun e w' => e = .returned (.bool true) ∧ Below w3.heap.size w3 w') := Lib.hid (by
      have := r16check_any V A A' E Z c c' w3 hl (by omega) hE3 hZ3
      rw [hck] at this; exact this)
    clear hv HC hck
    go_wp2_with fail
    refine HK.out.mono ?_
    rintro e w4 ⟨rfl, hb4⟩
    go_wp2_with fail
    refine (awake16_any w4).mono ?_
    rintro e w5 ⟨rfl, hb5⟩
    go_wp2_with fail
    go_ret
    exact ⟨rfl, bthen (bthen hB3 hb4) hb5⟩
  · obtain ⟨v0, v1, v2, _⟩ := validB_of hv
    rw [hv]
    have HK : Hid (Calls Try.prog 39 #[.agg #[.int .i64 V, .slice A E.length c]] w3 fun e w' => e = .returned (.bool false) ∧ Below w3.heap.size w3 w') := Lib.hid (by
      have := exists_any V.toNat A E c w3 (by omega) v2 hE3
      rw [hex, Int.toNat_of_nonneg v0] at this; exact this)
    clear hv HC hex v0 v1 v2
    go_wp2_with fail
    refine HK.out.mono ?_
    rintro e w4 ⟨rfl, hb4⟩
    go_wp2_with fail
    refine (awake16_any w4).mono ?_
    rintro e w5 ⟨rfl, hb5⟩
    go_wp2_with fail
    go_ret
    exact ⟨rfl, bthen (bthen hB3 hb4) hb5⟩
end Go.Proofs.Ytkenbmelhfhidaa

/- The contract of osierref14.All; a graph with an edge that has all vertices is acyclic. -/
namespace Go.Proofs.Ytkenbmelhfhidaa
open Go.RowKit

attribute [local go_sem ↓] uz_and uz_or uz_andNot uz_and_one uz_shr uz_shl_one uz_shl uz_sub uz_sub_one uz_add uz_beq_zero uz_bne_zero uz_beq uz_bne uz_beq_one

theorem allOf_next {k : Nat} (h : k < 30) : allOf (k : Int) + 1#32 <<< k = allOf ((k + 1 : Nat) : Int) := by
  have : ∀ k : Fin 30, allOf ((k : Nat) : Int) + 1#32 <<< (k : Nat) = allOf (((k : Nat) + 1 : Nat) : Int) := by decide
  exact this ⟨k, h⟩

set_option maxHeartbeats 2000000 in
set_option maxRecDepth 100000 in
theorem r14all_any (V : Nat) (A : Option Addr) (n c : Nat) (w : World) (hV : V ≤ 30) :
    Calls Try.prog 60 #[.agg #[.int .i64 V, .slice A n c]] w fun e w' => e = .returned (.int .u32 (uz (allOf V))) ∧ Below w.heap.size w w' := by
  go_enter Try.func60, Try.ntmps60
  go_upto_region 1 with fail
  have hb0 := below_alloc w (.cells #[.int .i64 V, .slice A n c] 24)
  have hG0 : Row (w.alloc (.cells #[.int .i64 V, .slice A n c] 24)) w.heap.size 24 [.int .i64 V, .slice A n c] := Row.new _ _ _
  generalize w.alloc _ = W0 at hb0 hG0 ⊢
  have d0 : W0.cell? ⟨w.heap.size, 0, none⟩ = some (.int .i64 V) := hG0.cell 0
  go_wp2_with fail
  go_loop [3, 4] (fun s i => ∃ k : Nat, k ≤ V ∧ i = .int .i64 k ∧ s = .int .u32 (uz (allOf k))) (fun _ i => V - (intOf i).toNat)
  case atStart => exact ⟨0, Nat.zero_le _, rfl, rfl⟩
  case round =>
    obtain ⟨k, hk, rfl, rfl⟩ := hrel
    by_cases hlt : k < V
    · have HN := Lib.hid (allOf_next (show k < 30 by omega))
      have b1 : (k : Int) < V := by omega
      have b2 : (k : Int) < 32 := by omega
      have b3 : (0 : Int) ≤ k := by omega
      generalize allOf (k : Int) = x at HN ⊢
      go_wp2_with fail
      go_round
      case rel => exact ⟨k + 1, by omega, by go_num, by rw [← HN.out]⟩
      case measure => simp [intOf]; omega
    · obtain rfl : k = V := by omega
      go_wp2_with fail
      go_ret
      exact ⟨rfl, hb0⟩

/-! ### One edge that has all vertices -/
theorem ed_app (E : List (BitVec 32)) (x : BitVec 32) (i : Nat) : ed (E ++ [x]) i = if i < E.length then ed E i else if i = E.length then x else 0#32 := by
  unfold ed
  by_cases h : i < E.length
  · rw [if_pos h]; simp [List.getD, List.getElem?_append_left h]
  · rw [if_neg h]
    by_cases h2 : i = E.length
    · subst h2; simp [List.getD]
    · rw [if_neg h2]
      simp only [List.getD]
      rw [List.getElem?_eq_none (by simp; omega)]; rfl
theorem cover_valid {V : Int} {E : List (BitVec 32)} (h : validB V E = true) (h6 : E.length ≤ 6) : validB V (E ++ [allOf V]) = true := by
  obtain ⟨h0, h1, _, h2⟩ := validB_of h
  unfold validB
  have h3 : outB V (allOf V) = false := by unfold outB; simp
  rw [List.any_append, h2]
  simp [h0, h1, h3]; omega
theorem cover_jt {V : Int} {E : List (BitVec 32)} (h : validB V E = true) (h6 : E.length ≤ 6) : ∃ p, JT (E ++ [allOf V]) p := by
  have hl : (E ++ [allOf V]).length = E.length + 1 := by simp
  have hlt := ed_lt h
  have h30 := (validB_of h).2.1
  refine ⟨fun i => if i < E.length then (E.length : Int) else -1, ⟨fun i hi => ?_, ⟨fun i => if i < E.length then 1 else 0, fun i hi h0 => ?_⟩, fun i j hi hj a b => ?_⟩, fun v i j hi hj a b => ?_⟩
  · rw [hl] at hi ⊢
    show -1 ≤ (if i < E.length then (E.length : Int) else -1) ∧ (if i < E.length then (E.length : Int) else -1) < _
    split <;> omega
  · rw [hl] at hi
    by_cases c : i < E.length
    · simp [c]
    · simp [c] at h0
  · rw [hl] at hi hj
    by_cases c : i < E.length
    · simp [c] at a
    · by_cases d : j < E.length
      · simp [d] at b
      · omega
  · rw [hl] at hi hj
    have key : ∀ i, i < E.length + 1 → Top (E ++ [allOf V]) (fun i => if i < E.length then (E.length : Int) else -1) v i → i = E.length := by
      intro i hi a
      by_cases c : i < E.length
      · exfalso
        obtain ⟨a1, a2⟩ := a
        rw [ed_app, if_pos c] at a1
        have hvv := hlt i v c a1
        simp only [c, if_true] at a2
        rcases a2 with a2 | a2
        · omega
        · apply a2
          rw [Int.toNat_natCast, ed_app, if_neg (by omega), if_pos rfl]
          show (allOf V).getLsbD v = true
          rw [getLsbD_allOf V (by omega)]
          simpa using hvv
      · omega
    rw [key i hi a, key j hj b]
theorem cover_acy {V : Int} {E : List (BitVec 32)} (h : validB V E = true) (h6 : E.length ≤ 6) : acyB V (E ++ [allOf V]) = true ∧ codeB V (E ++ [allOf V]) = 0 := by
  have h2 := cover_valid h h6
  exact ⟨(acyB_iff h2).2 (cover_jt h h6), by unfold codeB; rw [h2]; rfl⟩
end Go.Proofs.Ytkenbmelhfhidaa

/- A join tree stays one where vertices are taken out, or a part of an edge comes to it: the plain law of EarsParts. No program in sight. -/
namespace Go.Proofs.Ytkenbmelhfhidaa

def cutAll (E : List (BitVec 32)) (s : BitVec 32) : List (BitVec 32) := E.map (· &&& s)
theorem cutAll_length (E : List (BitVec 32)) (s : BitVec 32) : (cutAll E s).length = E.length := by simp [cutAll]
theorem ed_cutAll (E : List (BitVec 32)) (s : BitVec 32) (i : Nat) : ed (cutAll E s) i = ed E i &&& s := by
  unfold ed cutAll
  simp only [List.getD_eq_getElem?_getD, List.getElem?_map]
  cases E[i]? <;> simp
theorem jt_cut {E : List (BitVec 32)} {p : Nat → Int} (s : BitVec 32) (h : JT E p) : JT (cutAll E s) p := by
  refine ⟨by rw [cutAll_length]; exact h.1, fun v i j hi hj a b => ?_⟩
  rw [cutAll_length] at hi hj
  have key : ∀ i, Top (cutAll E s) p v i → Top E p v i := by
    rintro i ⟨a1, a2⟩
    rw [ed_cutAll, hv_and] at a1
    refine ⟨a1.1, a2.imp id fun c d => c ?_⟩
    rw [ed_cutAll, hv_and]; exact ⟨d, a1.2⟩
  exact h.2 v i j hi hj (key i a) (key j b)
theorem jt_part {E : List (BitVec 32)} {p : Nat → Int} {k : Nat} {x : BitVec 32} (h : JT E p) (hk : k < E.length) (hx : ∀ v, hv x v → hv (ed E k) v) : JT (E ++ [x]) (fun i => if i < E.length then p i else (k : Int)) := by
  have hl : (E ++ [x]).length = E.length + 1 := by simp
  obtain ⟨⟨t1, ⟨d, t2⟩, t3⟩, t4⟩ := h
  refine ⟨⟨fun i hi => ?_, ⟨fun i => if i < E.length then d i else d k + 1, fun i hi h0 => ?_⟩, fun i j hi hj a b => ?_⟩, fun v i j hi hj a b => ?_⟩
  · rw [hl] at hi ⊢
    by_cases c : i < E.length
    · have := t1 i c
      simp only [if_pos c]; omega
    · simp only [if_neg c]; omega
  · rw [hl] at hi
    by_cases c : i < E.length
    · simp only [if_pos c] at h0 ⊢
      have h1 := t1 i c
      rw [if_pos (by omega)]
      exact t2 i c h0
    · simp only [if_neg c] at h0 ⊢
      rw [Int.toNat_natCast, if_pos hk]
      omega
  · rw [hl] at hi hj
    by_cases c : i < E.length
    · by_cases c2 : j < E.length
      · simp only [if_pos c] at a
        simp only [if_pos c2] at b
        exact t3 i j c c2 a b
      · simp only [if_neg c2] at b; omega
    · simp only [if_neg c] at a; omega
  · rw [hl] at hi hj
    have key : ∀ i, i < E.length + 1 → Top (E ++ [x]) (fun i => if i < E.length then p i else (k : Int)) v i → i < E.length ∧ Top E p v i := by
      rintro i hi ⟨a1, a2⟩
      by_cases c : i < E.length
      · refine ⟨c, ?_⟩
        rw [ed_app, if_pos c] at a1
        simp only [if_pos c] at a2
        refine ⟨a1, a2.imp id fun e f => e ?_⟩
        have := t1 i c
        rw [ed_app]
        by_cases c3 : (p i).toNat < E.length
        · rw [if_pos c3]; exact f
        · exfalso; unfold ed at f; rw [List.getD_eq_getElem?_getD, List.getElem?_eq_none (by omega)] at f; exact hv_zero v f
      · exfalso
        obtain rfl : i = E.length := by omega
        rw [ed_app, if_neg (Nat.lt_irrefl _), if_pos rfl] at a1
        simp only [if_neg (Nat.lt_irrefl _)] at a2
        rcases a2 with e | e
        · omega
        · rw [Int.toNat_natCast, ed_app, if_pos hk] at e
          exact e (hx v a1)
    obtain ⟨i1, i2⟩ := key i hi a
    obtain ⟨j1, j2⟩ := key j hj b
    exact t4 v i j i1 j1 i2 j2
theorem outB_and {V : Int} {e : BitVec 32} (s : BitVec 32) (h : outB V e = false) : outB V (e &&& s) = false := by
  unfold outB at h ⊢
  rw [bne_eq_false_iff_eq] at h ⊢
  rw [eq_zero_iff] at h ⊢
  intro v hh
  rw [hv_andNot, hv_and] at hh
  exact h v ((hv_andNot _ _ _).2 ⟨hh.1.1, hh.2⟩)
theorem outB_andl {V : Int} {e : BitVec 32} (s : BitVec 32) (h : outB V e = false) : outB V (s &&& e) = false := by
  rw [BitVec.and_comm]; exact outB_and s h
theorem validB_mk {V : Int} {E : List (BitVec 32)} (h0 : 0 ≤ V) (h1 : V ≤ 30) (h2 : E.length ≤ 7) (h3 : ∀ e ∈ E, outB V e = false) : validB V E = true := by
  unfold validB
  have : E.any (outB V) = false := by
    rw [List.any_eq_false]; intro e he; rw [h3 e he]; simp
  rw [this]; simp [h0, h1, h2]
theorem validB_out {V : Int} {E : List (BitVec 32)} (h : validB V E = true) : ∀ e ∈ E, outB V e = false := fun e he => by
  simpa using List.any_eq_false.1 (validB_of h).2.2.2 e he
theorem cut_valid {V : Int} {E : List (BitVec 32)} (s : BitVec 32) (h : validB V E = true) : validB V (cutAll E s) = true := by
  obtain ⟨h0, h1, h2, _⟩ := validB_of h
  refine validB_mk h0 h1 (by rw [cutAll_length]; exact h2) fun e he => ?_
  obtain ⟨a, ha, rfl⟩ := List.mem_map.1 he
  exact outB_and s (validB_out h a ha)
theorem acyB_valid {V : Int} {E : List (BitVec 32)} (h : acyB V E = true) : validB V E = true := by
  unfold acyB at h; rw [Bool.and_eq_true] at h; exact h.1
theorem cut_acy {V : Int} {E : List (BitVec 32)} (s : BitVec 32) (h : acyB V E = true) : acyB V (cutAll E s) = true ∧ codeB V (cutAll E s) = 0 := by
  have hv := acyB_valid h
  have h2 := cut_valid s hv
  obtain ⟨p, hp⟩ := (acyB_iff hv).1 h
  exact ⟨(acyB_iff h2).2 ⟨p, jt_cut s hp⟩, by unfold codeB; rw [h2]; rfl⟩
theorem part_acy {V : Int} {E : List (BitVec 32)} {k : Nat} {s : BitVec 32} (h : acyB V E = true) (h6 : E.length ≤ 6) (hk : k < E.length) : acyB V (E ++ [s &&& ed E k]) = true ∧ codeB V (E ++ [s &&& ed E k]) = 0 := by
  have hv := acyB_valid h
  obtain ⟨h0, h1, _, _⟩ := validB_of hv
  have h2 : validB V (E ++ [s &&& ed E k]) = true := validB_mk h0 h1 (by simp; omega) fun e he => by
    rcases List.mem_append.1 he with he | he
    · exact validB_out hv e he
    · rw [List.mem_singleton.1 he]; exact outB_andl s (validB_out hv _ (ed_mem E k hk))
  obtain ⟨p, hp⟩ := (acyB_iff hv).1 h
  exact ⟨(acyB_iff h2).2 ⟨_, jt_part hp hk fun v hh => ((hv_and _ _ _).1 hh).2⟩, by unfold codeB; rw [h2]; rfl⟩
end Go.Proofs.Ytkenbmelhfhidaa

/- The plain law of classes: hierarchical graphs have no knot; a graph has a join tree just if it has no knot; what doesn't hang on the edges' order. No program in sight. -/
namespace Go.Proofs.Ytkenbmelhfhidaa

/-! ### Knots -/
theorem jt_iff {E : List (BitVec 32)} (h7 : E.length ≤ 7) : (∃ p, JT E p) ↔ ¬ ∃ R, Knot E R := by
  constructor
  · rintro h ⟨R, k⟩; exact knot_no_jt k h
  · intro h
    have hst := runE_Stuck (E := E) 0#32 h7
    have hr := runE_rch E 0#32
    refine (left_iff hr hst).1 ?_
    rcases Nat.lt_or_ge 1 (runE E 0#32).2.length with c | c
    · exact absurd ⟨_, stuck_knot (hr.inv (inv_begin E)) hst c⟩ h
    · exact c
theorem Knot.mem {E F R : List (BitVec 32)} (k : Knot E R) (h : ∀ a, a ∈ E ↔ a ∈ F) : Knot F R := by
  refine ⟨k.ne, k.anti, k.twice, fun a ha => ?_, fun j hj => ?_⟩
  · obtain ⟨j, hj, e⟩ := k.edge a ha
    obtain ⟨i, hi, e2⟩ := mem_ed ((h _).1 (ed_mem E j hj))
    exact ⟨i, hi, by rw [e2]; exact e⟩
  · obtain ⟨i, hi, e2⟩ := mem_ed ((h _).2 (ed_mem F j hj))
    obtain ⟨m, hm, e⟩ := k.part i hi
    exact ⟨m, hm, by rw [e2] at e; exact e⟩
theorem jt_mem {E F : List (BitVec 32)} (h7 : E.length ≤ 7) (k7 : F.length ≤ 7) (h : ∀ a, a ∈ E ↔ a ∈ F) : (∃ p, JT E p) ↔ ∃ p, JT F p := by
  rw [jt_iff h7, jt_iff k7]
  exact ⟨fun c ⟨R, k⟩ => c ⟨R, k.mem fun a => (h a).symm⟩, fun c ⟨R, k⟩ => c ⟨R, k.mem h⟩⟩
/-- A part of the knot's own that comes to the graph leaves the knot. -/
theorem Knot.more {E R : List (BitVec 32)} (k : Knot E R) (x : BitVec 32) (h : ∃ i, i < R.length ∧ ∀ v, hv x v → inR R v → hv (ed R i) v) : Knot (E ++ [x]) R := by
  have hl : (E ++ [x]).length = E.length + 1 := by simp
  refine ⟨k.ne, k.anti, k.twice, fun a ha => ?_, fun j hj => ?_⟩
  · obtain ⟨j, hj, e⟩ := k.edge a ha
    exact ⟨j, by omega, by rw [ed_app, if_pos hj]; exact e⟩
  · rw [hl] at hj
    by_cases c : j < E.length
    · rw [ed_app, if_pos c]; exact k.part j c
    · rw [ed_app, if_neg c, if_pos (by omega)]; exact h
theorem jt_less {E : List (BitVec 32)} (h6 : E.length ≤ 6) (h : ∃ p, JT (E ++ [0#32]) p) : ∃ p, JT E p := by
  rw [jt_iff (by simp; omega)] at h
  rw [jt_iff (by omega)]
  rintro ⟨R, k⟩
  refine h ⟨R, k.more _ ?_⟩
  obtain ⟨v, a, ha, _⟩ := k.ne
  obtain ⟨i, hi, _⟩ := mem_ed ha
  exact ⟨i, hi, fun u hu => absurd hu (hv_zero u)⟩

/-! ### What hierarchical means -/
structure HierP (E : List (BitVec 32)) (head : BitVec 32) : Prop where
  cmp : ∀ x y, (∃ e ∈ E, hv e x ∧ hv e y) → (∀ e ∈ E, hv e x → hv e y) ∨ ∀ e ∈ E, hv e y → hv e x
  up : ∀ x y, (∃ e ∈ E, hv e x) → (∀ e ∈ E, hv e x → hv e y) → ¬ (∀ e ∈ E, hv e y → hv e x) → hv head x → hv head y
def bothX (E : List (BitVec 32)) (x y : Nat) : Bool := E.any fun e => e.getLsbD x && e.getLsbD y
def onlyX (E : List (BitVec 32)) (x y : Nat) : Bool := E.any fun e => e.getLsbD x && !e.getLsbD y
/-- By these two vertices, in this order, the graph is not hierarchical. -/
def clashB (E : List (BitVec 32)) (head : BitVec 32) (x y : Nat) : Bool :=
  (bothX E x y && onlyX E x y && onlyX E y x && decide (x < y)) || (bothX E x y && !onlyX E x y && onlyX E y x && head.getLsbD x && !head.getLsbD y)
def hierB (V : Nat) (E : List (BitVec 32)) (head : BitVec 32) : Bool := (List.range V).all fun a => (List.range V).all fun b => !clashB E head a b
theorem bothX_iff {E : List (BitVec 32)} {x y : Nat} : bothX E x y = true ↔ ∃ e ∈ E, hv e x ∧ hv e y := by
  unfold bothX hv
  simp only [List.any_eq_true, Bool.and_eq_true]
theorem onlyX_iff {E : List (BitVec 32)} {x y : Nat} : onlyX E x y = true ↔ ¬ ∀ e ∈ E, hv e x → hv e y := by
  unfold onlyX hv
  simp only [List.any_eq_true, Bool.and_eq_true, Bool.not_eq_true']
  constructor
  · rintro ⟨e, he, a, b⟩ h
    rw [h e he a] at b; cases b
  · intro h
    apply Classical.byContradiction
    intro c
    refine h fun e he a => ?_
    cases d : e.getLsbD y
    · exact absurd ⟨e, he, a, d⟩ c
    · rfl
theorem onlyX_false {E : List (BitVec 32)} {x y : Nat} : onlyX E x y = false ↔ ∀ e ∈ E, hv e x → hv e y := by
  rw [← Bool.not_eq_true, onlyX_iff, Classical.not_not]
theorem hierB_iff {V : Nat} {E : List (BitVec 32)} {head : BitVec 32} : hierB V E head = true ↔ ∀ a b, a < V → b < V → clashB E head a b = false := by
  unfold hierB
  simp only [List.all_eq_true, List.mem_range, Bool.not_eq_true']
  exact ⟨fun h a b ha hb => h a ha b hb, fun h a ha b hb => h a b ha hb⟩
theorem hierP_iff {V : Nat} {E : List (BitVec 32)} {head : BitVec 32} (hV : ∀ e ∈ E, ∀ v, hv e v → v < V) : hierB V E head = true ↔ HierP E head := by
  rw [hierB_iff]
  constructor
  · intro h
    refine ⟨fun x y hxy => ?_, fun x y hx h1 h2 hh => ?_⟩
    · obtain ⟨e, he, a, b⟩ := hxy
      apply Classical.byContradiction
      intro c
      have c1 : onlyX E x y = true := onlyX_iff.2 fun d => c (.inl d)
      have c2 : onlyX E y x = true := onlyX_iff.2 fun d => c (.inr d)
      have c3 : bothX E x y = true := bothX_iff.2 ⟨e, he, a, b⟩
      have c4 : bothX E y x = true := bothX_iff.2 ⟨e, he, b, a⟩
      rcases Nat.lt_trichotomy x y with d | d | d
      · have := h x y (hV e he x a) (hV e he y b)
        unfold clashB at this
        rw [c1, c2, c3, decide_eq_true d] at this
        cases this
      · subst d; exact c (.inl fun _ _ z => z)
      · have := h y x (hV e he y b) (hV e he x a)
        unfold clashB at this
        rw [c1, c2, c4, decide_eq_true d] at this
        cases this
    · obtain ⟨e, he, a⟩ := hx
      have b := h1 e he a
      apply Classical.byContradiction
      intro c
      have d := h x y (hV e he x a) (hV e he y b)
      unfold clashB at d
      have c0 : head.getLsbD y = false := by
        cases z : head.getLsbD y
        · rfl
        · exact absurd z c
      have c9 : head.getLsbD x = true := hh
      rw [bothX_iff.2 ⟨e, he, a, b⟩, onlyX_false.2 h1, onlyX_iff.2 h2, c9, c0] at d
      cases d
  · intro h a b _ _
    cases c : clashB E head a b
    · rfl
    · exfalso
      unfold clashB at c
      simp only [Bool.or_eq_true, Bool.and_eq_true, Bool.not_eq_true', decide_eq_true_eq] at c
      rcases c with ⟨⟨⟨c1, c2⟩, c3⟩, _⟩ | ⟨⟨⟨⟨c1, c2⟩, c3⟩, c4⟩, c5⟩
      · rcases h.cmp a b (bothX_iff.1 c1) with d | d
        · exact onlyX_iff.1 c2 d
        · exact onlyX_iff.1 c3 d
      · obtain ⟨e, he, x, _⟩ := bothX_iff.1 c1
        have := h.up a b ⟨e, he, x⟩ (onlyX_false.1 c2) (onlyX_iff.1 c3) c4
        unfold hv at this
        rw [this] at c5; cases c5
theorem HierP.mem {E F : List (BitVec 32)} {head head2 : BitVec 32} (h : HierP E head) (hm : ∀ a, a ∈ E ↔ a ∈ F) (hh : ∀ v, (∃ e ∈ E, hv e v) → (hv head v ↔ hv head2 v)) : HierP F head2 := by
  have s : ∀ x y, (∀ e ∈ F, hv e x → hv e y) ↔ ∀ e ∈ E, hv e x → hv e y := fun x y =>
    ⟨fun k e he => k e ((hm e).1 he), fun k e he => k e ((hm e).2 he)⟩
  refine ⟨fun x y ⟨e, he, a⟩ => ?_, fun x y ⟨e, he, a⟩ h1 h2 h3 => ?_⟩
  · rw [s, s]; exact h.cmp x y ⟨e, (hm e).2 he, a⟩
  · rw [s] at h1 h2
    have he2 := (hm e).2 he
    exact (hh y ⟨e, he2, h1 e he2 a⟩).1 (h.up x y ⟨e, he2, a⟩ h1 h2 ((hh x ⟨e, he2, a⟩).2 h3))
theorem HierP.none {E : List (BitVec 32)} {head : BitVec 32} (h : HierP E head) : HierP E 0#32 := ⟨h.cmp, fun x _ _ _ _ h3 => absurd h3 (hv_zero x)⟩
theorem HierP.full {E : List (BitVec 32)} {head : BitVec 32} (h : HierP E 0#32) (hf : ∀ v, (∃ e ∈ E, hv e v) → hv head v) : HierP E head := ⟨h.cmp, fun _ y ⟨e, he, a⟩ h1 _ _ => hf y ⟨e, he, h1 e he a⟩⟩

/-! ### The vertices that stand in edges, the extended graph -/
def covB (E : List (BitVec 32)) : BitVec 32 := orTo E E.length
theorem hv_cov (E : List (BitVec 32)) (v : Nat) : hv (covB E) v ↔ ∃ e ∈ E, hv e v := by
  unfold covB
  rw [hv_orTo]
  constructor
  · rintro ⟨i, hi, h⟩; exact ⟨_, ed_mem E i hi, h⟩
  · rintro ⟨e, he, h⟩
    obtain ⟨i, hi, rfl⟩ := mem_ed he
    exact ⟨i, hi, h⟩
def extE (E : List (BitVec 32)) (head : BitVec 32) : List (BitVec 32) := E ++ [head &&& covB E]
theorem extE_length (E : List (BitVec 32)) (head : BitVec 32) : (extE E head).length = E.length + 1 := by simp [extE]
theorem mem_ext {E : List (BitVec 32)} {head a : BitVec 32} : a ∈ extE E head ↔ a ∈ E ∨ a = head &&& covB E := by simp [extE]
theorem ext_mem {E F : List (BitVec 32)} {head head2 : BitVec 32} (hm : ∀ a, a ∈ E ↔ a ∈ F) (hh : ∀ v, (∃ e ∈ E, hv e v) → (hv head v ↔ hv head2 v)) : ∀ a, a ∈ extE E head ↔ a ∈ extE F head2 := by
  have e : head &&& covB E = head2 &&& covB F := hv_ext fun v => by
    rw [hv_and, hv_and, hv_cov, hv_cov]
    constructor
    · rintro ⟨a, e, he, b⟩; exact ⟨(hh v ⟨e, he, b⟩).1 a, e, (hm e).1 he, b⟩
    · rintro ⟨a, e, he, b⟩; exact ⟨(hh v ⟨e, (hm e).2 he, b⟩).2 a, e, (hm e).2 he, b⟩
  intro a
  rw [mem_ext, mem_ext, hm a, e]

/-! ### What is hierarchical is connex -/
theorem hier_noknot {E : List (BitVec 32)} {head : BitVec 32} (hh : HierP E head) : ¬ ∃ R, Knot (extE E head) R := by
  rintro ⟨R, k⟩
  let F := extE E head
  let c : Nat → Nat := fun u => cntB (fun j => (ed F j).getLsbD u) F.length
  have hl : F.length = E.length + 1 := extE_length E head
  have hF : ∀ j, j < E.length → ed F j = ed E j := fun j hj => by show ed (E ++ [_]) j = _; rw [ed_app, if_pos hj]
  have hH : ed F E.length = head &&& covB E := by show ed (E ++ [_]) _ = _; rw [ed_app, if_neg (Nat.lt_irrefl _), if_pos rfl]
  have hcl : ∀ u, c u ≤ F.length := fun u => cntB_le _ _
  obtain ⟨v0, h0⟩ := k.ne
  obtain ⟨u, hu, huR, hmin⟩ := exists_max (fun u => inR R u) (fun u => F.length - c u) 32 ⟨v0, by obtain ⟨a, _, h⟩ := h0; exact hv_lt h, h0⟩
  have hmin2 : ∀ w, inR R w → ¬ c w < c u := fun w hw hlt => by
    have h1 := hmin w (by obtain ⟨a, _, h⟩ := hw; exact hv_lt h) hw
    have h2 := hcl u
    have h3 : F.length - c w ≤ F.length - c u := h1
    omega
  obtain ⟨a, b, ha, hb, hab, hua, hub⟩ := k.twice u huR
  obtain ⟨i, hi, ei⟩ := k.edge _ (ed_mem R a ha)
  obtain ⟨j, hj, ej⟩ := k.edge _ (ed_mem R b hb)
  have diff : ∀ a b, a < R.length → b < R.length → a ≠ b → ∃ w, hv (ed R a) w ∧ ¬ hv (ed R b) w := fun a b ha hb hab => by
    apply Classical.byContradiction
    intro d
    exact hab (k.anti a b ha hb fun v hv1 => Classical.byContradiction fun hv2 => d ⟨v, hv1, hv2⟩)
  have less : ∀ w m, (∀ e ∈ E, hv e w → hv e u) → (hv (head &&& covB E) w → hv (head &&& covB E) u) → m < F.length → hv (ed F m) u → ¬ hv (ed F m) w → c w < c u := by
    intro w m h1 h2 hm h3 h4
    have h5 : (ed F m).getLsbD w = false := by
      cases d : (ed F m).getLsbD w
      · rfl
      · exact absurd d h4
    refine cntB_strict (p := fun j => (ed F j).getLsbD w) (q := fun j => (ed F j).getLsbD u) (j := m) h3 h5 (fun q hq hw => ?_) hm
    replace hw : hv (ed F q) w := hw
    show hv (ed F q) u
    by_cases d : q < E.length
    · rw [hF q d] at hw ⊢
      exact h1 _ (ed_mem E q d) hw
    · obtain rfl : q = E.length := by omega
      rw [hH] at hw ⊢
      exact h2 hw
  -- two edges of the graph itself
  have two : ∀ a b i j, a < R.length → b < R.length → a ≠ b → i < E.length → j < E.length → (∀ v, hv (ed R a) v ↔ hv (ed F i) v ∧ inR R v) → (∀ v, hv (ed R b) v ↔ hv (ed F j) v ∧ inR R v) → hv (ed R a) u → hv (ed R b) u → False := by
    intro a b i j ha hb hab hi hj ei ej hua hub
    obtain ⟨w, hwa, hwb⟩ := diff a b ha hb hab
    obtain ⟨hwi, hwR⟩ := (ei w).1 hwa
    have hui := ((ei u).1 hua).1
    have huj := ((ej u).1 hub).1
    have hwj : ¬ hv (ed F j) w := fun d => hwb ((ej w).2 ⟨d, hwR⟩)
    have hFj := hF j hj
    have hFi := hF i hi
    have hsub : ∀ e ∈ E, hv e w → hv e u := by
      rcases hh.cmp w u ⟨_, ed_mem E i hi, by rw [← hFi]; exact hwi, by rw [← hFi]; exact hui⟩ with d | d
      · exact d
      · exfalso
        apply hwj
        rw [hFj] at huj ⊢
        exact d _ (ed_mem E j hj) huj
    have hnot : ¬ ∀ e ∈ E, hv e u → hv e w := fun d => hwj (by rw [hFj] at huj ⊢; exact d _ (ed_mem E j hj) huj)
    refine hmin2 w hwR (less w j hsub (fun d => ?_) (by omega) huj hwj)
    rw [hv_and] at d ⊢
    refine ⟨hh.up w u ⟨_, ed_mem E i hi, by rw [← hFi]; exact hwi⟩ hsub hnot d.1, (hv_cov E u).2 ⟨_, ed_mem E i hi, by rw [← hFi]; exact hui⟩⟩
  -- one of them is the head
  have one : ∀ a b j, a < R.length → b < R.length → a ≠ b → j < E.length → (∀ v, hv (ed R a) v ↔ hv (ed F E.length) v ∧ inR R v) → (∀ v, hv (ed R b) v ↔ hv (ed F j) v ∧ inR R v) → hv (ed R a) u → hv (ed R b) u → False := by
    intro a b j ha hb hab hj ei ej hua hub
    obtain ⟨w, hwb, hwa⟩ := diff b a hb ha (Ne.symm hab)
    obtain ⟨hwj, hwR⟩ := (ej w).1 hwb
    have huj := ((ej u).1 hub).1
    have huh := ((ei u).1 hua).1
    have hwh : ¬ hv (ed F E.length) w := fun d => hwa ((ei w).2 ⟨d, hwR⟩)
    rw [hF j hj] at hwj huj
    rcases Classical.em (∀ e ∈ E, hv e w → hv e u) with d | d
    · exact hmin2 w hwR (less w E.length d (fun z => absurd (by rw [hH]; exact z) hwh) (by omega) huh hwh)
    · rcases hh.cmp u w ⟨_, ed_mem E j hj, huj, hwj⟩ with z | z
      · apply hwh
        rw [hH, hv_and] at huh ⊢
        exact ⟨hh.up u w ⟨_, ed_mem E j hj, huj⟩ z d huh.1, (hv_cov E w).2 ⟨_, ed_mem E j hj, hwj⟩⟩
      · exact d z
  have hi' : i < E.length + 1 := by rw [← hl]; exact hi
  have hj' : j < E.length + 1 := by rw [← hl]; exact hj
  rcases Nat.lt_or_ge i E.length with c1 | c1
  · rcases Nat.lt_or_ge j E.length with c2 | c2
    · exact two a b i j ha hb hab c1 c2 ei ej hua hub
    · obtain rfl : j = E.length := by omega
      exact one b a i hb ha (Ne.symm hab) c1 ej ei hub hua
  · obtain rfl : i = E.length := by omega
    rcases Nat.lt_or_ge j E.length with c2 | c2
    · exact one a b j ha hb hab c2 ei ej hua hub
    · obtain rfl : j = E.length := by omega
      refine hab (k.anti a b ha hb fun v hh => ?_)
      rw [ej, ← ei]; exact hh
theorem hier_connex {E : List (BitVec 32)} {head : BitVec 32} (h6 : E.length ≤ 6) (hh : HierP E head) : (∃ p, JT (extE E head) p) ∧ ∃ p, JT E p := by
  refine ⟨(jt_iff (by rw [extE_length]; omega)).2 (hier_noknot hh), jt_less h6 ?_⟩
  have := (jt_iff (E := extE E 0#32) (by rw [extE_length]; omega)).2 (hier_noknot hh.none)
  unfold extE at this
  rwa [BitVec.zero_and] at this
end Go.Proofs.Ytkenbmelhfhidaa

/- The contracts of slices.Clone over numbers and words, of jointree.Reroot and of osierref16.Reroot. -/
namespace Go.Proofs.Ytkenbmelhfhidaa
open Go.RowKit

attribute [local go_sem ↓] uz_and uz_or uz_andNot uz_and_one uz_shr uz_shl_one uz_shl uz_sub uz_sub_one uz_add uz_beq_zero uz_bne_zero uz_beq uz_bne uz_beq_one

theorem own_of_row {w : World} {base g n cap : Nat} {e : TypeId} {xs R : List Value} (h : Row w g e (xs ++ R)) (hb : base ≤ g) (hn : xs.length = n) (hc : (xs ++ R).length = cap) (hm : cap ≤ maxLen) : w.ownsRow base e 1 (.slice (some ⟨g, 0, none⟩) n cap) n xs := by
  subst hn hc
  refine ⟨by simp, .inr ⟨g, _, _, rfl, hb, h, by simp, hm, by simp, by simp⟩⟩
theorem row_of_own {w : World} {base n : Nat} {e : TypeId} {v : Value} {xs : List Value} (h : w.ownsRow base e 1 v n xs) (hn : 0 < n) : ∃ g cap R, v = .slice (some ⟨g, 0, none⟩) n cap ∧ base ≤ g ∧ Row w g e (xs ++ R) ∧ (xs ++ R).length = cap ∧ cap ≤ maxLen ∧ n ≤ cap := by
  rcases h.2 with ⟨_, h0⟩ | ⟨g, cap, cur, hv, hb, hh, hnc, hm, hsz, htk⟩
  · omega
  · have e1 : xs ++ cur.toList.drop n = cur.toList := by rw [← htk, Nat.mul_one, List.take_append_drop]
    refine ⟨g, cap, cur.toList.drop n, hv, hb, ?_, ?_, hm, hnc⟩
    · unfold Row; rw [e1]; simpa using hh
    · rw [e1]; simpa using hsz
theorem empty_own (w : World) (e : TypeId) : (w.alloc (.cells #[] e)).ownsRow w.heap.size e 1 (.slice (some ⟨w.heap.size, 0, none⟩) 0 0) 0 [] :=
  ⟨rfl, .inr ⟨w.heap.size, 0, #[], rfl, Nat.le_refl _, heap_alloc_new w _, Nat.le_refl _, by unfold maxLen; omega, rfl, rfl⟩⟩
theorem Rd.news {w : World} {B : Nat} {ad : Addr} {xs : List Value} (h : Rd w B (some ad) xs) : ∀ j u, xs[j]? = some u → w.cell? (ad.add j) = some u := by
  intro j u hj
  obtain ⟨hj', rfl⟩ := List.getElem?_eq_some_iff.1 hj
  obtain ⟨ad', e, _, hc⟩ := h j hj'
  injection e with e
  subst e
  exact hc
set_option maxRecDepth 100000 in
theorem clone_int_any (ad : Addr) (P : List Int) (c : Nat) (w : World) (hl : P.length ≤ 100) (hP : Rd w w.heap.size (some ad) (is P)) :
    Calls Try.prog 87 #[.slice (some ad) P.length c] w fun e w' => ∃ v, e = .returned v ∧ w'.ownsRow w.heap.size 3 1 v P.length (is P) ∧ Below w.heap.size w w' := by
  obtain ⟨i, hi, hz, hs1, hb1⟩ := info_parts Try.info_int
  have hnil : (binOp .eql 25 (.slice (some ad) P.length c) (.slice none 0 0)).run Try.prog w = .ok (.bool false) w := by
    simp [binOp, run_equal_slice_nil w 25 3 (some ad) P.length c Try.underlying25]
  go_enter Try.func87, Try.ntmps87
  go_wp2_with ((with_reducible show wpList _ _ _ _ _ _); refine wpList_append_own_at _ rfl (.tmp 5) (.tmp 6) 25 rfl w.heap.size 3 i (.int .i64 0) 1 8 Try.underlying25 hi hz hs1 hb1 rfl (by decide) _ 0 [] rfl (empty_own w 3) ad P.length c (is P) rfl (by simp) ((hP.below (below_alloc w _)).news) (is_one P) (by unfold maxLen; omega) (by omega) (by simp) ?_)
  intro v' w' hown hg _ _
  go_wp2_with fail
  go_ret
  exact ⟨_, rfl, hown, ((Below.refl _ _).alloc (Nat.le_refl _) _).grown hg (by simp) fun k hk => by
    simp only [Value.ownBlock, Option.some.injEq] at hk
    omega⟩
theorem is_row_set (n : Nat) (f : Nat → Int) (R : List Value) (k : Nat) (x : Int) (h : k < n) : (is (rowOf n f) ++ R).set k (.int .i64 x) = is (rowOf n (updI f k x)) ++ R := by
  rw [List.set_append_left _ _ (by simp; omega), rowOf_set]; rfl
theorem is_row_at (n : Nat) (f : Nat → Int) (R : List Value) (k : Nat) (h : k < n) : (is (rowOf n f) ++ R)[k]? = some (.int .i64 (f k)) := by
  rw [List.getElem?_append_left (by simp; omega)]; exact rowOf_at n f k h

set_option maxHeartbeats 4000000 in
set_option maxRecDepth 100000 in
theorem reroot_any (A : Option Addr) (P : List Int) (c : Nat) (root : Int) (w : World) (hl : P.length ≤ 35184372087808) (hP : Rd w w.heap.size A (is P)) :
    Calls Try.prog 46 #[.slice A P.length c, .int .i64 root] w fun e w' => ∃ v Z code, e = .returned (.tuple #[v, .int .i64 code]) ∧ w'.ownsRow w.heap.size 3 1 v Z.length (is Z) ∧ Hid (RootIs P root Z code) ∧ Below w.heap.size w w' := by
  go_enter Try.func46, Try.ntmps46
  go_wp2_with fail
  refine (isTree_any A P c w hl hP).mono ?_
  rintro e w1 ⟨rfl, rfl⟩
  cases ht : treeB P
  · have HP : Hid (RootIs P root [] 160) := Lib.hid (.inl ⟨ht, rfl, rfl⟩)
    clear ht
    go_wp2_with fail
    go_ret2
    exact ⟨_, [], _, rfl, ⟨rfl, .inl ⟨rfl, rfl⟩⟩, HP, Below.refl _ _⟩
  · by_cases hneg : root < 0
    · have HQ : Hid (RootIs P root [] 141) := Lib.hid (.inr (.inl ⟨ht, .inl hneg, rfl, rfl⟩))
      have d1 : decide (root < 0) = true := by simpa using hneg
      clear ht hneg
      go_wp2_with fail
      go_ret2
      exact ⟨_, [], _, rfl, ⟨rfl, .inl ⟨rfl, rfl⟩⟩, HQ, Below.refl _ _⟩
    · have d1 : decide (root < 0) = false := by simpa using hneg
      by_cases hbig : (P.length : Int) ≤ root
      · have HQ : Hid (RootIs P root [] 141) := Lib.hid (.inr (.inl ⟨ht, .inr hbig, rfl, rfl⟩))
        have d2 : decide ((P.length : Int) ≤ root) = true := by simpa using hbig
        clear ht hneg hbig
        go_wp2_with fail
        go_ret2
        exact ⟨_, [], _, rfl, ⟨rfl, .inl ⟨rfl, rfl⟩⟩, HQ, Below.refl _ _⟩
      · obtain ⟨r, rfl⟩ := Int.eq_ofNat_of_zero_le (show 0 ≤ root by omega)
        have hr : r < P.length := by omega
        obtain ⟨h7, hT⟩ := (treeB_iff P).1 ht
        have HQ : Hid (RootIs P r (rowOf P.length (rer P.length (pz P) r)) 0) := Lib.hid (.inr (.inr ⟨ht, r, rfl, hr, rfl, rfl⟩))
        have HT := Lib.hid hT
        have HU := Lib.hid (hT.reach r hr)
        have d2 : decide ((P.length : Int) ≤ (r : Int)) = false := decide_eq_false (by omega)
        have d3 : decide (P.length ≤ r) = false := decide_eq_false (by omega)
        obtain ⟨ad, hA, _, _⟩ := hP.p_at hr
        subst hA
        clear ht hneg hbig hT
        go_wp2_with fail
        refine (clone_int_any ad P c w (by omega) hP).mono ?_
        rintro e w1 ⟨v, rfl, hown, hb1⟩
        obtain ⟨g, cap, R, rfl, hg, hR, hRl, hcm, hnc⟩ := row_of_own hown (by omega)
        have hP1 := hP.below hb1
        rw [← rowOf_pz P] at hR
        clear hown
        go_wp2_with fail
        go_loopg [7, 8] P.length (fun gk a b wr => ∃ (m : Nat) (y x : Int) (f : Nat → Int), gk = P.length - m ∧ m ≤ P.length ∧ a = .int .i64 y ∧ b = .int .i64 x ∧ -1 ≤ y ∧ y < P.length ∧ Hid (trnF (wayF (pz P) (P.length - m) y) x f = rer P.length (pz P) r) ∧ Hid (up (pz P) (P.length - m) y = -1) ∧
          Row wr g 3 (is (rowOf P.length f) ++ R) ∧ Below g w1 wr)
        case atStart => exact ⟨0, r, -1, pz P, rfl, Nat.zero_le _, rfl, rfl, by omega, by omega, rfl, HU, hR, Below.refl _ _⟩
        case round =>
          obtain ⟨m, y, x, f, rfl, hm, rfl, rfl, hy1, hy2, HW, HUP, hRk, hbk⟩ := hrel
          by_cases hy : 0 ≤ y
          · obtain ⟨j, rfl⟩ := Int.eq_ofNat_of_zero_le hy
            have hj : j < P.length := by omega
            have hmn : m < P.length := by
              rcases Nat.lt_or_ge m P.length with d | d
              · exact d
              · have h1 := HUP.out
                rw [show P.length - m = 0 by omega] at h1
                have h1 : (j : Int) = -1 := h1
                omega
            have hrn := HT.out.rng j hj
            have HW2 : Hid (trnF (wayF (pz P) (P.length - (m + 1)) (pz P j)) (j : Int) (updI f j x) = rer P.length (pz P) r) := Lib.hid (by
              have e : wayF (pz P) (P.length - m) (j : Int) = j :: wayF (pz P) (P.length - (m + 1)) (pz P j) := by
                rw [show P.length - m = (P.length - (m + 1)) + 1 by omega]
                conv => lhs; unfold wayF
                rw [if_neg (by omega), Int.toNat_natCast]
              rw [← HW.out, e]; rfl)
            have HU2 : Hid (up (pz P) (P.length - (m + 1)) (pz P j) = -1) := Lib.hid (by
              have h1 := HUP.out
              rw [show P.length - m = (P.length - (m + 1)) + 1 by omega, up_nat] at h1
              exact h1)
            obtain ⟨ad2, hA2, _, hc⟩ := ((hP1.mono hg).below hbk).p_at hj
            obtain rfl : ad = ad2 := by injection hA2
            have c1 := (hRk.cell j).trans (is_row_at P.length f R j hj)
            have z1 := hRk.frozen j
            have hgl := hRk.lt
            have b1 : (0 : Int) ≤ j := by omega
            have b2 : (j : Int) < P.length := by omega
            have b3 : ((j : Int) != -1) = true := by rw [bne_iff_ne]; omega
            generalize pz P j = z at hc hrn HW2 HU2
            clear HW HUP hy hA2
            go_wp2_with fail
            go_roundg (P.length - (m + 1))
            case measure => omega
            case rel =>
              refine ⟨m + 1, z, j, updI f j x, rfl, by omega, rfl, rfl, hrn.1, hrn.2, HW2, HU2, ?_, hbk.setCell (Nat.le_refl _) _⟩
              have h2 := hRk.set_ j (.int .i64 x)
              rw [is_row_set _ _ _ _ _ hj] at h2
              exact h2
          · obtain rfl : y = -1 := by omega
            have HE : Hid (f = rer P.length (pz P) r) := Lib.hid (by rw [← HW.out, wayF_neg _ (by omega)]; first | done | rfl)
            go_wp2_with fail
            go_ret2
            refine ⟨_, _, _, rfl, ?_, HQ, hb1.trans (hbk.mono hg)⟩
            rw [← HE.out, rowOf_length]
            exact own_of_row hRk hg (by simp) (by rw [List.length_append, is_length, rowOf_length, ← hRl, List.length_append, is_length]) hcm

theorem zed_drop {Z : List Nat} {k : Nat} (h : k < Z.length) : Z.drop k = zed Z k :: Z.drop (k + 1) := by
  rw [← zed_eq Z k h]; exact List.drop_eq_getElem_cons h
set_option maxHeartbeats 4000000 in
set_option maxRecDepth 100000 in
theorem r16reroot_any (A : Option Addr) (P : List Int) (c : Nat) (root : Int) (w : World) (hl : P.length ≤ 35184372087808) (hP : Rd w w.heap.size A (is P)) :
    Calls Try.prog 47 #[.slice A P.length c, .int .i64 root] w fun e w' => ∃ v Z code, e = .returned (.tuple #[v, .int .i64 code]) ∧ w'.ownsRow w.heap.size 3 1 v Z.length (is Z) ∧ Hid (RootIs P root Z code) ∧ Below w.heap.size w w' := by
  go_enter Try.func47, Try.ntmps47
  go_wp2_with fail
  refine (r16isTree_any A P c w hl hP).mono ?_
  rintro e w0 ⟨rfl, hb0⟩
  have hP0 := hP.later hb0
  cases ht : treeB P
  · have HP : Hid (RootIs P root [] 160) := Lib.hid (.inl ⟨ht, rfl, rfl⟩)
    clear ht
    go_wp2_with fail
    go_ret2
    exact ⟨_, [], _, rfl, ⟨rfl, .inl ⟨rfl, rfl⟩⟩, HP, hb0⟩
  · by_cases hneg : root < 0
    · have HQ : Hid (RootIs P root [] 141) := Lib.hid (.inr (.inl ⟨ht, .inl hneg, rfl, rfl⟩))
      have d1 : decide (root < 0) = true := by simpa using hneg
      clear ht hneg
      go_wp2_with fail
      go_ret2
      exact ⟨_, [], _, rfl, ⟨rfl, .inl ⟨rfl, rfl⟩⟩, HQ, hb0⟩
    · have d1 : decide (root < 0) = false := by simpa using hneg
      by_cases hbig : (P.length : Int) ≤ root
      · have HQ : Hid (RootIs P root [] 141) := Lib.hid (.inr (.inl ⟨ht, .inr hbig, rfl, rfl⟩))
        have d2 : decide ((P.length : Int) ≤ root) = true := by simpa using hbig
        clear ht hneg hbig
        go_wp2_with fail
        go_ret2
        exact ⟨_, [], _, rfl, ⟨rfl, .inl ⟨rfl, rfl⟩⟩, HQ, hb0⟩
      · obtain ⟨r, rfl⟩ := Int.eq_ofNat_of_zero_le (show 0 ≤ root by omega)
        have hr : r < P.length := by omega
        obtain ⟨h7, hT⟩ := (treeB_iff P).1 ht
        have HQ : Hid (RootIs P r (rowOf P.length (rer P.length (pz P) r)) 0) := Lib.hid (.inr (.inr ⟨ht, r, rfl, hr, rfl, rfl⟩))
        have HWL := Lib.hid (fun k hk => hT.way_lt r hr k hk)
        have HW0 : Hid (zed (way P.length (pz P) r) 0 = r) := Lib.hid (by rw [hT.way_eq hr]; rfl)
        have HWN : Hid ((way P.length (pz P) r).length ≤ 7) := Lib.hid (by
          have : ∀ f y, (wayF (pz P) f y).length ≤ f := by
            intro f
            induction f with
            | zero => intro y; exact Nat.le_refl _
            | succ f ih => intro y; unfold wayF; split <;> simp; exact ih _
          exact Nat.le_trans (this _ _) h7)
        have hrr : rer P.length (pz P) r = trnF (way P.length (pz P) r) (-1) (pz P) := rfl
        have d2 : decide ((P.length : Int) ≤ (r : Int)) = false := decide_eq_false (by omega)
        have d3 : decide (P.length ≤ r) = false := decide_eq_false (by omega)
        have hwy := fun w' hw' => way_any A P c r w' h7 hw' hT hr
        clear ht hneg hbig hT
        rw [hrr] at HQ
        clear hrr
        go_wp2_with fail
        refine (ints_any A P c w0 hl hP0).mono ?_
        rintro e w1 ⟨g, rfl, hg, hR, hb1⟩
        have hB1 := bthen hb0 hb1
        have hP1 := hP0.later hb1
        have HWY := Lib.hid (hwy w1 hP1)
        clear hwy
        generalize way P.length (pz P) r = Z at HQ HWL HW0 HWN HWY
        go_wp2_with fail
        refine HWY.out.mono ?_
        rintro e w2 ⟨v, rfl, hown, hb2⟩
        obtain ⟨A', c', rfl, _, _, hZ, hZb⟩ := Rd.of_own hown
        have hR2 := hR.later hb2
        have hB2 := bthen hB1 hb2
        have hz7 := HWN.out
        rw [← rowOf_pz P] at hR2
        have hgz : ∀ ad, A' = some ad → ad.block ≠ g := fun ad h => by have := hZb ad h; have := hR.lt; omega
        have HGZ := Lib.hid hgz
        clear HWY hown hb2 hR hb1 hB1 hgz hZb
        go_wp2_with fail
        go_loopw [8] (fun i wr => ∃ (k : Nat) (f : Nat → Int), k ≤ Z.length ∧ i = .int .i64 k ∧ Hid (trnF (Z.drop k) (if k = 0 then -1 else ((zed Z (k - 1) : Nat) : Int)) f = trnF Z (-1) (pz P)) ∧ Row wr g 3 (is (rowOf P.length f)) ∧ w2.grownBy wr (some g)) (fun i _ => Z.length - (intOf i).toNat)
        case atStart => exact ⟨0, pz P, Nat.zero_le _, rfl, rfl, hR2, World.grownBy.refl _ _⟩
        case round =>
          obtain ⟨k, f, hk, rfl, HF, hRk, hgk⟩ := hrel
          have hgl := hRk.lt
          by_cases hlt : k < Z.length
          · have hzr : ∀ q, q < Z.length → ∃ ad, A' = some ad ∧ World.cell? wr (ad.add q) = some (.int .i64 ((zed Z q : Nat) : Int)) := fun q hq => by
              obtain ⟨ad, h1, h2, h3⟩ := hZ.z_at hq
              refine ⟨ad, h1, ?_⟩
              rw [← h3]
              exact hgk.cell_far _ (World.block_lt_of_cell? _ _ h3) (by rw [block_add]; intro e; injection e with e; exact HGZ.out ad h1 e)
            obtain ⟨ad, hA, hc⟩ := hzr k hlt
            have hzn := HWL.out _ (zed_mem Z k hlt)
            have HD := Lib.hid (zed_drop hlt)
            have c1 : World.cell? wr ⟨g, zed Z k, none⟩ = some (.int .i64 (f (zed Z k))) := (hRk.cell _).trans (rowOf_at _ _ _ hzn)
            have z1 := hRk.frozen (zed Z k)
            have hset := fun x : Int => (hRk.set_ (zed Z k) (.int .i64 x))
            simp only [rowOf_set] at hset
            have b1 : (0 : Int) ≤ k := by omega
            have b2 : (k : Int) < Z.length := by omega
            rcases Nat.eq_zero_or_pos k with h0 | h0
            · subst h0
              have hz0 := HW0.out
              have e0 : ((0 : Nat) : Int) = 0 := rfl
              rw [hz0] at HD c1 z1 hset hzn
              have hr0 : (0 : Int) ≤ r := by omega
              have HF2 : Hid (trnF (Z.drop 1) (r : Int) (updI f r (-1)) = trnF Z (-1) (pz P)) := Lib.hid (by rw [← HF.out, HD.out]; rfl)
              have HS := Lib.hid (hset (-1))
              clear hset hz0 hzr hc
              go_wp2_with fail
              go_roundw
              case rel => exact ⟨1, updI f r (-1), by omega, by go_num, Lib.hid (by rw [if_neg (by omega), HW0.out]; exact HF2.out), HS.out, grown_set hgk _ _⟩
              case measure => simp [intOf]; omega
            · obtain ⟨d, rfl⟩ : ∃ d, k = d + 1 := ⟨k - 1, by omega⟩
              obtain ⟨ad2, hA2, hc2⟩ := hzr d (by omega)
              obtain rfl : ad = ad2 := by rw [hA] at hA2; injection hA2
              subst hA
              have HF2 : Hid (trnF (Z.drop (d + 1 + 1)) (zed Z (d + 1) : Int) (updI f (zed Z (d + 1)) (zed Z d : Int)) = trnF Z (-1) (pz P)) := Lib.hid (by rw [← HF.out, HD.out, if_neg (by omega)]; rfl)
              have HS := Lib.hid (hset (zed Z d : Int))
              obtain ⟨x, hx⟩ : ∃ x, x = zed Z (d + 1) := ⟨_, rfl⟩
              rw [← hx] at hc c1 z1 HF2 HS hzn
              have HZN := Lib.hid hx
              clear hx
              generalize zed Z d = y at hc2 HF2 HS
              have b3 : (0 : Int) ≤ d := by omega
              have b4 : (d : Int) < Z.length := by omega
              have b5 : (0 : Int) ≤ x := by omega
              have b6 : (x : Int) < P.length := by omega
              have b7 : (0 : Int) ≤ (d : Int) + 1 := by omega
              have b8 : (d : Int) + 1 < Z.length := by omega
              have ht : ((d : Int) + 1).toNat = d + 1 := by omega
              have e0 : ((d : Int) + 1 == 0) = false := by rw [beq_eq_false_iff_ne]; omega
              have hw : IntKind.i64.wrap (d : Int) = d := IntWalk.i64_in _ (by omega)
              have hc' : World.cell? wr ⟨ad.block, ad.off + (d + 1), none⟩ = some (.int .i64 ((x : Nat) : Int)) := hc
              clear hset hzr hA2 HD
              go_upto_region 12 with fail
              go_region_law (fail)
              all_goals
                go_wp2_with fail
                go_roundw
                case rel => exact ⟨d + 1 + 1, updI f x y, by omega, by go_num, Lib.hid (by rw [if_neg (by omega)]; show trnF _ ((zed Z (d + 1) : Nat) : Int) _ = _; rw [← HZN.out]; exact HF2.out), HS.out, by first | exact grown_drewN (grown_set hgk _ _) 1 | exact grown_set (grown_drewN hgk 1) _ _⟩
                case measure => simp [intOf]; omega
          · obtain rfl : k = Z.length := by omega
            have HE : Hid (f = trnF Z (-1) (pz P)) := Lib.hid (by rw [← HF.out, List.drop_length]; rfl)
            go_wp2_with fail
            go_ret2
            refine ⟨_, _, _, rfl, ?_, HQ, hB2.trans (grown_to_below hgk (Nat.le_trans hb0.size hg) hB2.size)⟩
            have h2 := hRk.own (base := w.heap.size) (Nat.le_trans hb0.size hg) (by unfold maxLen; simp; omega)
            rw [← HE.out, rowOf_length]
            rw [is_length, rowOf_length] at h2
            exact h2
end Go.Proofs.Ytkenbmelhfhidaa
