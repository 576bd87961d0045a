/- The walk of osierlaw17.ClassifyAlike. -/
import Derived.Test.YtkenbmelhfhidaaBG
import Derived.Test.YtkenbmelhfhidaaKnotLaw
import Derived.Deep.RegionHeld3
namespace Go.Proofs.Ytkenbmelhfhidaa
open Go.RowKit
attribute [local go_sem ↓] uz_and uz_or uz_andNot uz_and_one uz_shr uz_shl_one uz_shl uz_sub uz_sub_one uz_add uz_beq_zero uz_bne_zero uz_beq uz_bne uz_beq_one

/-! ### The plain law: the edges in another order, the first once more -/
def pm (n b i : Nat) : Nat := n - 1 - (i + b) % n
theorem pm_lt {n b i : Nat} (h : 0 < n) : pm n b i < n := by unfold pm; omega
theorem pm_onto {n b j : Nat} (hb : b < n) (hj : j < n) : ∃ i, i < n ∧ pm n b i = j := by
  refine ⟨(n - 1 - j + (n - b)) % n, Nat.mod_lt _ (by omega), ?_⟩
  unfold pm
  rw [Nat.mod_add_mod, show n - 1 - j + (n - b) + b = n - 1 - j + n by omega, Nat.add_mod_right, Nat.mod_eq_of_lt (by omega)]
  omega
def turnE (E : List (BitVec 32)) (b : Nat) : List (BitVec 32) := wrow E.length fun i => ed E (pm E.length b i)
theorem turnE_length (E : List (BitVec 32)) (b : Nat) : (turnE E b).length = E.length := wrow_length _ _
theorem ed_turnE (E : List (BitVec 32)) (b : Nat) {i : Nat} (h : i < E.length) : ed (turnE E b) i = ed E (pm E.length b i) := ed_wrow _ _ h
theorem turn_mem {E : List (BitVec 32)} {b : Nat} (hb : b < E.length) : ∀ a, a ∈ E ↔ a ∈ turnE E b ++ [ed (turnE E b) 0] := fun a => by
  have hn : 0 < E.length := by omega
  constructor
  · intro h
    obtain ⟨j, hj, rfl⟩ := mem_ed h
    obtain ⟨i, hi, e⟩ := pm_onto hb hj
    rw [← e, ← ed_turnE E b hi]
    exact List.mem_append_left _ (ed_mem _ i (by rw [turnE_length]; exact hi))
  · intro h
    have key : ∀ i, i < E.length → ed (turnE E b) i ∈ E := fun i hi => by rw [ed_turnE E b hi]; exact ed_mem E _ (pm_lt hn)
    rcases List.mem_append.1 h with h | h
    · obtain ⟨i, hi, rfl⟩ := mem_ed h
      exact key i (by rw [← turnE_length E b]; exact hi)
    · rw [List.mem_singleton.1 h]; exact key 0 hn
theorem turn_good {V : Int} {E : List (BitVec 32)} {b : Nat} (hg : goodB V E = true) (h5 : E.length ≤ 5) (hb : b < E.length) : goodB V (turnE E b ++ [ed (turnE E b) 0]) = true := by
  obtain ⟨hv, _⟩ := goodB_iff.1 hg
  obtain ⟨h0, h1, _, _⟩ := validB_of hv
  have hl : (turnE E b ++ [ed (turnE E b) 0]).length = E.length + 1 := by rw [List.length_append, turnE_length]; rfl
  exact goodB_iff.2 ⟨validB_mk h0 h1 (by omega) fun e he => validB_out hv e ((turn_mem hb e).2 he), by omega⟩
theorem beyond_hv {V : Nat} (hV : V ≤ 30) (head : BitVec 32) : ∀ v, v < (V : Int).toNat → (hv head v ↔ hv (head &&& ~~~(4294967295#32 &&& ~~~allOf V)) v) := fun v hvV => by
  rw [hv_andNot, hv_andNot]
  have h1 : hv (allOf V) v := by
    show (allOf V).getLsbD v = true
    rw [getLsbD_allOf V (by omega)]
    simp; omega
  exact ⟨fun h => ⟨h, fun z => z.2 h1⟩, fun h => h.1⟩
theorem alike_all {V : Nat} {E : List (BitVec 32)} {head : BitVec 32} {b : Nat} {a x h a' x' h' : Bool} {c' : Int} (K : ClassIs V E head a x h 0) (h5 : E.length ≤ 5) (hb : b < E.length)
    (K' : ClassIs V (turnE E b ++ [ed (turnE E b) 0]) (head &&& ~~~(4294967295#32 &&& ~~~allOf V)) a' x' h' c') : a = a' ∧ x = x' ∧ h = h' ∧ c' = 0 := by
  have hg : goodB V E = true := by
    rcases K with ⟨_, _, _, _, z⟩ | ⟨g, _⟩
    · cases z
    · exact g
  have h30 := (validB_of (goodB_iff.1 hg).1).2.1
  exact alike_law hg (turn_good hg h5 hb) (turn_mem hb) (beyond_hv (by omega) head) K K'
theorem alike_none {V : Int} {head : BitVec 32} {a x h : Bool} (K : ClassIs V [] head a x h 0) : h = true := by
  rcases K with ⟨_, _, _, _, z⟩ | ⟨_, _, _, _, p, q, hC⟩
  · cases z
  · rcases hC with ⟨_, _, _, _, z⟩ | ⟨_, _, _, e, _⟩ | ⟨_, _, _, a, b, _, _, _, _, hc, _⟩
    · cases z
    · cases h
      · cases e
      · rfl
    · cases hc
def turnTo (E : List (BitVec 32)) (b k i : Nat) : BitVec 32 := if i < k then ed E (pm E.length b i) else ed E i
theorem turnTo_zero (E : List (BitVec 32)) (b : Nat) : wrow E.length (turnTo E b 0) = E := by
  apply List.ext_getElem (by simp)
  intro i h1 h2
  rw [ed_eq E i h2, ed_eq _ i h1, ed_wrow _ _ h2]
  unfold turnTo
  rw [if_neg (Nat.not_lt_zero i)]
theorem turnTo_next (E : List (BitVec 32)) (b k : Nat) : updS (turnTo E b k) k (ed E (pm E.length b k)) = turnTo E b (k + 1) := by
  funext i
  unfold updS turnTo
  by_cases c : i = k
  · subst c; simp
  · rw [if_neg c]
    by_cases d : i < k
    · rw [if_pos d, if_pos (by omega)]
    · rw [if_neg d, if_neg (by omega)]
theorem turnTo_all (E : List (BitVec 32)) (b : Nat) : wrow E.length (turnTo E b E.length) = turnE E b := by
  unfold wrow turnE wrow
  apply List.map_congr_left
  intro i hi
  unfold turnTo
  rw [if_pos (List.mem_range.1 hi)]

theorem step_u32_eq17 {wr W : World} {ops : Array Oper} {o : Oper} {a : Act} {K : Act → World → Prop} {Q : Exit → Act → World → Prop} {F : Prop} (y : BitVec 32) (hW : wr.alloc (.cells #[.int .u32 (uz y)] 39) = W) (hgd : o.guard = none) (s x : Operand) (ho : o.op = .call { callee := .builtin .append, args := #[s, x], argTypes := #[22, 22] })
    (base : Nat) (v : Value) (E : List (BitVec 32)) (hs : a.eval s = v) (hx : a.eval x = .slice (some ⟨wr.heap.size, 0, none⟩) 1 1) (hown : wr.ownsRow base 39 1 v E.length (us E))
    (hn : E.length + 1 ≤ 2199023255552) (hbase : base ≤ wr.heap.size)
    (h : ∀ g cap w', w'.ownsRow base 39 1 (.slice (some ⟨g, 0, none⟩) (E.length + 1) cap) (E.length + 1) (us (E ++ [y])) → wr.grownBy w' v.ownBlock → Below base wr w' → g < w'.heap.size → K (a.put o.dst (.slice (some ⟨g, 0, none⟩) (E.length + 1) cap)) w') :
    if Region.wanted o (yielded ops a.tmps) = true then Oper.wp Try.prog o a W K Q else F := by
  subst hW
  exact step_u32 hgd s x ho base v E y hs hx hown hn hbase h
theorem uint_mod17 (x : Int) (n : Nat) (h0 : 0 < n) (h : n ≤ 7) : ∃ k : Nat, k < n ∧ (IntKind.u64.wrap x).tmod (n : Int) = k := by
  rw [IntKind.wrap_u64]
  have h1 : 0 ≤ x % 18446744073709551616 := by omega
  rw [Int.tmod_eq_emod_of_nonneg h1]
  have h2 := Int.emod_nonneg (x % 18446744073709551616) (show (n : Int) ≠ 0 by omega)
  have h3 := Int.emod_lt_of_pos (x % 18446744073709551616) (show (0 : Int) < n by omega)
  exact ⟨(x % 18446744073709551616 % n).toNat, by omega, by omega⟩
theorem u64_small17 (n : Nat) (h : n ≤ 7) : IntKind.u64.wrap (n : Int) = n := by
  rw [IntKind.wrap_u64]; omega
theorem tmod_nat (a b c : Nat) : ((a : Int) + (b : Int)).tmod (c : Nat) = ((a + b) % c : Nat) := by
  rw [Int.tmod_eq_emod_of_nonneg (by omega)]; norm_cast

set_option maxHeartbeats 40000000 in
set_option maxRecDepth 100000 in
theorem law_kalike (V : Int) (A : Option Addr) (E : List (BitVec 32)) (c : Nat) (head : BitVec 32) (by_ : Int) (w : World) (hl : E.length ≤ 35184372087808) (hE : Rd w w.heap.size A (us E)) :
    Calls Try.prog 23 #[.agg #[.int .i64 V, .slice A E.length c], .int .u32 (uz head), .int .i64 by_] w fun e w' => e = .returned (.bool true) ∧ Below w.heap.size w w' := by
  go_enter Try.func23, Try.ntmps23
  go_wp2_with fail
  have hb0 := below_alloc w (.cells #[.int .i64 V, .slice A E.length c] 24)
  have hG0 : Row (w.alloc (.cells #[.int .i64 V, .slice A E.length c] 24)) w.heap.size 24 [.int .i64 V, .slice A E.length c] := Row.new _ _ _
  generalize w.alloc _ = w0 at hb0 hG0 ⊢
  refine (copy_any V A E c _ hl (hE.later hb0)).mono ?_
  rintro e w1 ⟨g, rfl, hg, hRg, hb1⟩
  have hB1 := bthen hb0 hb1
  have hG1 := hG0.later hb1
  go_wp2_with fail
  refine (classify_any V ⟨g, 0, none⟩ E E.length head w1 hl hRg.rd).mono ?_
  rintro e w2 ⟨a, x, h, q, rfl, K, hb2⟩
  have hB2 := bthen hB1 hb2
  have hG2 := hG1.later hb2
  have hE2 := hE.later hB2
  clear hb0 hb1 hb2 hG0 hG1 hB1 hRg hg hE
  go_upto_region 2 with fail
  have hb3 := below_alloc w2 (.cells #[.bool a, .bool x, .bool h] 94)
  have hK3 : Row (w2.alloc (.cells #[.bool a, .bool x, .bool h] 94)) w2.heap.size 94 [.bool a, .bool x, .bool h] := Row.new _ _ _
  have hB3 := bthen hB2 hb3
  have hG3 := hG2.later hb3
  have hE3 := hE2.later hb3
  generalize w2.heap.size = p at hK3 ⊢
  generalize w2.alloc _ = w3 at hK3 hB3 hG3 hE3 ⊢
  clear hb3 hB2 hG2 hE2
  have d1 : w3.cell? ⟨w.heap.size, 1, none⟩ = some (.slice A E.length c) := hG3.cell 1
  have k2 : w3.cell? ⟨p, 2, none⟩ = some (.bool h) := hK3.cell 2
  by_cases hq : q = 0
  · subst hq
    by_cases h0 : E.length = 0
    · have e0 : ((E.length : Int) == 0) = true := by simp [h0]
      have hEn : E = [] := List.eq_nil_of_length_eq_zero h0
      have hh : h = true := by have := K.out; rw [hEn] at this; exact alike_none this
      subst hh
      clear h0 hEn
      go_wp2_with fail
      refine (awake17_any w3).mono ?_
      rintro e w4 ⟨rfl, hb4⟩
      go_wp2_with fail
      go_ret
      exact ⟨rfl, bthen hB3 hb4⟩
    · have e0 : ((E.length : Int) == 0) = false := by rw [beq_eq_false_iff_ne]; omega
      by_cases h5 : E.length ≤ 5
      · have e1 : decide ((5 : Int) < (E.length : Int)) = false := decide_eq_false (by omega)
        have hg : goodB V E = true := by
          rcases K.out with ⟨_, _, _, _, z⟩ | ⟨g, _⟩
          · cases z
          · exact g
        obtain ⟨v0, v30, _, _⟩ := validB_of (goodB_iff.1 hg).1
        obtain ⟨n, rfl⟩ : ∃ n : Nat, V = n := ⟨V.toNat, by omega⟩
        clear hg v0
        have d0 : w3.cell? ⟨w.heap.size, 0, none⟩ = some (.int .i64 n) := hG3.cell 0
        go_wp2_with fail
        refine (copy_any n A E c w3 hl hE3).mono ?_
        rintro e w4 ⟨g2, rfl, hg2, hRh, hb4⟩
        have hB4 := bthen hB3 hb4
        clear d0 d1 k2 hB4
        go_upto_region 8 with fail
        have hb5 := below_alloc w4 (.cells #[.int .i64 n, .slice (some ⟨g2, 0, none⟩) E.length E.length] 24)
        have hI5 : Row (w4.alloc (.cells #[.int .i64 n, .slice (some ⟨g2, 0, none⟩) E.length E.length] 24)) w4.heap.size 24 [.int .i64 n, .slice (some ⟨g2, 0, none⟩) E.length E.length] := Row.new _ _ _
        have hN5 := bthen hb4 hb5
        have hR5 := hRh.later hb5
        have hrw : w3.heap.size ≤ w4.heap.size := by have := hRh.lt; omega
        generalize w4.heap.size = r at hI5 hrw ⊢
        generalize w4.alloc _ = w5 at hI5 hN5 hR5 ⊢
        have hgr : g2 ≠ r := row_ne hR5 hI5 (by decide)
        have hpos : 0 < E.length := by omega
        obtain ⟨b, hbn, hbm⟩ := uint_mod17 by_ E.length hpos (by omega)
        have hul := u64_small17 E.length (by omega)
        have hbw : IntKind.i64.wrap (b : Int) = b := IntWalk.i64_in _ (by omega)
        have hne : ¬ E.length = 0 := by omega
        have hne2 : ¬ E = [] := fun h => by rw [h] at hpos; simp at hpos
        have hne3 : ¬ (E.length : Int) = 0 := by omega
        have HR0 : Hid (Row w5 g2 39 (us (wrow E.length (turnTo E b 0)))) := Lib.hid (by rw [turnTo_zero]; exact hR5)
        have i1 : w5.cell? ⟨r, 1, none⟩ = some (.slice (some ⟨g2, 0, none⟩) E.length E.length) := hI5.cell 1
        clear hb4 hb5 hRh hR5 h0
        go_wp2_with fail
        clear i1
        go_loopw [48] (fun i wr => ∃ k : Nat, k ≤ E.length ∧ i = .int .i64 k ∧ Row wr g2 39 (us (wrow E.length (turnTo E b k))) ∧ Row wr r 24 [.int .i64 n, .slice (some ⟨g2, 0, none⟩) E.length E.length] ∧ Below w3.heap.size w3 wr) (fun i _ => E.length - (intOf i).toNat)
        case atStart => exact ⟨0, Nat.zero_le _, rfl, HR0.out, hI5, hN5⟩
        clear HR0 hI5 hN5
        case round =>
          obtain ⟨k, hk, rfl, hR, hI, hN⟩ := hrel
          have hGr := hG3.later hN
          have d1 : World.cell? wr ⟨w.heap.size, 1, none⟩ = some (.slice A E.length c) := hGr.cell 1
          have i1 : World.cell? wr ⟨r, 1, none⟩ = some (.slice (some ⟨g2, 0, none⟩) E.length E.length) := hI.cell 1
          by_cases hlt : k < E.length
          · obtain ⟨ad, hA, _, hc⟩ := (hE3.later hN).e_at (pm_lt (b := b) (i := k) hpos)
            subst hA
            have b1 : (0 : Int) ≤ k := by omega
            have b2 : (k : Int) < E.length := by omega
            have hs := tmod_nat k b E.length
            have hrr : (k + b) % E.length < E.length := Nat.mod_lt _ hpos
            have hpp : (E.length : Int) - 1 - (((k + b) % E.length : Nat) : Int) = (pm E.length b k : Nat) := by unfold pm; omega
            have hpl := pm_lt (b := b) (i := k) hpos
            have hw1 : IntKind.i64.wrap ((k : Int) + (b : Int)) = (k : Int) + (b : Int) := IntWalk.i64_in _ (by omega)
            have hw2 : IntKind.i64.wrap ((E.length : Int) - 1) = (E.length : Int) - 1 := IntWalk.i64_in _ (by omega)
            have HX : Hid (us (wrow E.length (updS (turnTo E b k) k (ed E (pm E.length b k)))) = us (wrow E.length (turnTo E b (k + 1)))) := Lib.hid (by rw [turnTo_next])
            have HQ := Lib.hid (fun z => wrow_set E.length (turnTo E b k) k z)
            have q0 : World.cell? wr ⟨g2, k, none⟩ = some ((us (wrow E.length (turnTo E b k)))[k]'(by simp [us]; omega)) := by rw [hR.cell]; exact List.getElem?_eq_getElem _
            have qf := hR.frozen k
            have ql := hR.lt
            have hg3 : w3.heap.size ≤ g2 := hg2
            generalize (us (wrow E.length (turnTo E b k)))[k]'(by simp [us]; omega) = z0 at q0
            generalize ed E (pm E.length b k) = z at hc HX
            generalize pm E.length b k = pp at hc hpp hpl
            generalize (k + b) % E.length = rr at hs hrr hpp
            have p1 : (0 : Int) ≤ pp := by omega
            have hw3 : IntKind.i64.wrap ((E.length : Int) - 1 - (rr : Int)) = pp := by rw [hpp]; exact IntWalk.i64_in _ (by omega)
            clear hpp
            have p2 : (pp : Int) < E.length := by omega
            have HRN : Hid (Row (wr.setCell ⟨g2, k, none⟩ (.int .u32 (uz z))) g2 39 (us (wrow E.length (turnTo E b (k + 1))))) := Lib.hid (by
              have := hR.set_ k (.int .u32 (uz z))
              rwa [HQ.out, HX.out] at this)
            have HIN : Hid (Row (wr.setCell ⟨g2, k, none⟩ (.int .u32 (uz z))) r 24 [.int .i64 n, .slice (some ⟨g2, 0, none⟩) E.length E.length]) := Lib.hid (hI.far (fun e => hgr e.symm) _)
            go_upto_region 11 with fail
            go_region_law (fail)
            all_goals
              go_wp2_with fail
              go_roundw
              case rel => exact ⟨k + 1, by omega, by go_num, HRN.out, HIN.out, by first | exact below_drewN (hN.setCell (by simpa using hg3) _) 1 | exact (below_drewN hN 1).setCell (by simpa using hg3) _⟩
              case measure => simp [intOf]; omega
          · obtain rfl : k = E.length := by omega
            have hT : Row wr g2 39 (us (turnE E b)) := by rw [← turnTo_all]; exact hR
            have hTl := turnE_length E b
            have HAL := Lib.hid (fun a' x' h' c' => alike_all (head := head) (a' := a') (x' := x') (h' := h') (c' := c') K.out h5 hbn)
            generalize turnE E b = T at hT hTl HAL
            have q0 : World.cell? wr ⟨g2, 0, none⟩ = some (.int .u32 (uz (ed T 0))) := by
              rw [hT.cell]
              have : 0 < T.length := by omega
              simp [us, ed, this]
            have hO : World.ownsRow (wr.drew) w3.heap.size 39 1 (.slice (some ⟨g2, 0, none⟩) E.length E.length) T.length (us T) := by
              have h0 := hT.own (base := w3.heap.size) hg2 (by unfold maxLen; simp; omega)
              rw [us_length, hTl] at h0
              rw [hTl]
              exact h0
            have qf := hI.frozen 1
            have hwr3 := hN.size
            have hIlt := hI.lt
            clear hR K hlt hk hul hbm hbw
            generalize hy : ed T 0 = y at q0
            have HY := Lib.hid hy
            clear hy
            go_upto_region 13 with fail
            go_cut [9] (fun z wx => z = .int .i64 E.length ∧ ∃ (g' : Nat) (c' : Nat), Row wx r 24 [.int .i64 n, .slice (some ⟨g', 0, none⟩) (E.length + 1) c'] ∧ World.ownsRow wx w3.heap.size 39 1 (.slice (some ⟨g', 0, none⟩) (E.length + 1) c') (E.length + 1) (us (T ++ [y])) ∧ Below w3.heap.size w3 wx)
            case first =>
              go_region_law (first | (refine step_u32_eq17 (wr := wr.drew) y (by first | rfl | simp) rfl (.tmp 74) (.tmp 79) rfl w3.heap.size (.slice (some ⟨g2, 0, none⟩) E.length E.length) T rfl rfl hO (by omega) hwr3 ?_; intro g' c' w' hown' hgr' hb9 hg'; have hI9 := hI.grown (grown_undrew hgr') (by simpa [Value.ownBlock] using hgr); have k1 : w'.cell? ⟨r, 1, none⟩ = some (.slice (some ⟨g2, 0, none⟩) E.length E.length) := hI9.cell 1; have k2 := hI9.frozen 1))
              all_goals
                rw [hTl] at hown'
                have hB9 := (hN.trans (below_undrew2 hb9)).setCell (p := ⟨r, 1, none⟩) hrw (.slice (some ⟨g', 0, none⟩) (E.length + 1) c')
                have hI10 := hI9.set_ 1 (.slice (some ⟨g', 0, none⟩) (E.length + 1) c')
                have hg10 := grown_set (grown_below (Below.refl w'.heap.size w') (some r)) 1 (.slice (some ⟨g', 0, none⟩) (E.length + 1) c')
                have hown10 := own_grown hown' hg10 fun x hx => by injection hx with hx; subst hx; exact own_row_ne hown' hI9 (by decide)
                clear hown' hgr' hb9 hI9 k1 k2 hg10
                go_wp2_with fail
                go_meet
                exact ⟨rfl, _, _, hI10, hown10, hB9⟩
            case rest =>
              obtain ⟨rfl, g', c', hI, hO, hN⟩ := hcut
              obtain ⟨A3, c3, eA, _, _, hrd, _⟩ := Rd.of_own hO
              injection eA with eA1 eA2 eA3
              subst eA1
              clear eA2
              subst eA3
              have hG := hG3.later hN
              have d0 : wc.cell? ⟨w.heap.size, 0, none⟩ = some (.int .i64 n) := hG.cell 0
              have d1 : wc.cell? ⟨w.heap.size, 1, none⟩ = some (.slice A E.length c) := hG.cell 1
              have hLL : (T ++ [y]).length = E.length + 1 := by rw [List.length_append, hTl]; rfl
              rw [HY.out] at HAL
              generalize T ++ [y] = F at hrd HAL hLL
              have HLE := Lib.hid (r14less_any 4294967295#32 (allOf n))
              rw [show uz 4294967295#32 = 4294967295 from rfl] at HLE
              generalize 4294967295#32 &&& ~~~allOf n = bey at HAL HLE
              clear hO hTl HY hG hT q0 qf hwr3 hIlt i1 hGr
              go_wp2_with fail
              refine (r14all_any n A E.length c wc (by omega)).mono ?_
              rintro e w6 ⟨rfl, hb6⟩
              have hN6 := bthen hN hb6
              have hI6 := hI.later hb6
              have hrd6 := hrd.later hb6
              clear d0 d1 hN hI hrd hb6
              go_wp2_with fail
              refine (HLE.out w6).mono ?_
              rintro e w' ⟨rfl, rfl⟩
              clear HLE
              have HLE := Lib.hid (r14less_any head bey)
              have HCL : Hid (∀ x, Below w6.heap.size w6 x → Calls Try.prog 67 #[.agg #[.int .i64 n, .slice (some ⟨g', 0, none⟩) (E.length + 1) c'], .int .u32 (uz (head &&& ~~~bey))] x fun e w' => ∃ (a' x' h' : Bool) (q' : Int), e = .returned (.tuple #[.agg #[.bool a', .bool x', .bool h'], .int .i64 q']) ∧ Hid (ClassIs n F (head &&& ~~~bey) a' x' h' q') ∧ Below x.heap.size x w') := Lib.hid fun x hx => by
                have := classify_any n ⟨g', 0, none⟩ F c' (head &&& ~~~bey) x (by omega) (hrd6.later hx)
                rw [hLL] at this
                exact this
              have HJ : Hid (∀ x, Below w6.heap.size w6 x → x.cell? ⟨r, 0, none⟩ = some (.int .i64 n) ∧ x.cell? ⟨r, 1, none⟩ = some (.slice (some ⟨g', 0, none⟩) (E.length + 1) c')) := Lib.hid fun x hx => ⟨(hI6.later hx).cell 0, (hI6.later hx).cell 1⟩
              go_upto_region 15 with fail
              go_cut [13, 14] (fun pp ee wx => ∃ (g9 : Nat) (a' x' h' : Bool) (q' : Int), pp = .pointer (some ⟨g9, 0, none⟩) ∧ ee = .int .i64 q' ∧ Row wx g9 94 [.bool a', .bool x', .bool h'] ∧ Hid (ClassIs n F (head &&& ~~~bey) a' x' h' q') ∧ Below w3.heap.size w3 wx)
              case first =>
                have hb6 : Below w6.heap.size w6 w6 := Below.refl _ _
                have HBA : Hid (∀ x o, Below w6.heap.size w6 x → Below w6.heap.size w6 (x.alloc o)) := Lib.hid fun x o hx => hx.alloc hx.size o
                have r0 : w6.cell? ⟨r, 0, none⟩ = some (.int .i64 n) := hI6.cell 0
                have r1 : w6.cell? ⟨r, 1, none⟩ = some (.slice (some ⟨g', 0, none⟩) (E.length + 1) c') := hI6.cell 1
                have rl := hI6.lt
                go_region_law (first | (go_simp; go_at_call 74; refine (HLE.out _).mono ?_; rintro e w' ⟨rfl, rfl⟩) | (go_simp; go_at_call 67; refine (HCL.out _ (by first | exact below_drewN hb6 1 | exact hb6 | exact below_drewN (HBA.out _ _ hb6) 1 | exact HBA.out _ _ (below_drewN hb6 1))).mono ?_; rintro e w7 ⟨a', x', h', q', rfl, HKK, hb7⟩; have hB67 : Below w6.heap.size w6 w7 := (by first | exact bthen (below_drewN hb6 1) hb7 | exact bthen (below_drewN (HBA.out _ _ hb6) 1) hb7 | exact bthen hb6 hb7 | exact bthen (HBA.out _ _ (below_drewN hb6 1)) hb7); try (have hKr : Row w7 w6.heap.size 94 [.bool false, .bool false, .bool false] := (by first | exact Row.later (show Row _ w6.heap.size _ _ from Row.new w6 _ _) hb7 | exact Row.later (show Row _ w6.heap.size _ _ from Row.new w6.drew _ _) hb7); have z0 : w7.cell? ⟨w6.heap.size, 0, none⟩ = some (.bool false) := hKr.cell 0; have z1 : w7.cell? ⟨w6.heap.size, 1, none⟩ = some (.bool false) := hKr.cell 1; have z2 : w7.cell? ⟨w6.heap.size, 2, none⟩ = some (.bool false) := hKr.cell 2; have f0 := hKr.frozen 0; have f1 := hKr.frozen 1; have f2 := hKr.frozen 2; have zl := hKr.lt)))
                all_goals
                  have hs6 := hN6.size
                  have hB7 := bthen hN6 hB67
                  have hs7 := hB67.size
                  go_wp2_with fail
                  go_meet
                  first
                    | exact ⟨_, a', x', h', q', rfl, rfl, Row.new _ _ _, HKK, hB7.alloc hB7.size _⟩
                    | exact ⟨_, a', x', h', q', rfl, rfl, ((hKr.set_ 0 (.bool a')).set_ 1 (.bool x')).set_ 2 (.bool h'), HKK, ((hB7.setCell hs6 _).setCell hs6 _).setCell hs6 _⟩
              case rest =>
                obtain ⟨g9, a', x', h', q', rfl, rfl, hQ, HKK, hNc⟩ := hcut
                obtain ⟨e1, e2, e3, e4⟩ := HAL.out a' x' h' q' HKK.out
                subst e1 e2 e3 e4
                have hBc := bthen hB3 hNc
                have hKc := hK3.later hNc
                have z0 := hKc.cell 0
                have z1 := hKc.cell 1
                have z2 := hKc.cell 2
                have y0 := hQ.cell 0
                have y1 := hQ.cell 1
                have y2 := hQ.cell 2
                simp only [List.getElem?_cons_zero, List.getElem?_cons_succ] at z0 z1 z2 y0 y1 y2
                clear HAL HLE HCL HJ hI6 hrd6 hN6 HKK hQ hKc hNc
                go_wp2_with fail
                refine (awake17_any _).mono ?_
                rintro e w9 ⟨rfl, hb9⟩
                go_wp2_with fail
                go_ret
                exact ⟨rfl, bthen hBc hb9⟩
      · have e1 : decide ((5 : Int) < (E.length : Int)) = true := decide_eq_true (by omega)
        clear h0 h5
        cases h
        all_goals
          go_wp2_with fail
          refine (awake17_any w3).mono ?_
          rintro e w4 ⟨rfl, hb4⟩
          go_wp2_with fail
          go_ret
          exact ⟨rfl, bthen hB3 hb4⟩
  · have hqb : (q != 0) = true := by simpa using hq
    clear hq
    go_wp2_with fail
    refine (awake17_any w3).mono ?_
    rintro e w4 ⟨rfl, hb4⟩
    go_wp2_with fail
    go_ret
    exact ⟨rfl, bthen hB3 hb4⟩
end Go.Proofs.Ytkenbmelhfhidaa
