/- The contract of the reference's Path. -/
import Derived.Test.YtaongngoacbodaaDoorRLeast
import Derived.Deep.RegionLaw
import Derived.Deep.AppendLies
import Derived.Deep.DrawnRows
namespace Go.Proofs.YtaongngoacbodaaDoor
open Go.RowKit

attribute [local go_sem ↓] uz_and uz_or uz_andNot uz_and_one uz_shr uz_shl_one uz_shl uz_sub uz_sub_one uz_add uz_beq_zero uz_bne_zero uz_beq uz_bne uz_beq_one

theorem rpath_invalid (V : Int) (s t : Int) (inner : BitVec 32) (A : Option Addr) (E : List (BitVec 32)) (c : Nat) (w : World) (hl : E.length ≤ 35184372087808) (hE : Rd w w.heap.size A (us E)) (hv : validB V E = false) :
    Calls Tryd.prog 16 #[.agg #[.int .i64 V, .slice A E.length c], .int .i64 s, .int .i64 t, .int .u32 (uz inner)] w fun e w' => e = .returned (.tuple #[.slice none 0 0, .int .i64 140]) ∧ Below w.heap.size w w' := by
  go_enter Tryd.func16, Tryd.ntmps16
  go_wp2_with fail
  have hb0 := below_alloc w (.cells #[.int .i64 V, .slice A E.length c] 24)
  refine (r14valid_any V A E c _ hl (hE.later hb0)).mono ?_
  rintro e w1 ⟨rfl, hb⟩
  rw [hv]
  go_wp2
  go_ret2
  exact ⟨rfl, bthen hb0 hb⟩
set_option maxRecDepth 100000 in
theorem rpath_out (V : Int) (s t : Int) (inner : BitVec 32) (A : Option Addr) (E : List (BitVec 32)) (c : Nat) (w : World) (hl : E.length ≤ 35184372087808) (hE : Rd w w.heap.size A (us E)) (hv : validB V E = true) (ho : s < 0 ∨ t < 0 ∨ V ≤ s ∨ V ≤ t) :
    Calls Tryd.prog 16 #[.agg #[.int .i64 V, .slice A E.length c], .int .i64 s, .int .i64 t, .int .u32 (uz inner)] w fun e w' => e = .returned (.tuple #[.slice none 0 0, .int .i64 141]) ∧ Below w.heap.size w w' := by
  go_enter Tryd.func16, Tryd.ntmps16
  go_wp2_with fail
  have hb0 := below_alloc w (.cells #[.int .i64 V, .slice A E.length c] 24)
  refine (r14valid_any V A E c _ hl (hE.later hb0)).mono ?_
  rintro e w1 ⟨rfl, hb⟩
  rw [hv]
  obtain ⟨hc, hf⟩ := bcell hb
  go_upto_region 3 with fail
  go_cut [33] (fun x wc => x = .bool true ∧ w1 = wc)
  case first =>
    go_wp2_with fail
    all_goals
      go_meet
      refine ⟨congrArg Value.bool ?_, rfl⟩
      first | rfl | (simp; done) | (simp; omega)
  case rest =>
    obtain ⟨rfl, rfl⟩ := hcut
    go_wp2
    go_ret2
    exact ⟨rfl, bthen hb0 hb⟩
set_option maxRecDepth 100000 in
theorem rpath_same (V : Int) (s : Int) (inner : BitVec 32) (A : Option Addr) (E : List (BitVec 32)) (c : Nat) (w : World) (hl : E.length ≤ 35184372087808) (hE : Rd w w.heap.size A (us E)) (hv : validB V E = true) (h0 : 0 ≤ s) (h1 : s < V) :
    Calls Tryd.prog 16 #[.agg #[.int .i64 V, .slice A E.length c], .int .i64 s, .int .i64 s, .int .u32 (uz inner)] w fun e w' => ∃ g, e = .returned (.tuple #[.slice (some ⟨g, 0, none⟩) 1 1, .int .i64 0]) ∧ w.heap.size ≤ g ∧ Row w' g 3 (is [s]) ∧ Below w.heap.size w w' := by
  go_enter Tryd.func16, Tryd.ntmps16
  go_wp2_with fail
  have hb0 := below_alloc w (.cells #[.int .i64 V, .slice A E.length c] 24)
  refine (r14valid_any V A E c _ hl (hE.later hb0)).mono ?_
  rintro e w1 ⟨rfl, hb⟩
  rw [hv]
  obtain ⟨hc, hf⟩ := bcell hb
  have hb1 := bthen hb0 hb
  go_upto_region 3 with fail
  go_cut [33] (fun x wc => x = .bool false ∧ w1 = wc)
  case first =>
    go_wp2_with fail
    all_goals
      go_meet
      refine ⟨congrArg Value.bool ?_, rfl⟩
      first | rfl | (simp; done) | (simp; omega)
  case rest =>
    obtain ⟨rfl, rfl⟩ := hcut
    go_wp2
    go_ret2
    exact ⟨_, rfl, hb1.size, Row.new _ _ _, hb1.alloc hb1.size _⟩

/-- Is the pair (v, u) passed over? -/
def skipB (E : List (BitVec 32)) (s t : Nat) (inner : BitVec 32) (b : Nat → List Nat) (v u : Nat) : Bool :=
  ((v : Int) == (t : Int)) || (((b u).length : Int) == 0) || !nearB E v u || ((u : Int) == (s : Int)) || (((u : Int) != (t : Int)) && !inB inner u)
theorem skip_true {E : List (BitVec 32)} {s t : Nat} {inner : BitVec 32} {b : Nat → List Nat} {v u : Nat} (h : skipB E s t inner b v u = true) : v = t ∨ b u = [] ∨ ¬ adj E v u ∨ ¬ okV s t inner u := by
  unfold skipB at h
  simp only [Bool.or_eq_true, Bool.and_eq_true, beq_iff_eq, bne_iff_ne, Bool.not_eq_true'] at h
  rcases h with (((h | h) | h) | h) | h
  · exact .inl (by omega)
  · exact .inr (.inl (List.length_eq_zero_iff.1 (by omega)))
  · exact .inr (.inr (.inl fun a => by rw [(nearB_iff E v u).2 a] at h; cases h))
  · exact .inr (.inr (.inr fun a => a.1 (by omega)))
  · refine .inr (.inr (.inr fun a => ?_))
    rcases a.2 with c | c
    · exact h.1 (by omega)
    · rw [← inB_nat, h.2] at c; cases c
theorem skip_false {E : List (BitVec 32)} {s t : Nat} {inner : BitVec 32} {b : Nat → List Nat} {v u : Nat} (h : skipB E s t inner b v u = false) : v ≠ t ∧ b u ≠ [] ∧ adj E v u ∧ okV s t inner u := by
  unfold skipB at h
  simp only [Bool.or_eq_false_iff, Bool.and_eq_false_iff, beq_eq_false_iff_ne, bne_eq_false_iff_eq, Bool.not_eq_false'] at h
  obtain ⟨⟨⟨⟨h1, h2⟩, h3⟩, h4⟩, h5⟩ := h
  refine ⟨fun e => h1 (by omega), fun e => h2 (by rw [e]; rfl), (nearB_iff E v u).1 h3, fun e => h4 (by omega), ?_⟩
  rcases h5 with h5 | h5
  · exact .inl (by omega)
  · exact .inr (by rw [← inB_nat]; exact h5)

theorem Grid.least {w : World} {g V L : Nat} {b : Nat → List Nat} (h : Grid w g V b L) {v u : Nat} (hv : v < V) {Av A1 : Option Addr} {g' c1 : Nat} (hRv : Rd w w.heap.size Av (ns (b v))) (hnv : ∀ ad, Av = some ad → ad.block ≠ g)
    (hRn : Rd w w.heap.size (some ⟨g', 0, none⟩) (ns (v :: b u))) (hne : g' ≠ g) (hd : (A1 = Av ∧ leastL (b v) (v :: b u) = b v) ∨ (A1 = some ⟨g', 0, none⟩ ∧ leastL (b v) (v :: b u) = v :: b u)) (nd : Nat) :
    Grid ((w.drewN nd).setCell ⟨g, v, none⟩ (.slice A1 (leastL (b v) (v :: b u)).length c1)) g V (upd b v (leastL (b v) (v :: b u))) (L + 1) := by
  have h2 := h.later (below_drewN (Below.refl w.heap.size w) nd)
  have hl := h.len v
  have hl2 := h.len u
  rcases hd with ⟨rfl, e⟩ | ⟨rfl, e⟩
  · rw [e]
    exact h2.set_ hv (hRv.later (below_drewN (Below.refl _ _) nd)) hnv (by omega) (by omega)
  · rw [e]
    exact h2.set_ hv (hRn.later (below_drewN (Below.refl _ _) nd)) (fun ad e => by injection e with e; subst e; exact hne) (by omega) (by simp; omega)

set_option maxRecDepth 100000 in
/-- 'append([]int{x}, Z...)' at a step of a region that draws. -/
theorem step_app_list {ops : Array Oper} {o : Oper} {a : Act} {w : World} {K : Act → World → Prop} {Q : Exit → Act → World → Prop} {F : Prop} (hgd : o.guard = none) (s y : Operand)
    (ho : o.op = .call { callee := .builtin .append, args := #[s, y], argTypes := #[31, 31] })
    (x : Nat) (Z : List Nat) (ad : Addr) (c : Nat) (hs : a.eval s = .slice (some ⟨w.heap.size, 0, none⟩) 1 1) (hy : a.eval y = .slice (some ad) Z.length c)
    (hZ : Rd w w.heap.size (some ad) (ns Z)) (h0 : 0 < Z.length) (hl : Z.length ≤ 100000)
    (h : ∀ g cap w', w.heap.size ≤ g → Rd w' w'.heap.size (some ⟨g, 0, none⟩) (ns (x :: Z)) → Below w.heap.size w w' → K (a.put o.dst (.slice (some ⟨g, 0, none⟩) (x :: Z).length cap)) w') :
    if Region.wanted o (yielded ops a.tmps) = true then Oper.wp Tryd.prog o a (w.alloc (.cells #[.int .i64 (x : Int)] 3)).drew K Q else F := by
  obtain ⟨i, hi, hz, hs1, hb1⟩ := info_parts Tryd.info_int
  have hown : (w.alloc (.cells #[.int .i64 (x : Int)] 3)).drew.ownsRow w.heap.size 3 1 (.slice (some ⟨w.heap.size, 0, none⟩) 1 1) 1 (ns [x]) := Row.own (Row.new w 3 (ns [x])) (Nat.le_refl _) (by simp [maxLen])
  have hb0 : Below w.heap.size w (w.alloc (.cells #[.int .i64 (x : Int)] 3)).drew := (below_alloc w (.cells #[.int .i64 (x : Int)] 3)).drew
  have hZ' := hZ.later hb0
  refine step_append_lies _ hgd s y 31 ho w.heap.size 3 i (.int .i64 0) 1 8 Tryd.underlying31 hi hz hs1 hb1 rfl (by decide) _ 1 (ns [x]) hs hown ad Z.length c (ns Z) hy (by simp) ?_ (is_one _) h0 (by unfold maxLen; omega) (by omega) hb0.size _ rfl ?_
  · intro j u hj
    obtain ⟨hj', rfl⟩ := List.getElem?_eq_some_iff.1 hj
    obtain ⟨ad', e, _, hc⟩ := hZ' j hj'
    injection e with e
    subst e
    exact hc
  · intro g cap w' hown' hg hat hlt
    have hb : Below w.heap.size w w' := hb0.grown hg hb0.size fun k hk => (hown.lt k hk).1
    have e : (x :: Z).length = 1 + Z.length := by simp [Nat.add_comm]
    rw [← e] at hown'
    obtain ⟨A, c1, hv, _, _, hr, hge⟩ := Rd.of_own hown'
    injection hv with hv
    subst hv
    rw [← e]
    exact h g cap w' (hge _ rfl) hr hb

set_option maxRecDepth 100000 in
set_option maxHeartbeats 4000000 in
theorem rpath_main (n : Nat) (s t : Nat) (inner : BitVec 32) (A : Option Addr) (E : List (BitVec 32)) (c : Nat) (w : World) (hl : E.length ≤ 35184372087808) (hE : Rd w w.heap.size A (us E)) (hv : validB (n : Int) E = true)
   (hs1 : s < n) (ht1 : t < n) (hne : ((s : Int) == (t : Int)) = false) :
    Calls Tryd.prog 16 #[.agg #[.int .i64 (n : Int), .slice A E.length c], .int .i64 s, .int .i64 t, .int .u32 (uz inner)] w fun e w' =>
      ∃ (v : Value) (Z : List Nat), e = .returned (.tuple #[v, .int .i64 0]) ∧ w'.ownsRow w.heap.size 3 1 v Z.length (is (Z.map Int.ofNat)) ∧ Hid ((Z = [] ∧ ∀ p, IsP E s t inner p → p.head? ≠ some s) ∨ Best E s t inner Z) ∧ Below w.heap.size w w' := by
  have hn30 : n ≤ 30 := by have := (validB_of hv).2.1; omega
  have hmk := mk_lists n (by omega)
  have hne' : s ≠ t := fun e => by subst e; simp at hne
  have HG := Lib.hid (given_of (inner := inner) hv (by omega) (by omega) hne')
  rw [show ((n : Int)).toNat = n by omega] at HG
  clear hne'
  go_enter Tryd.func16, Tryd.ntmps16
  go_wp2_with fail
  have hb0 := below_alloc w (.cells #[.int .i64 (n : Int), .slice A E.length c] 24)
  refine (r14valid_any (n : Int) A E c _ hl (hE.later hb0)).mono ?_
  rintro e w1 ⟨rfl, hb⟩
  rw [hv]
  obtain ⟨hc, hf⟩ := bcell hb
  have hb1 := bthen hb0 hb
  have hg0 : w1.cell? ⟨w.heap.size, 0, none⟩ = some (.int .i64 (n : Int)) := by rw [hc _ _ (by simp)]; simp [World.cell?_alloc_new]
  have hg1 : w1.cell? ⟨w.heap.size, 1, none⟩ = some (.slice A E.length c) := by rw [hc _ _ (by simp)]; simp [World.cell?_alloc_new]
  have hgl : w.heap.size < w1.heap.size := World.block_lt_of_cell? _ _ hg0
  have hE1 := hE.later hb1
  clear hc hf hb hb0
  go_upto_region 3 with fail
  go_cut [33] (fun x wc => x = .bool false ∧ w1 = wc)
  case first =>
    go_wp2_with fail
    all_goals
      go_meet
      refine ⟨congrArg Value.bool ?_, rfl⟩
      first | rfl | (simp; done) | (simp; omega)
  case rest =>
    obtain ⟨rfl, rfl⟩ := hcut
    go_upto_region 8 with fail
    have hGr := Grid.new w1 n
    have hbx := below_alloc w1 (.cells (zeros (.slice none 0 0) n).toArray 31)
    have hsz : (w1.alloc (.cells (zeros (.slice none 0 0) n).toArray 31)).heap.size = w1.heap.size + 1 := by simp
    generalize w1.alloc (.cells (zeros (.slice none 0 0) n).toArray 31) = w2 at hGr hbx hsz ⊢
    obtain ⟨A0, c0, k0, k1, _⟩ := hGr.at_ ht1
    have hlt2 : w1.heap.size < w2.heap.size := by omega
    have b1 : (0 : Int) ≤ t := by omega
    have b2 : (t : Int) < n := by omega
    have e0 := Tab_cell hbx hg0
    have e1 : w.heap.size < w2.heap.size := by omega
    go_wp2_with fail
    have hR2 : Rd (w2.alloc (.cells #[.int .i64 (t : Int)] 3)) (w2.alloc (.cells #[.int .i64 (t : Int)] 3)).heap.size (some ⟨w1.heap.size + 1, 0, none⟩) (ns [t]) := by
      have := (Row.new w2 3 (ns [t])).rd
      rw [hsz] at this
      exact this
    have hGr3 := (hGr.later (below_alloc w2 (.cells #[.int .i64 (t : Int)] 3))).set_ ht1 (c := 1) hR2 (fun ad e => by injection e with e; subst e; simp) (Nat.zero_le 1) (Nat.le_refl _)
    have hb3 : Below w1.heap.size w1 ((w2.alloc (.cells #[.int .i64 (t : Int)] 3)).setCell ⟨w1.heap.size, t, none⟩ (.slice (some ⟨w1.heap.size + 1, 0, none⟩) 1 1)) := (hbx.alloc hbx.size _).setCell (Nat.le_refl _) _
    have hGr3' : Grid ((w2.alloc (.cells #[.int .i64 (t : Int)] 3)).setCell ⟨w1.heap.size, t, none⟩ (.slice (some ⟨w1.heap.size + 1, 0, none⟩) 1 1)) w1.heap.size n (fun v => if v = t then [t] else []) 1 := hGr3
    have hcomm : (w2.alloc (.cells #[.int .i64 (t : Int)] 3)).setCell ⟨w1.heap.size, t, none⟩ (.slice (some ⟨w1.heap.size + 1, 0, none⟩) 1 1) = (w2.setCell ⟨w1.heap.size, t, none⟩ (.slice (some ⟨w1.heap.size + 1, 0, none⟩) 1 1)).alloc (.cells #[.int .i64 (t : Int)] 3) := by
      exact World.setCell_alloc_past _ _ _ _ hlt2
    rw [hcomm] at hGr3' hb3
    generalize (w2.setCell ⟨w1.heap.size, t, none⟩ (.slice (some ⟨w1.heap.size + 1, 0, none⟩) 1 1)).alloc (.cells #[.int .i64 (t : Int)] 3) = w3 at hGr3' hb3 ⊢
    clear hGr3 hR2 hGr hcomm hbx hsz k0 k1 hlt2 hmk e0 e1
    go_loopg [49] n (fun gk i wr => ∃ (r : Nat) (b : Nat → List Nat), r ≤ n ∧ gk = n - r ∧ i = .int .i64 r ∧ Grid wr w1.heap.size n b (1 + r * 900) ∧ Hid (Bst E s t n inner r b) ∧ Below w1.heap.size w1 wr)
    case atStart => exact ⟨0, _, Nat.zero_le _, rfl, rfl, hGr3', Bst.start ht1, hb3⟩
    case round =>
      clear hGr3' hb3
      obtain ⟨r, b, hr, rfl, rfl, hgr, hB, hbr⟩ := hrel
      have d0 := Tab_cell hbr hg0
      by_cases hlt : r < n
      · go_wp2_with fail
        go_loopg [11] n (fun gk i wr => ∃ (v : Nat) (b : Nat → List Nat), v ≤ n ∧ gk = n - v ∧ i = .int .i64 v ∧ Grid wr w1.heap.size n b (1 + r * 900 + v * 30) ∧ Hid (Mid E s t n inner r b v 0) ∧ Below w1.heap.size w1 wr)
        case atStart => exact ⟨0, _, Nat.zero_le _, rfl, rfl, hgr.mono (by omega), hB.out.mid, hbr⟩
        case round =>
          clear d0 hgr hB hbr
          obtain ⟨v, b, hvn, rfl, rfl, hgr, hM, hbr⟩ := hrel
          have d0 := Tab_cell hbr hg0
          by_cases hltv : v < n
          · go_wp2_with fail
            go_loopg [12] n (fun gk i wr => ∃ (u : Nat) (b : Nat → List Nat), u ≤ n ∧ gk = n - u ∧ i = .int .i64 u ∧ Grid wr w1.heap.size n b (1 + r * 900 + v * 30 + u) ∧ Hid (Mid E s t n inner r b v u) ∧ Below w1.heap.size w1 wr)
            case atStart => exact ⟨0, _, Nat.zero_le _, rfl, rfl, hgr.mono (by omega), hM.out, hbr⟩
            case round =>
              clear d0 hgr hM hbr
              obtain ⟨u, b, hun, rfl, rfl, hgr, hM, hbr⟩ := hrel
              have d0 := Tab_cell hbr hg0
              have d1 := Tab_cell hbr hg1
              by_cases hltu : u < n
              · obtain ⟨Au, cu, ku, _, hRu, hnu⟩ := hgr.at_ hltu
                have b1 : (0 : Int) ≤ u := by omega
                have b2 : (u : Int) < n := by omega
                have b3 : (0 : Int) ≤ v := by omega
                have b4 : (v : Int) < n := by omega
                have hEr := hE1.later hbr
                obtain ⟨wo, hwo⟩ : ∃ wo : World, wo = wr := ⟨_, rfl⟩
                subst hwo
                go_upto_region 17 with fail
                go_cut [12, 96] from 57 to 111 (fun ui x wx => ui = .int .i64 u ∧ x = .bool (skipB E s t inner b v u) ∧ Below wo.heap.size wo wx)
                case first =>
                  have hsk : skipB E s t inner b v u = (((v : Int) == (t : Int)) || (((b u).length : Int) == 0) || !nearB E v u || ((u : Int) == (s : Int)) || (((u : Int) != (t : Int)) && !inB inner u)) := rfl
                  have HSK := Lib.hid hsk
                  clear hsk
                  cases h1 : ((v : Int) == (t : Int))
                  · cases h2 : (((b u).length : Int) == 0)
                    · cases h3 : nearB E v u
                      · go_wp2_with (go_at_call 18; refine (r14near_any (n : Int) v u A E c _ hl hEr).mono ?_; rintro e w2 ⟨rfl, hb2⟩; rw [h3])
                        go_meet
                        exact ⟨rfl, congrArg Value.bool (by rw [HSK.out, h1, h2, h3]; rfl), hb2⟩
                      · cases h4 : ((u : Int) == (s : Int))
                        · cases h5 : ((u : Int) != (t : Int))
                          · go_wp2_with (go_at_call 18; refine (r14near_any (n : Int) v u A E c _ hl hEr).mono ?_; rintro e w2 ⟨rfl, hb2⟩; rw [h3])
                            go_meet
                            exact ⟨rfl, congrArg Value.bool (by rw [HSK.out, h1, h2, h3, h4, h5]; rfl), hb2⟩
                          · go_wp2_with (first | (go_at_call 18; refine (r14near_any (n : Int) v u A E c _ hl hEr).mono ?_; rintro e w2 ⟨rfl, hb2⟩; rw [h3]) | (go_at_call 19; refine (in_any _ _ _).mono ?_; rintro e w' ⟨rfl, rfl⟩))
                            go_meet
                            exact ⟨rfl, congrArg Value.bool (by rw [HSK.out, h1, h2, h3, h4, h5]; rfl), hb2⟩
                        · go_wp2_with (go_at_call 18; refine (r14near_any (n : Int) v u A E c _ hl hEr).mono ?_; rintro e w2 ⟨rfl, hb2⟩; rw [h3])
                          go_meet
                          exact ⟨rfl, congrArg Value.bool (by rw [HSK.out, h1, h2, h3, h4]; rfl), hb2⟩
                    · go_wp2_with fail
                      go_meet
                      exact ⟨rfl, congrArg Value.bool (by rw [HSK.out, h1, h2]; rfl), Below.refl _ _⟩
                  · go_wp2_with fail
                    go_meet
                    exact ⟨rfl, congrArg Value.bool (by rw [HSK.out, h1]; rfl), Below.refl _ _⟩
                case rest =>
                  obtain ⟨rfl, rfl, hbc⟩ := hcut
                  have hgc := hgr.later hbc
                  have hbw := bthen hbr (show Below wo.heap.size wo wc from hbc)
                  cases hsk : skipB E s t inner b v u
                  · obtain ⟨g1, g2, g3, g4⟩ := skip_false hsk
                    have HB := Lib.hid (hM.out.better hltu g1 g2 g3 g4)
                    obtain ⟨Av, cv, kv, fv, hRv, hnv⟩ := hgc.at_ hltv
                    obtain ⟨Au, cu, ku, _, hRu, hnu⟩ := hgc.at_ hltu
                    have hul : 0 < (b u).length := List.length_pos_iff.2 g2
                    clear hnu g1 g2 g3 g4
                    have hvL := hgc.len v
                    have huL := hgc.len u
                    have hglt := hgc.lt
                    obtain ⟨ad, rfl, _, _⟩ := hRu.n_at hul
                    go_upto_region 18 with fail
                    go_region_law (first
                      | (refine step_app_list rfl (.tmp 104) (.tmp 108) rfl v (b u) ad cu (by simp [Act.eval]) (by simp [Act.eval]) hRu hul (by omega) ?_; intro g' cap w' hg' hRn hbn; have kv' := Tab_cell hbn kv; have fv' := (hbn.frozen (p := ⟨w1.heap.size, v, none⟩) hglt).trans fv; have hRv' := hRv.later hbn)
                      | (go_simp; go_at_call 39; refine (least_any Av (some ⟨g', 0, none⟩) (b v) (v :: b u) cv cap _ (by omega) (by simp; omega) hRv' hRn (by simp)).mono ?_; rintro e w5 ⟨A1, c1, rfl, hd, nd, rfl⟩))
                    all_goals
                      go_wp2_with fail
                      go_roundg (n - (u + 1))
                      case measure => omega
                      case rel => exact ⟨u + 1, _, by omega, rfl, by go_num, ((hgc.later hbn).least hltv hRv' hnv hRn (by omega) hd nd).mono (by omega), HB.out, hbw.trans ((below_drewN (hbn.mono (Nat.le_of_lt hglt)) nd).setCell (Nat.le_refl _) _)⟩
                  · have HS := Lib.hid (hM.out.skip hltu (skip_true hsk))
                    go_wp2_with fail
                    go_roundg (n - (u + 1))
                    case measure => omega
                    case rel => exact ⟨u + 1, b, by omega, rfl, by go_num, hgc.mono (by omega), HS.out, hbw⟩
              · have hu : u = n := by omega
                subst hu
                have HM := Lib.hid (hM.out.next HG.out hltv)
                go_wp2_with fail
                go_roundg (u - (v + 1))
                case measure => omega
                case rel => exact ⟨v + 1, b, by omega, rfl, by go_num, hgr.mono (by omega), HM.out, hbr⟩
          · have hvn' : v = n := by omega
            subst hvn'
            have HB := Lib.hid hM.out.end_
            go_wp2_with fail
            go_roundg (v - (r + 1))
            case measure => omega
            case rel => exact ⟨r + 1, b, by omega, rfl, by go_num, hgr.mono (by omega), HB.out, hbr⟩
      · have hrn : r = n := by omega
        subst hrn
        have HB := Lib.hid (hB.out.best HG.out)
        obtain ⟨As, cs, ks, _, hRs, hns⟩ := hgr.at_ hs1
        have hls := hgr.len s
        have b3 : (0 : Int) ≤ s := by omega
        have b4 : (s : Int) < r := by omega
        have hlz : (b s).length = ((b s).map Int.ofNat).length := by simp
        have hI : ∀ wr : World, Rd wr wr.heap.size As (is ((b s).map Int.ofNat)) → Calls Tryd.prog 40 #[.slice As (b s).length cs] wr fun e w' => ∃ g, e = .returned (.slice (some ⟨g, 0, none⟩) (b s).length (b s).length) ∧ wr.heap.size ≤ g ∧ Row w' g 3 (is ((b s).map Int.ofNat)) ∧ Below wr.heap.size wr w' := fun wr h => by
          have := ints_any As ((b s).map Int.ofNat) cs wr (by simp; omega) h
          rw [← hlz] at this
          exact this
        have HI := Lib.hid hI
        clear hI hlz
        go_wp2_with fail
        refine (HI.out _ hRs).mono ?_
        rintro e w5 ⟨g5, rfl, hg5, hR5, hb5⟩
        go_wp2
        go_ret2
        refine ⟨.slice (some ⟨g5, 0, none⟩) (b s).length (b s).length, b s, rfl, ?_, HB.out, bthen hb1 (hbr.trans (hb5.mono hbr.size))⟩
        have hR6 : Row w5 g5 3 (is ((b s).map Int.ofNat)) := hR5
        have := Row.own hR6 (base := w.heap.size) (Nat.le_trans (Nat.le_trans hb1.size hbr.size) hg5) (by simp [maxLen]; omega)
        have e : (is ((b s).map Int.ofNat)).length = (b s).length := by simp
        rw [e] at this
        exact this

/-- WHAT THE REFERENCE's Path ANSWERS, FOR EVERY GRAPH. -/
theorem rpath_any (V : Int) (s t : Int) (inner : BitVec 32) (A : Option Addr) (E : List (BitVec 32)) (c : Nat) (w : World) (hl : E.length ≤ 35184372087808) (hE : Rd w w.heap.size A (us E)) :
    Calls Tryd.prog 16 #[.agg #[.int .i64 V, .slice A E.length c], .int .i64 s, .int .i64 t, .int .u32 (uz inner)] w fun e w' =>
      ∃ (v : Value) (Z : List Nat) (code : Int), e = .returned (.tuple #[v, .int .i64 code]) ∧ w'.ownsRow w.heap.size 3 1 v Z.length (is (Z.map Int.ofNat)) ∧ Hid (PathIs V E s t inner Z code) ∧ Below w.heap.size w w' := by
  cases hv : validB V E
  · exact (rpath_invalid V s t inner A E c w hl hE hv).mono fun e w' ⟨he, hb⟩ => ⟨_, [], _, he, World.ownsRow_nil _ _ _ _, .inl ⟨hv, rfl, rfl⟩, hb⟩
  · by_cases ho : s < 0 ∨ t < 0 ∨ V ≤ s ∨ V ≤ t
    · exact (rpath_out V s t inner A E c w hl hE hv ho).mono fun e w' ⟨he, hb⟩ => ⟨_, [], _, he, World.ownsRow_nil _ _ _ _, .inr (.inl ⟨hv, ho, rfl, rfl⟩), hb⟩
    · obtain ⟨m, rfl⟩ := Int.eq_ofNat_of_zero_le (show 0 ≤ s by omega)
      obtain ⟨n, rfl⟩ := Int.eq_ofNat_of_zero_le (show 0 ≤ t by omega)
      obtain ⟨q, rfl⟩ := Int.eq_ofNat_of_zero_le (validB_of hv).1
      by_cases he : m = n
      · subst he
        exact (rpath_same (q : Nat) (m : Nat) inner A E c w hl hE hv (by omega) (by omega)).mono fun e w' ⟨g, he, hg, hR, hb⟩ =>
          ⟨_, [m], 0, he, Row.own hR hg (by simp [is, maxLen]), .inr (.inr (.inl ⟨hv, by omega, by omega, by omega, by omega, rfl, rfl, by simp⟩)), hb⟩
      · exact (rpath_main q m n inner A E c w hl hE hv (by omega) (by omega) (by rw [beq_eq_false_iff_ne]; omega)).mono fun e w' ⟨v, Z, he', hown, hZ, hb⟩ =>
          ⟨v, Z, 0, he', hown, .inr (.inr (.inr ⟨hv, by omega, by omega, by omega, by omega, by omega, rfl, by simpa using hZ.out⟩)), hb⟩
end Go.Proofs.YtaongngoacbodaaDoor
