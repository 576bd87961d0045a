/- The induced graph and the neighbours: what hyper.Induced and the reference's Induced, Neighbours, Same answer. -/
import Derived.Test.YtkenbmelhfhidaaBA
import Derived.Test.YtkenbmelhfhidaaPathLaw
import Derived.Deep.RegionWith
import Derived.Deep.DrawnRows
namespace Go.Proofs.Ytkenbmelhfhidaa
open Go.RowKit

attribute [local go_sem ↓] uz_and uz_or uz_andNot uz_and_one uz_shr uz_shl_one uz_shl uz_sub uz_sub_one uz_add uz_beq_zero uz_bne_zero uz_beq uz_bne uz_beq_one
attribute [local go_sem ↓] Go.wp_at_zero Go.wp_at_succ

theorem own_far {w : World} {base : Nat} {e : TypeId} {size : Nat} {v : Value} {n : Nat} {xs : List Value} (h : w.ownsRow base e size v n xs) (p : Addr) (hp : p.block < base) (u : Value) : (w.setCell p u).ownsRow base e size v n xs := by
  refine ⟨h.1, ?_⟩
  rcases h.2 with h2 | ⟨g, cap, cur, hv, hg, hh, r⟩
  · exact .inl h2
  · exact .inr ⟨g, cap, cur, hv, hg, (Below.heap_setCell w p u g (by omega)).trans hh, r⟩

/-- What Induced answers. -/
def IndIs (V : Int) (E : List (BitVec 32)) (set : BitVec 32) (V' : Int) (F : List (BitVec 32)) (code : Int) : Prop :=
  (validB V E = false ∧ V' = 0 ∧ F = [] ∧ code = 140) ∨ (validB V E = true ∧ V' = V ∧ F = E.map (· &&& set) ∧ code = 0)
theorem indIs_uniq {V : Int} {E : List (BitVec 32)} {s : BitVec 32} {V1 V2 : Int} {F G : List (BitVec 32)} {a b : Int} (h : IndIs V E s V1 F a) (k : IndIs V E s V2 G b) : V1 = V2 ∧ F = G ∧ a = b := by
  rcases h with ⟨h1, rfl, rfl, rfl⟩ | ⟨h1, rfl, rfl, rfl⟩ <;> rcases k with ⟨k1, rfl, rfl, rfl⟩ | ⟨k1, rfl, rfl, rfl⟩ <;> simp_all
theorem indIs_len {V : Int} {E : List (BitVec 32)} {s : BitVec 32} {V1 : Int} {F : List (BitVec 32)} {a : Int} (h : IndIs V E s V1 F a) : F.length ≤ 7 := by
  rcases h with ⟨h1, rfl, rfl, rfl⟩ | ⟨h1, rfl, rfl, rfl⟩
  · exact Nat.zero_le _
  · rw [List.length_map]; exact (validB_of h1).2.2.1

/-- The first k edges cut to the set. -/
def mixd (set : BitVec 32) (E : List (BitVec 32)) (k : Nat) : List (BitVec 32) := (E.take k).map (· &&& set) ++ E.drop k
theorem mixd_all (set : BitVec 32) (E : List (BitVec 32)) : mixd set E E.length = E.map (· &&& set) := by simp [mixd]
theorem mixd_at (set : BitVec 32) (E : List (BitVec 32)) (k : Nat) (h : k < E.length) : (us (mixd set E k))[k]? = some (.int .u32 (uz (ed E k))) := by
  unfold us mixd
  rw [List.getElem?_map, List.getElem?_append_right (by simp; omega)]
  simp [ed, h, Nat.min_eq_left (Nat.le_of_lt h)]
theorem mixd_set (set : BitVec 32) (E : List (BitVec 32)) (k : Nat) (h : k < E.length) : (us (mixd set E k)).set k (.int .u32 (uz (ed E k &&& set))) = us (mixd set E (k + 1)) := by
  unfold us
  rw [← List.map_set]
  congr 1
  unfold mixd
  rw [List.set_append_right _ _ (by simp; omega), take_snoc E k h, ed_eq E k h, show E.drop k = ed E k :: E.drop (k + 1) by rw [← ed_eq E k h]; exact List.drop_eq_getElem_cons h,
    show k - ((E.take k).map (· &&& set)).length = 0 by simp [Nat.min_eq_left (Nat.le_of_lt h)], List.map_append, List.append_assoc]
  rfl

set_option maxHeartbeats 1000000 in
theorem r14induced_any (V : Int) (A : Option Addr) (E : List (BitVec 32)) (c : Nat) (set : BitVec 32) (w : World) (hl : E.length ≤ 35184372087808) (hE : Rd w w.heap.size A (us E)) :
    Calls Try.prog 59 #[.agg #[.int .i64 V, .slice A E.length c], .int .u32 (uz set)] w fun e w' =>
      ∃ (V' : Int) (v : Value) (F : List (BitVec 32)) (code : Int), e = .returned (.tuple #[.agg #[.int .i64 V', v], .int .i64 code]) ∧ w'.ownsRow w.heap.size 39 1 v F.length (us F) ∧ Hid (IndIs V E set V' F code) ∧ Below w.heap.size w w' := by
  go_enter Try.func59, Try.ntmps59
  go_wp2_with fail
  have hb0 : Below w.heap.size w ((w.alloc (.cells #[.int .i64 V, .slice A E.length c] 24)).alloc (.cells #[.int .i64 0, .slice none 0 0] 24)) := (below_alloc w _).alloc (by simp) _
  have hR0 : Row ((w.alloc (.cells #[.int .i64 V, .slice A E.length c] 24)).alloc (.cells #[.int .i64 0, .slice none 0 0] 24)) w.heap.size 24 [.int .i64 V, .slice A E.length c] := (Row.new w _ _).alloc _
  have hR1 : Row ((w.alloc (.cells #[.int .i64 V, .slice A E.length c] 24)).alloc (.cells #[.int .i64 0, .slice none 0 0] 24)) (w.heap.size + 1) 24 [.int .i64 0, .slice none 0 0] := Row.new_ (by simp)
  generalize (w.alloc (.cells #[.int .i64 V, .slice A E.length c] 24)).alloc _ = w0 at hb0 hR0 hR1 ⊢
  refine (r14valid_any V A E c _ hl (hE.later hb0)).mono ?_
  rintro e w1 ⟨rfl, hb⟩
  have hb1 := bthen hb0 hb
  have hR0' := hR0.later hb
  have hR1' := hR1.later hb
  have c0 : w1.cell? ⟨w.heap.size, 0, none⟩ = some (.int .i64 V) := hR0'.cell 0
  have c1 : w1.cell? ⟨w.heap.size, 1, none⟩ = some (.slice A E.length c) := hR0'.cell 1
  have d0 : w1.cell? ⟨w.heap.size + 1, 0, none⟩ = some (.int .i64 0) := hR1'.cell 0
  have d1 : w1.cell? ⟨w.heap.size + 1, 1, none⟩ = some (.slice none 0 0) := hR1'.cell 1
  have df0 := hR1'.frozen 0
  have df1 := hR1'.frozen 1
  have hlt0 : w.heap.size < w1.heap.size := hR0'.lt
  have hlt1 : w.heap.size + 1 < w1.heap.size := hR1'.lt
  cases hv : validB V E
  · go_wp2
    refine bodyPost_ret (v := .tuple #[.agg #[.int .i64 0, .slice none 0 0], .int .i64 140]) (by simp [results, Try.results59, go_sem, d0, d1]) rfl ?_
    exact ⟨0, _, [], 140, rfl, World.ownsRow_nil _ _ _ _, .inl ⟨hv, rfl, rfl, rfl⟩, (hb1.setCell (by simp) _).setCell (by simp) _⟩
  · have hE1 := hE.later hb1
    have h7 : E.length ≤ 7 := (validB_of hv).2.2.1
    have HV := Lib.hid hv
    clear hv
    go_wp2_with fail
    refine (copy_any V A E c _ hl hE1).mono ?_
    rintro e w2 ⟨g, rfl, hg, hRg, hb2⟩
    have hR2 := hR1'.later hb2
    have hlt2 : w.heap.size + 1 < w2.heap.size := hR2.lt
    have hltg : g < w2.heap.size := hRg.lt
    have hbw2 := bthen hb1 hb2
    clear c0 c1 d0 d1 df0 df1
    go_wp2_with fail
    have hX0 : Row (w2.alloc (.cells #[.int .i64 V, .slice (some ⟨g, 0, none⟩) E.length E.length] 24)) w2.heap.size 24 [.int .i64 V, .slice (some ⟨g, 0, none⟩) E.length E.length] := Row.new w2 _ _
    have hRg0 := hRg.alloc (.cells #[.int .i64 V, .slice (some ⟨g, 0, none⟩) E.length E.length] 24)
    have hbx := hbw2.alloc hbw2.size (.cells #[.int .i64 V, .slice (some ⟨g, 0, none⟩) E.length E.length] 24)
    have hR20 := hR2.alloc (.cells #[.int .i64 V, .slice (some ⟨g, 0, none⟩) E.length E.length] 24)
    generalize w2.alloc (.cells #[.int .i64 V, .slice (some ⟨g, 0, none⟩) E.length E.length] 24) = wx at hX0 hRg0 hbx hR20 ⊢
    go_loopg [7] E.length (fun gk i wr => ∃ k : Nat, k ≤ E.length ∧ gk = E.length - k ∧ i = .int .i64 k ∧ Row wr w2.heap.size 24 [.int .i64 V, .slice (some ⟨g, 0, none⟩) E.length E.length] ∧ Row wr g 39 (us (mixd set E k)) ∧ Below w1.heap.size wx wr)
    case atStart => exact ⟨0, Nat.zero_le _, rfl, rfl, hX0, hRg0, Below.refl _ _⟩
    case round =>
      obtain ⟨k, hk, rfl, rfl, hX, hRk, hbr⟩ := hrel
      have c0 : wr.cell? ⟨w2.heap.size, 0, none⟩ = some (.int .i64 V) := hX.cell 0
      have c1 : wr.cell? ⟨w2.heap.size, 1, none⟩ = some (.slice (some ⟨g, 0, none⟩) E.length E.length) := hX.cell 1
      have hne : g ≠ w2.heap.size := by omega
      by_cases hlt : k < E.length
      · have hc : wr.cell? ⟨g, k, none⟩ = some (.int .u32 (uz (ed E k))) := (hRk.cell k).trans (mixd_at set E k hlt)
        have hcf := hRk.frozen k
        have hs := mixd_set set E k hlt
        generalize ed E k = x at hc hs
        have HS := Lib.hid hs
        have b1 : (0 : Int) ≤ k := by omega
        have b2 : (k : Int) < E.length := by omega
        clear hs
        go_wp2_with fail
        go_region_with (go_at_call 41; refine (both_any _ _ _).mono ?_; rintro e w' ⟨rfl, rfl⟩)
        all_goals
          go_wp2_with fail
          go_roundg (E.length - (k + 1))
          case measure => omega
          case rel =>
            refine ⟨k + 1, by omega, rfl, by go_num, hX.far (by simpa using hne.symm) _, ?_, hbr.drew.setCell (by simp; omega) _⟩
            rw [← HS.out]
            exact hRk.set_ k _
      · have hk' : k = E.length := by omega
        subst hk'
        have hR3 : Row wr (w.heap.size + 1) 24 [.int .i64 0, .slice none 0 0] := hR20.below hbr (by omega)
        have d0 : wr.cell? ⟨w.heap.size + 1, 0, none⟩ = some (.int .i64 0) := hR3.cell 0
        have d1 : wr.cell? ⟨w.heap.size + 1, 1, none⟩ = some (.slice none 0 0) := hR3.cell 1
        have df0 := hR3.frozen 0
        have df1 := hR3.frozen 1
        have hbw : Below w.heap.size w wr := hbx.trans (hbr.mono (by omega))
        rw [mixd_all] at hRk
        go_wp2
        refine bodyPost_ret (v := .tuple #[.agg #[.int .i64 V, .slice (some ⟨g, 0, none⟩) E.length E.length], .int .i64 0]) (by simp [results, Try.results59, go_sem, d0, d1]) rfl ?_
        refine ⟨V, _, E.map (· &&& set), 0, rfl, ?_, .inr ⟨HV.out, rfl, rfl, rfl⟩, (hbw.setCell (by simp) _).setCell (by simp) _⟩
        have hown : wr.ownsRow g 39 1 (.slice (some ⟨g, 0, none⟩) (us (E.map (· &&& set))).length (us (E.map (· &&& set))).length) (us (E.map (· &&& set))).length (us (E.map (· &&& set))) := hRk.own (Nat.le_refl _) (by simp [maxLen]; omega)
        rw [us_length, List.length_map] at hown
        rw [List.length_map]
        exact own_less (own_far (own_far hown _ (by simp; omega) _) _ (by simp; omega) _) (by omega)

/-! ### Neighbours, Same -/
theorem nearS_sub {V : Int} {E : List (BitVec 32)} (hv : validB V E = true) (v u : Nat) (h : (nearS E v).getLsbD u = true) : (u : Int) < V := by
  have h1 := (nearS_iff E v u).1 h
  obtain ⟨_, e, he, _, hu⟩ := h1
  obtain ⟨h0, h30, _, ho⟩ := validB_of hv
  have h2 := List.any_eq_false.1 ho e he
  rcases Int.lt_or_le (u : Int) V with h3 | h3
  · exact h3
  · exact absurd (outB_true_of (k := u) h0 h30 h3 (by rw [inB_nat]; exact hu)) h2
theorem near_sum {V : Int} {E : List (BitVec 32)} (hv : validB V E = true) (v : Nat) : lows (nearS E v) V.toNat = nearS E v := by
  obtain ⟨h0, h30, _, _⟩ := validB_of hv
  apply BitVec.eq_of_getLsbD_eq
  intro i hi
  rw [getLsbD_lows _ _ (by omega)]
  cases h : (nearS E v).getLsbD i
  · simp
  · have := nearS_sub hv v i h
    simp; omega
theorem nearB_nearS (E : List (BitVec 32)) (v u : Nat) : inB (nearS E v) u = nearB E v u := by
  rw [inB_nat, Bool.eq_iff_iff, nearS_iff, nearB_iff]

/-- Are the graphs equal? -/
def sameG (V V' : Int) (E E' : List (BitVec 32)) : Bool := V == V' && E == E'
theorem same_any (V V' : Int) (A A' : Option Addr) (E E' : List (BitVec 32)) (c c' : Nat) (w : World) (hl : E.length ≤ 35184372087808) (_hl' : E'.length ≤ 35184372087808) (hE : Rd w w.heap.size A (us E)) (hE' : Rd w w.heap.size A' (us E')) :
    Calls Try.prog 34 #[.agg #[.int .i64 V, .slice A E.length c], .agg #[.int .i64 V', .slice A' E'.length c']] w fun e w' => e = .returned (.bool (sameG V V' E E')) ∧ Below w.heap.size w w' := by
  by_cases hV : V = V'
  · subst hV
    by_cases hlen : E.length = E'.length
    · have HL := Lib.hid hlen
      have hne : ((E.length : Int) != (E'.length : Int)) = false := by simp [hlen]
      clear hlen
      go_enter Try.func34, Try.ntmps34
      go_wp2_with fail
      have hb0 : Below w.heap.size w ((w.alloc (.cells #[.int .i64 V, .slice A E.length c] 24)).alloc (.cells #[.int .i64 V, .slice A' E'.length c'] 24)) := (below_alloc w _).alloc (by simp) _
      have c1 : ((w.alloc (.cells #[.int .i64 V, .slice A E.length c] 24)).alloc (.cells #[.int .i64 V, .slice A' E'.length c'] 24)).cell? ⟨w.heap.size, 1, none⟩ = some (.slice A E.length c) := by simp
      have c2 : ((w.alloc (.cells #[.int .i64 V, .slice A E.length c] 24)).alloc (.cells #[.int .i64 V, .slice A' E'.length c'] 24)).cell? ⟨w.heap.size + 1, 1, none⟩ = some (.slice A' E'.length c') := by simp
      generalize (w.alloc (.cells #[.int .i64 V, .slice A E.length c] 24)).alloc _ = w0 at hb0 c1 c2 ⊢
      go_loopg [5] E.length (fun gk i wr => ∃ k : Nat, k ≤ E.length ∧ gk = E.length - k ∧ i = .int .i64 k ∧ Hid (E.take k = E'.take k) ∧ Below w0.heap.size w0 wr)
      case atStart => exact ⟨0, Nat.zero_le _, rfl, rfl, rfl, Below.refl _ _⟩
      case round =>
        obtain ⟨k, hk, rfl, rfl, heq, hbr⟩ := hrel
        have d1 := Tab_cell hbr c1
        have d2 := Tab_cell hbr c2
        by_cases hlt : k < E.length
        · have hlt' : k < E'.length := by have := HL.out; omega
          have hE1 := hE.later (bthen hb0 hbr)
          have hE2 := hE'.later (bthen hb0 hbr)
          obtain ⟨ad, hA, _, hc⟩ := hE1.e_at hlt
          obtain ⟨ad', hA', _, hc'⟩ := hE2.e_at hlt'
          subst hA
          subst hA'
          have hs := take_snoc E k hlt
          have hs' := take_snoc E' k hlt'
          rw [ed_eq E k hlt] at hs
          rw [ed_eq E' k hlt'] at hs'
          have hat : E = E' → ed E k = ed E' k := fun h => by rw [h]
          generalize ed E k = x at hc hs hat
          generalize ed E' k = y at hc' hs' hat
          have HS := Lib.hid hs
          have HS' := Lib.hid hs'
          have HA := Lib.hid hat
          clear hs hs' hat
          have b1 : (0 : Int) ≤ k := by omega
          have b2 : (k : Int) < E.length := by omega
          have b3 : (k : Int) < E'.length := by omega
          by_cases hxy : x = y
          · have hne' : (x != y) = false := by simpa using hxy
            have HX := Lib.hid hxy
            clear hxy
            go_wp2_with fail
            go_quiet (fail)
            go_wp2_with fail
            go_roundg (E.length - (k + 1))
            case measure => omega
            case rel => exact ⟨k + 1, by omega, rfl, by go_num, by show _ = _; rw [HS.out, HS'.out, heq.out, HX.out], below_drewN hbr _⟩
          · have hne' : (x != y) = true := by simpa using hxy
            have hf : sameG V V E E' = false := by simpa [sameG] using fun h => hxy (HA.out h)
            clear hxy
            go_wp2_with fail
            go_quiet (fail)
            go_wp2_with fail
            go_ret
            exact ⟨by first | rfl | (rw [hf]; rfl), below_drewN (bthen hb0 hbr) _⟩
        · have hf : sameG V V E E' = true := by
            have := heq.out
            rw [List.take_of_length_le (by omega), List.take_of_length_le (by have := HL.out; omega)] at this
            simpa [sameG] using this
          go_wp2_with fail
          go_ret
          exact ⟨by first | rfl | (rw [hf]; rfl), bthen hb0 hbr⟩
    · have hne : ((E.length : Int) != (E'.length : Int)) = true := by simp; omega
      have hf : sameG V V E E' = false := by simpa [sameG] using fun h => hlen (congrArg List.length h)
      clear hlen
      go_enter Try.func34, Try.ntmps34
      go_wp2_with fail
      go_ret
      exact ⟨by first | rfl | (rw [hf]; rfl), (below_alloc w _).alloc (by simp) _⟩
  · have hne : (V != V') = true := by simpa using hV
    have hf : sameG V V' E E' = false := by simp [sameG, hV]
    clear hV
    go_enter Try.func34, Try.ntmps34
    go_wp2_with fail
    go_ret
    exact ⟨by first | rfl | (rw [hf]; rfl), (below_alloc w _).alloc (by simp) _⟩
end Go.Proofs.Ytkenbmelhfhidaa
