/- Contracts of the reference's Valid, Copy, Same, Neighbours; of SameInts, Ints. -/
import Derived.Test.YtaongngoacbodaaDoorGr2
namespace Go.Proofs.YtaongngoacbodaaDoor
open Go.RowKit

attribute [local go_sem ↓] uz_and uz_or uz_andNot uz_and_one uz_shr uz_shl_one uz_shl uz_sub uz_sub_one uz_add uz_beq_zero uz_bne_zero uz_beq uz_bne uz_beq_one

/-! ### Valid -/
/-- No vertex from V on, below k, is in the edge. -/
def clean (V : Int) (x : BitVec 32) (k : Nat) : Prop := ∀ v : Nat, V ≤ v → v < k → inB x v = false
theorem outB_false_of {V : Int} {x : BitVec 32} (h0 : 0 ≤ V) (h1 : V ≤ 30) (h : clean V x 32) : outB V x = false := by
  unfold outB
  rw [bne_eq_false_iff_eq]
  apply BitVec.eq_of_getLsbD_eq
  intro i hi
  simp only [BitVec.getLsbD_and, BitVec.getLsbD_not, hi, decide_true, Bool.true_and, BitVec.getLsbD_zero, getLsbD_allOf V (by omega)]
  by_cases hc : V ≤ i
  · have := h i hc hi
    rw [inB_nat] at this
    simp [this]
  · simp [show i < V.toNat by omega]
theorem outB_true_of {V : Int} {x : BitVec 32} {k : Nat} (h0 : 0 ≤ V) (h1 : V ≤ 30) (hk : V ≤ k) (h : inB x k = true) : outB V x = true := by
  unfold outB
  rw [bne_iff_ne]
  intro h'
  have h2 := congrArg (fun y => y.getLsbD k) h'
  rw [inB_nat] at h
  have hk32 : k < 32 := by
    rcases Nat.lt_or_ge k 32 with c | c
    · exact c
    · rw [BitVec.getLsbD_of_ge _ _ c] at h; cases h
  simp only [BitVec.getLsbD_and, BitVec.getLsbD_not, hk32, h, getLsbD_allOf V (by omega), BitVec.getLsbD_zero] at h2
  simp at h2
  omega

theorem r14valid_any (V : Int) (A : Option Addr) (E : List (BitVec 32)) (c : Nat) (w : World) (hl : E.length ≤ 35184372087808) (hE : Rd w w.heap.size A (us E)) :
    Calls Tryd.prog 14 #[.agg #[.int .i64 V, .slice A E.length c]] w fun e w' => e = .returned (.bool (validB V E)) ∧ Below w.heap.size w w' := by
  by_cases h0 : 0 ≤ V
  · by_cases h1 : V ≤ 30
    · by_cases h2 : E.length ≤ 7
      · have hv : validB V E = !E.any (outB V) := by simp [validB, h0, h1, h2]
        rw [hv]
        go_enter Tryd.func14, Tryd.ntmps14
        go_wp2_with fail
        have hc0 : (w.alloc (.cells #[.int .i64 V, .slice A E.length c] 24)).cell? ⟨w.heap.size, 1, none⟩ = some (.slice A E.length c) := by simp [World.cell?_alloc_new]
        have hc1 : (w.alloc (.cells #[.int .i64 V, .slice A E.length c] 24)).cell? ⟨w.heap.size, 0, none⟩ = some (.int .i64 V) := by simp [World.cell?_alloc_new]
        generalize hW : w.alloc _ = W at hc0 hc1 ⊢
        have hb : Below w.heap.size w W := by rw [← hW]; exact below_alloc _ _
        clear hW
        have hE' := hE.below hb
        go_loop [3] (fun i => ∃ k : Nat, k ≤ E.length ∧ i = .int .i64 k ∧ Hid ((E.take k).any (outB V) = false)) (fun i => E.length - (intOf i).toNat)
        case atStart => exact ⟨0, Nat.zero_le _, rfl, rfl⟩
        case round =>
          obtain ⟨k, hk, rfl, hno⟩ := hrel
          by_cases hlt : k < E.length
          · obtain ⟨ad, hA, _, hc⟩ := hE'.u_at hlt
            subst hA
            have hs := take_snoc E k hlt
            have hat : outB V E[k] = true → E.any (outB V) = true := fun h => List.any_eq_true.2 ⟨E[k], List.getElem_mem _, h⟩
            generalize E[k] = x at hc hs hat
            have HS := Lib.hid hs
            have HA := Lib.hid hat
            clear hs hat
            go_wp2_with fail
            go_loop [4] (fun i => ∃ v : Nat, V ≤ v ∧ v ≤ 32 ∧ i = .int .i64 v ∧ Hid (clean V x v)) (fun i => 32 - (intOf i).toNat)
            case atStart =>
              obtain ⟨n, rfl⟩ := Int.eq_ofNat_of_zero_le h0
              exact ⟨n, by omega, by omega, rfl, fun v a b => by omega⟩
            case round =>
              obtain ⟨v, hv1, hv2, rfl, hcl⟩ := hrel
              by_cases hlt2 : v < 32
              · cases hp : inB x v
                · go_wp2_with (go_at_call 19; refine (in_any _ _ _).mono ?_; rintro e w' ⟨rfl, rfl⟩)
                  go_round
                  case rel => exact ⟨v + 1, by omega, by omega, by go_num, fun u a b => by
                    rcases Nat.lt_or_ge u v with d | d
                    · exact hcl.out u a d
                    · obtain rfl : u = v := by omega
                      exact hp⟩
                  case measure => simp [intOf]; omega
                · have ho := outB_true_of h0 h1 hv1 hp
                  go_wp2_with (go_at_call 19; refine (in_any _ _ _).mono ?_; rintro e w' ⟨rfl, rfl⟩)
                  go_ret
                  exact ⟨by first | rfl | (rw [HA.out ho]; rfl), hb⟩
              · obtain rfl : v = 32 := by omega
                have ho := outB_false_of h0 h1 hcl.out
                go_wp2_with fail
                go_round
                case rel => exact ⟨k + 1, by omega, by go_num, by show _ = _; rw [HS.out, any_snoc, hno.out, ho]; rfl⟩
                case measure => simp [intOf]; omega
          · have hn : E.any (outB V) = false := by have := hno.out; rwa [List.take_of_length_le (by omega)] at this
            go_wp2_with fail
            go_ret
            exact ⟨by first | rfl | (rw [hn]; rfl), hb⟩
      · have hv : validB V E = false := by simp [validB, h2]
        rw [hv]
        go_enter Tryd.func14, Tryd.ntmps14
        go_wp2
        go_ret
        exact ⟨rfl, below_alloc _ _⟩
    · have hv : validB V E = false := by simp [validB, h1]
      rw [hv]
      go_enter Tryd.func14, Tryd.ntmps14
      go_wp2
      go_ret
      exact ⟨rfl, below_alloc _ _⟩
  · have hv : validB V E = false := by simp [validB, h0]
    rw [hv]
    go_enter Tryd.func14, Tryd.ntmps14
    go_wp2
    go_ret
    exact ⟨rfl, below_alloc _ _⟩

/-! ### Copy, Ints -/
theorem Tryd.size_u32 : (Tryd.prog.info? 28).map (·.size) = some 1 := by kernel_rfl
theorem Tryd.size_int : (Tryd.prog.info? 3).map (·.size) = some 1 := by kernel_rfl
theorem copy_any (V : Int) (A : Option Addr) (E : List (BitVec 32)) (c : Nat) (w : World) (hl : E.length ≤ 35184372087808) (hE : Rd w w.heap.size A (us E)) :
    Calls Tryd.prog 13 #[.agg #[.int .i64 V, .slice A E.length c]] w fun e w' => ∃ g, e = .returned (.agg #[.int .i64 V, .slice (some ⟨g, 0, none⟩) E.length E.length]) ∧ w.heap.size ≤ g ∧ Row w' g 28 (us E) ∧ Below w.heap.size w w' := by
  have hmk := mk_u32 E.length hl
  go_enter Tryd.func13, Tryd.ntmps13
  go_wp2_with ((with_reducible show wpList _ _ _ _ _ _); refine wp_copy_whole rfl (.tmp 8) (.tmp 10) 22 rfl 28 Tryd.underlying22 Tryd.size_u32 (.int .u32 0) E.length c A (us E) (us_length E) _ rfl rfl ?_ ?_ (us_one E) (w.heap.size + 2) ?_ ?_)
  · exact Row.new_ (by simp)
  · exact hE.later (((below_alloc w _).alloc (by simp) _).alloc (by simp; omega) _)
  · omega
  · intro w1 hr hb
    obtain ⟨hc, hf⟩ := bcellB hb
    have hz : w.heap.size + 2 < w1.heap.size := hr.lt
    go_wp2
    refine bodyPost_ret (v := .agg #[.int .i64 V, .slice (some ⟨w.heap.size + 2, 0, none⟩) E.length E.length]) (by simp [results, Tryd.results13, go_sem, hc]) rfl ⟨_, rfl, by omega, (hr.far (by simp) _).far (by simp) _, ?_⟩
    exact ((((((Below.refl _ _).alloc (by simp) _).alloc (by simp) _).alloc (by simp; omega) _).trans (hb.mono (by omega))).setCell (by simp) _).setCell (by simp) _

theorem ints_any (A : Option Addr) (Z : List Int) (c : Nat) (w : World) (hl : Z.length ≤ 35184372087808) (hE : Rd w w.heap.size A (is Z)) :
    Calls Tryd.prog 40 #[.slice A Z.length c] w fun e w' => ∃ g, e = .returned (.slice (some ⟨g, 0, none⟩) Z.length Z.length) ∧ w.heap.size ≤ g ∧ Row w' g 3 (is Z) ∧ Below w.heap.size w w' := by
  have hmk := mk_int Z.length hl
  go_enter Tryd.func40, Tryd.ntmps40
  go_wp2_with ((with_reducible show wpList _ _ _ _ _ _); refine wp_copy_whole rfl (.tmp 7) (.tmp 8) 31 rfl 3 Tryd.underlying31 Tryd.size_int (.int .i64 0) Z.length c A (is Z) (is_length Z) _ rfl rfl ?_ ?_ (is_one Z) w.heap.size ?_ ?_)
  · exact Row.new_ (by simp)
  · exact hE.later (below_alloc w _)
  · omega
  · intro w1 hr hb
    go_wp2
    go_ret
    exact ⟨_, rfl, Nat.le_refl _, hr, (below_alloc w _).trans hb⟩

/-! ### SameInts, Same -/
theorem sameInts_any (A A' : Option Addr) (Z Y : List Int) (c c' : Nat) (w : World) (hl : Z.length ≤ 35184372087808) (hl' : Y.length ≤ 35184372087808) (hZ : Rd w w.heap.size A (is Z)) (hY : Rd w w.heap.size A' (is Y)) :
    Calls Tryd.prog 17 #[.slice A Z.length c, .slice A' Y.length c'] w fun e w' => e = .returned (.bool (Z == Y)) ∧ ∃ n, w' = w.drewN n := by
  by_cases hlen : Z.length = Y.length
  · have hne : ((Z.length : Int) != (Y.length : Int)) = false := by simp [hlen]
    have HL := Lib.hid hlen
    clear hlen
    go_enter Tryd.func17, Tryd.ntmps17
    go_wp2_with fail
    go_loopw [5] (fun i wr => ∃ k : Nat, k ≤ Z.length ∧ i = .int .i64 k ∧ Hid (Z.take k = Y.take k) ∧ ∃ n, wr = w.drewN n) (fun i _ => Z.length - (intOf i).toNat)
    case atStart => exact ⟨0, Nat.zero_le _, rfl, rfl, 0, rfl⟩
    case round =>
      obtain ⟨k, hk, rfl, heq, n, rfl⟩ := hrel
      by_cases hlt : k < Z.length
      · have hlt' : k < Y.length := by have := HL.out; omega
        obtain ⟨ad, hA, _, hc⟩ := hZ.i_at hlt
        obtain ⟨ad', hA', _, hc'⟩ := hY.i_at hlt'
        subst hA
        subst hA'
        have hs := take_snoc Z k hlt
        have hs' := take_snoc Y k hlt'
        have hat : Z = Y → Z[k] = Y[k] := fun h => by subst h; rfl
        generalize Z[k] = x at hc hs hat
        generalize Y[k] = y at hc' hs' hat
        have HS := Lib.hid hs
        have HS' := Lib.hid hs'
        have HA := Lib.hid hat
        clear hs hs' hat
        have b1 : (0 : Int) ≤ k := by omega
        have b2 : (k : Int) < Z.length := by omega
        have b3 : (k : Int) < Y.length := by omega
        by_cases hxy : x = y
        · have hne' : (x != y) = false := by simpa using hxy
          have HX := Lib.hid hxy
          clear hxy
          go_wp2_with fail
          go_quiet (fail)
          go_wp2_with fail
          go_roundw
          case rel => exact ⟨k + 1, by omega, by go_num, by show _ = _; rw [HS.out, HS'.out, heq.out, HX.out], _, rfl⟩
          case measure => simp [intOf]; omega
        · have hne' : (x != y) = true := by simpa using hxy
          have hf : (Z == Y) = false := by simpa using fun h => hxy (HA.out h)
          clear hxy
          go_wp2_with fail
          go_quiet (fail)
          go_wp2_with fail
          go_ret
          exact ⟨by first | rfl | (rw [hf]; rfl), _, by first | rfl | exact World.drewN_drewN _ _ _⟩
      · have hf : (Z == Y) = true := by
          have := heq.out
          rw [List.take_of_length_le (by omega), List.take_of_length_le (by have := HL.out; omega)] at this
          simpa using this
        go_wp2_with fail
        go_ret
        exact ⟨by first | rfl | (rw [hf]; rfl), _, rfl⟩
  · have hne : ((Z.length : Int) != (Y.length : Int)) = true := by simp; omega
    have hf : (Z == Y) = false := by simpa using fun h => hlen (congrArg List.length h)
    have HL := Lib.hid hlen
    clear hlen
    go_enter Tryd.func17, Tryd.ntmps17
    go_wp2_with fail
    go_ret
    exact ⟨by first | rfl | (rw [hf]; rfl), 0, rfl⟩
end Go.Proofs.YtaongngoacbodaaDoor
