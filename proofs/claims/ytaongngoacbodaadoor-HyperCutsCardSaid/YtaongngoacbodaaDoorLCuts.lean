/- The walk of osierlaw14.HyperCuts. -/
import Derived.Test.YtaongngoacbodaaDoorAwake14
import Derived.Test.YtaongngoacbodaaDoorCuts
namespace Go.Proofs.YtaongngoacbodaaDoor
open Go.RowKit

attribute [local go_sem ↓] uz_and uz_or uz_andNot uz_and_one uz_shr uz_shl_one uz_shl uz_sub uz_sub_one uz_add uz_beq_zero uz_bne_zero uz_beq uz_bne uz_beq_one

theorem sameG_refl (V : Int) (E : List (BitVec 32)) : sameG V V E E = true := by simp [sameG]
theorem rd_copy {w w' : World} {base : Nat} {e : TypeId} {v : Value} {n : Nat} {xs : List Value} (h : w.ownsRow base e 1 v n xs) (hb : Below w.heap.size w w') :
    ∃ A c, v = .slice A n c ∧ xs.length = n ∧ Rd w' w'.heap.size A xs := by
  obtain ⟨A, c, e1, _, e2, hr, _⟩ := Rd.of_own h
  exact ⟨A, c, e1, e2, hr.later hb⟩

theorem maxIs_len {V : Int} {E : List (BitVec 32)} {Z : List Nat} {a : Int} (h : MaxIs V E Z a) : Z.length ≤ 7 := by
  rcases h with ⟨h1, rfl, rfl⟩ | ⟨h1, rfl, rfl⟩
  · exact Nat.zero_le _
  · have := maxTo_len E E.length
    have := (validB_of h1).2.2.1
    omega

set_option maxHeartbeats 2000000 in
set_option maxRecDepth 100000 in
theorem law_cuts (V : Int) (A : Option Addr) (E : List (BitVec 32)) (c : Nat) (set : BitVec 32) (v : Int) (w : World) (hl : E.length ≤ 35184372087808) (hE : Rd w w.heap.size A (us E)) (hT : Tab w) :
    Calls Tryd.prog 9 #[.agg #[.int .i64 V, .slice A E.length c], .int .u32 (uz set), .int .i64 v] w fun e w' => e = .returned (.bool true) ∧ Below w.heap.size w w' := by
  go_enter Tryd.func9, Tryd.ntmps9
  go_wp2_with fail
  have hb0 := below_alloc w (.cells #[.int .i64 V, .slice A E.length c] 24)
  have hG0 : Row (w.alloc (.cells #[.int .i64 V, .slice A E.length c] 24)) w.heap.size 24 [.int .i64 V, .slice A E.length c] := Row.new _ _ _
  generalize w.alloc _ = w0 at hb0 hG0 ⊢
  refine (copy_any V A E c _ hl (hE.later hb0)).mono ?_
  rintro e w1 ⟨g, rfl, hg, hRg, hb1⟩
  have hB1 := bthen hb0 hb1
  have hG1 := hG0.later hb1
  have cG0 : w1.cell? ⟨w.heap.size, 0, none⟩ = some (.int .i64 V) := hG1.cell 0
  have cG1 : w1.cell? ⟨w.heap.size, 1, none⟩ = some (.slice A E.length c) := hG1.cell 1
  have hlt0 : w.heap.size < w1.heap.size := hG1.lt
  have hltg : g < w1.heap.size := hRg.lt
  go_wp2_with fail
  have hbx := hB1.alloc hB1.size (.cells #[.int .i64 V, .slice (some ⟨g, 0, none⟩) E.length E.length] 24)
  have hI : Row (w1.alloc (.cells #[.int .i64 V, .slice (some ⟨g, 0, none⟩) E.length E.length] 24)) w1.heap.size 24 [.int .i64 V, .slice (some ⟨g, 0, none⟩) E.length E.length] := Row.new _ _ _
  have hG2 := hG1.alloc (.cells #[.int .i64 V, .slice (some ⟨g, 0, none⟩) E.length E.length] 24)
  have hRg2 := hRg.alloc (.cells #[.int .i64 V, .slice (some ⟨g, 0, none⟩) E.length E.length] 24)
  generalize w1.alloc (.cells #[.int .i64 V, .slice (some ⟨g, 0, none⟩) E.length E.length] 24) = w2 at hbx hI hG2 hRg2 ⊢
  refine (induced_any V (some ⟨g, 0, none⟩) E E.length set w2 hl hRg2.rd).mono ?_
  rintro e w3 ⟨V1, va, F, k1, rfl, hownA, hIA, hb3⟩
  obtain ⟨Aa, ca, rfl, _, hFl, hFr, _⟩ := Rd.of_own hownA
  have hB3 := bthen hbx hb3
  have hG3 := hG2.later hb3
  have hI3 := hI.later hb3
  have hRg3 := hRg2.later hb3
  have cG0 : w3.cell? ⟨w.heap.size, 0, none⟩ = some (.int .i64 V) := hG3.cell 0
  have cG1 : w3.cell? ⟨w.heap.size, 1, none⟩ = some (.slice A E.length c) := hG3.cell 1
  have hlt0 : w.heap.size < w3.heap.size := hG3.lt
  have hltI : w1.heap.size < w3.heap.size := hI3.lt
  go_wp2_with fail
  have hbx4 := below_alloc w3 (.cells #[.int .i64 V1, .slice Aa F.length ca] 24)
  have hS1 : Row (w3.alloc (.cells #[.int .i64 V1, .slice Aa F.length ca] 24)) w3.heap.size 24 [.int .i64 V1, .slice Aa F.length ca] := Row.new _ _ _
  generalize w3.alloc (.cells #[.int .i64 V1, .slice Aa F.length ca] 24) = w4 at hbx4 hS1 ⊢
  have hB4 := bthen hB3 hbx4
  refine (r14induced_any V A E c set w4 hl (hE.later hB4)).mono ?_
  rintro e w5 ⟨V2, vb, F2, k2, rfl, hownB, hIB, hb5⟩
  obtain ⟨e1, e2, e3⟩ := indIs_uniq hIA.out hIB.out
  subst e1 e2 e3
  have hF7 := indIs_len hIA.out
  clear hIA hIB
  obtain ⟨Ab, cb, rfl, _, _, hFr2, _⟩ := Rd.of_own hownB
  have h35 := bthen hbx4 hb5
  have hB5 := bthen hB4 hb5
  have hS5 := hS1.later hb5
  have hI5 := hI3.later h35
  have hG5 := hG3.later h35
  have cI0 : w5.cell? ⟨w1.heap.size, 0, none⟩ = some (.int .i64 V) := hI5.cell 0
  have cI1 : w5.cell? ⟨w1.heap.size, 1, none⟩ = some (.slice (some ⟨g, 0, none⟩) E.length E.length) := hI5.cell 1
  have hlt0 : w.heap.size < w5.heap.size := hG5.lt
  have hltI : w1.heap.size < w5.heap.size := hI5.lt
  have hltS : w3.heap.size < w5.heap.size := hS5.lt
  go_wp2_with fail
  have hbx6 := below_alloc w5 (.cells #[.int .i64 V1, .slice Ab F.length cb] 24)
  have hS2 : Row (w5.alloc (.cells #[.int .i64 V1, .slice Ab F.length cb] 24)) w5.heap.size 24 [.int .i64 V1, .slice Ab F.length cb] := Row.new _ _ _
  generalize w5.alloc (.cells #[.int .i64 V1, .slice Ab F.length cb] 24) = w6 at hbx6 hS2 ⊢
  have hB6 := bthen hB5 hbx6
  have h36 := bthen h35 hbx6
  refine (maximal_any V (some ⟨g, 0, none⟩) E E.length w6 hl (hRg3.later h36).rd).mono ?_
  rintro e w7 ⟨vm, Z, k3, rfl, hownM, hMA, hb7⟩
  obtain ⟨Am, cm, rfl, _, hZl, hZr, _⟩ := Rd.of_own hownM
  rw [is_length] at hZl
  have h67 := hb7
  have hB7 := bthen hB6 hb7
  have cG0 : w7.cell? ⟨w.heap.size, 0, none⟩ = some (.int .i64 V) := (hG5.later (bthen hbx6 hb7)).cell 0
  have cG1 : w7.cell? ⟨w.heap.size, 1, none⟩ = some (.slice A E.length c) := (hG5.later (bthen hbx6 hb7)).cell 1
  go_wp2_with fail
  refine (r14maximal_any V A E c w7 hl (hE.later hB7)).mono ?_
  rintro e w8 ⟨vn, Z2, k4, rfl, hownN, hMB, hb8⟩
  obtain ⟨e1, e2⟩ := maxIs_uniq hMA.out hMB.out
  subst e1 e2
  have hZ7 := maxIs_len hMA.out
  clear hMA hMB
  obtain ⟨An, cn, rfl, _, _, hZr2, _⟩ := Rd.of_own hownN
  have hB8 := bthen hB7 hb8
  have h68 := bthen hb7 hb8
  have h38 := bthen h36 h68
  have cI0 : w8.cell? ⟨w1.heap.size, 0, none⟩ = some (.int .i64 V) := (hI3.later h38).cell 0
  have cI1 : w8.cell? ⟨w1.heap.size, 1, none⟩ = some (.slice (some ⟨g, 0, none⟩) E.length E.length) := (hI3.later h38).cell 1
  go_wp2_with fail
  refine (neighbours_any V v (some ⟨g, 0, none⟩) E E.length w8 hl (hRg3.later h38).rd).mono ?_
  rintro e w9 ⟨rfl, hb9⟩
  have h39 := bthen h38 hb9
  have hB9 := bthen hB8 hb9
  have cG0 : w9.cell? ⟨w.heap.size, 0, none⟩ = some (.int .i64 V) := (hG3.later h39).cell 0
  have cG1 : w9.cell? ⟨w.heap.size, 1, none⟩ = some (.slice A E.length c) := (hG3.later h39).cell 1
  obtain ⟨n1, n2, hn⟩ : ∃ n1 n2, (if validB V E then (if 0 ≤ v ∧ v < V then #[Value.int .u32 (uz (nearS E v)), .int .i64 0] else #[.int .u32 (uz 0#32), .int .i64 141]) else #[.int .u32 (uz 0#32), .int .i64 140]) = #[Value.int .u32 (uz n1), .int .i64 n2] := by
    split
    · split
      · exact ⟨_, _, rfl⟩
      · exact ⟨_, _, rfl⟩
    · exact ⟨_, _, rfl⟩
  rw [hn]
  go_wp2_with fail
  refine (r14neighbours_any V v A E c w9 hl (hE.later hB9)).mono ?_
  rintro e w10 ⟨rfl, hb10⟩
  rw [hn]
  have hB10 := bthen hB9 hb10
  have h3x := bthen h39 hb10
  have h8x := bthen hb9 hb10
  have h6x := bthen h68 h8x
  have h5x := bthen hbx6 h6x
  go_wp2_with fail
  refine (awake_any w10 (hT.later hB10)).mono ?_
  rintro e w11 ⟨rfl, hb11⟩
  have hB11 := bthen hB10 hb11
  have hS1' := hS5.later (bthen h5x hb11)
  have hS2' := hS2.later (bthen h6x hb11)
  have s0 : w11.cell? ⟨w3.heap.size, 0, none⟩ = some (.int .i64 V1) := hS1'.cell 0
  have s1 : w11.cell? ⟨w3.heap.size, 1, none⟩ = some (.slice Aa F.length ca) := hS1'.cell 1
  have s2 : w11.cell? ⟨w5.heap.size, 0, none⟩ = some (.int .i64 V1) := hS2'.cell 0
  have s3 : w11.cell? ⟨w5.heap.size, 1, none⟩ = some (.slice Ab F.length cb) := hS2'.cell 1
  go_wp2_with fail
  refine (same_any V1 V1 Aa Ab F F ca cb w11 (by omega) (by omega) (hFr.later (bthen h3x hb11)) (hFr2.later (bthen h5x hb11))).mono ?_
  rintro e w12 ⟨rfl, hb12⟩
  rw [sameG_refl]
  have hB12 := bthen hB11 hb12
  have h7y := bthen (bthen hb8 h8x) (bthen hb11 hb12)
  have h8y := bthen h8x (bthen hb11 hb12)
  go_wp2_with fail
  have HM1 := hZr.later h7y
  have HM2 := hZr2.later h8y
  have hsi := sameInts_any Am An (Z.map Int.ofNat) (Z.map Int.ofNat) cm cn w12 (by simp; omega) (by simp; omega) HM1 HM2
  rw [List.length_map] at hsi
  refine hsi.mono ?_
  rintro e w13 ⟨rfl, nd, rfl⟩
  rw [beq_self_eq_true]
  have hb13 : Below w12.heap.size w12 (w12.drewN nd) := below_drewN (Below.refl _ _) _
  generalize w12.drewN nd = w13 at hb13 ⊢
  have hB13 := bthen hB12 hb13
  have h3z := bthen (bthen h3x (bthen hb11 hb12)) hb13
  have hI13 := hI3.later h3z
  have hG13 := hG3.later h3z
  have cI0 : w13.cell? ⟨w1.heap.size, 0, none⟩ = some (.int .i64 V) := hI13.cell 0
  have cI1 : w13.cell? ⟨w1.heap.size, 1, none⟩ = some (.slice (some ⟨g, 0, none⟩) E.length E.length) := hI13.cell 1
  have cG0 : w13.cell? ⟨w.heap.size, 0, none⟩ = some (.int .i64 V) := hG13.cell 0
  have cG1 : w13.cell? ⟨w.heap.size, 1, none⟩ = some (.slice A E.length c) := hG13.cell 1
  go_wp2_with fail
  refine (same_any V V (some ⟨g, 0, none⟩) A E E E.length c w13 hl hl (hRg3.later h3z).rd (hE.later hB13)).mono ?_
  rintro e w14 ⟨rfl, hb14⟩
  rw [sameG_refl]
  go_wp2
  go_ret
  exact ⟨rfl, bthen hB13 hb14⟩
end Go.Proofs.YtaongngoacbodaaDoor
