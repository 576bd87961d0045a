/- The walk of osierlaw15.EarsCovered. -/
import Derived.Test.YtkenbmelhfhidaaStepApp2
import Derived.Test.YtkenbmelhfhidaaCover
namespace Go.Proofs.Ytkenbmelhfhidaa
open Go.RowKit

set_option maxHeartbeats 4000000 in
set_option maxRecDepth 100000 in
theorem law_ecov (V : Int) (A : Option Addr) (E : List (BitVec 32)) (c : Nat) (w : World) (hl : E.length ≤ 35184372087808) (hE : Rd w w.heap.size A (us E)) :
    Calls Try.prog 16 #[.agg #[.int .i64 V, .slice A E.length c]] w fun e w' => e = .returned (.bool true) ∧ Below w.heap.size w w' := by
  go_enter Try.func16, Try.ntmps16
  go_wp2_with fail
  have hb0 := below_alloc w (.cells #[.int .i64 V, .slice A E.length c] 24)
  have hG0 : Row (w.alloc (.cells #[.int .i64 V, .slice A E.length c] 24)) w.heap.size 24 [.int .i64 V, .slice A E.length c] := Row.new _ _ _
  generalize w.alloc _ = w0 at hb0 hG0 ⊢
  refine (r14valid_any V A E c _ hl (hE.later hb0)).mono ?_
  rintro e w1 ⟨rfl, hb1⟩
  have hB1 := bthen hb0 hb1
  have hG1 := hG0.later hb1
  have d0 : w1.cell? ⟨w.heap.size, 0, none⟩ = some (.int .i64 V) := hG1.cell 0
  have d1 : w1.cell? ⟨w.heap.size, 1, none⟩ = some (.slice A E.length c) := hG1.cell 1
  have hE1 := hE.later hB1
  have hlt1 := hG1.lt
  clear hE hb0 hG0 hb1
  cases hv : validB V E
  · clear hv
    go_wp2_with fail
    refine (awake15_any w1).mono ?_
    rintro e w5 ⟨rfl, hb5⟩
    go_wp2_with fail
    go_ret
    exact ⟨rfl, bthen hB1 hb5⟩
  · by_cases h6 : E.length ≤ 6
    · obtain ⟨v0, v1, v2, _⟩ := validB_of hv
      obtain ⟨n, rfl⟩ := Int.eq_ofNat_of_zero_le v0
      have HC := Lib.hid (cover_acy hv h6)
      have hd : decide ((6 : Int) < (E.length : Int)) = false := decide_eq_false (by omega)
      clear hv v0
      go_wp2_with fail
      refine (copy_any n A E c w1 hl hE1).mono ?_
      rintro e w2 ⟨g, rfl, hg, hRg, hb2⟩
      have hB2 := bthen hB1 hb2
      have hb0' := hB2
      have hG2 := hG1.later hb2
      go_upto_region 4 with fail
      have hb3 := below_alloc w2 (.cells #[.int .i64 n, .slice (some ⟨g, 0, none⟩) E.length E.length] 24)
      have hI3 : Row (w2.alloc (.cells #[.int .i64 n, .slice (some ⟨g, 0, none⟩) E.length E.length] 24)) w2.heap.size 24 [.int .i64 n, .slice (some ⟨g, 0, none⟩) E.length E.length] := Row.new _ _ _
      have hG3 := hG2.later hb3
      have hRg3 := hRg.later hb3
      have hB3 := bthen hB2 hb3
      generalize hq : w2.heap.size = q at hI3 ⊢
      generalize w2.alloc _ = w3 at hb3 hI3 hG3 hRg3 hB3 ⊢
      have d0 : w3.cell? ⟨w.heap.size, 0, none⟩ = some (.int .i64 n) := hG3.cell 0
      have d1 : w3.cell? ⟨w.heap.size, 1, none⟩ = some (.slice A E.length c) := hG3.cell 1
      have d2 : w3.cell? ⟨q, 1, none⟩ = some (.slice (some ⟨g, 0, none⟩) E.length E.length) := hI3.cell 1
      have hq3 : q < w3.heap.size := hI3.lt
      have hqw : w.heap.size ≤ q := by have := hb0'.size; omega
      clear hE1 hG1 hb2 hB2 hG2 hRg hb3 hq
      have hgq : g ≠ q := row_ne hRg3 hI3 (by decide)
      go_region_law (first | (refine step_u32 (wr := w4) rfl (.tmp 19) (.tmp 22) rfl w.heap.size _ E (allOf n) (by first | rfl | go_simp) (by first | rfl | go_simp) hO4 (by omega) hB4.size ?_; intro g' c' w' hown' hgr' hb5 hg'; have hI5 := hI4.grown hgr' (by simpa [Value.ownBlock] using hgq); have k1 : w'.cell? ⟨q, 1, none⟩ = some (.slice (some ⟨g, 0, none⟩) E.length E.length) := hI5.cell 1; have k2 := hI5.frozen 1) | (go_simp; go_at_call 60; refine (r14all_any n A E.length c _ (by omega)).mono ?_; rintro e w4 ⟨rfl, hb4⟩; replace hb4 := below_undrew hb4; have hI4 := hI3.later hb4; have hRg4 := hRg3.later hb4; have hB4 := bthen hB3 hb4; have hO4 : w4.ownsRow w.heap.size 39 1 (.slice (some ⟨g, 0, none⟩) E.length E.length) E.length (us E) := (by have h0 := hRg4.own (base := w.heap.size) (by omega) (by unfold maxLen; simp; omega); rwa [us_length] at h0); have d2 : w4.cell? ⟨q, 1, none⟩ = some (.slice (some ⟨g, 0, none⟩) E.length E.length) := hI4.cell 1; have hq4 : q < w4.heap.size := hI4.lt))
      all_goals
        have hB6 := (hB4.trans hb5).setCell (p := ⟨q, 1, none⟩) hqw (.slice (some ⟨g', 0, none⟩) (E.length + 1) c')
        have hI6 := hI5.set_ 1 (.slice (some ⟨g', 0, none⟩) (E.length + 1) c')
        have hg6 := grown_set (grown_below (Below.refl w'.heap.size w') (some q)) 1 (.slice (some ⟨g', 0, none⟩) (E.length + 1) c')
        have hown6 := own_grown hown' hg6 fun x hx => by injection hx with hx; subst hx; exact own_row_ne hown' hI5 (by decide)
        clear hown' hgr' hb5 hI5 k1 k2 hg6
        generalize w'.setCell _ _ = w6 at hB6 hI6 hown6 ⊢
        have k0 : w6.cell? ⟨q, 0, none⟩ = some (.int .i64 n) := hI6.cell 0
        have k1 : w6.cell? ⟨q, 1, none⟩ = some (.slice (some ⟨g', 0, none⟩) (E.length + 1) c') := hI6.cell 1
        obtain ⟨A', c2, eA, _, _, hrd, _⟩ := Rd.of_own hown6
        injection eA with eA1 eA2 eA3
        subst eA1
        clear eA2
        subst eA3
        have hT := acyclic_any n (some ⟨g', 0, none⟩) (E ++ [allOf n]) c' w6 (by simp; omega) hrd
        rw [HC.out.1, HC.out.2, List.length_append, List.length_singleton] at hT
        have HT := Lib.hid hT
        clear hT hown6 hrd hI6
        go_wp2_with fail
        refine HT.out.mono ?_
        rintro e w7 ⟨rfl, hb7⟩
        have hB7 := bthen hB6 hb7
        clear HT
        go_wp2_with fail
        refine (awake15_any w7).mono ?_
        rintro e w8 ⟨rfl, hb8⟩
        go_wp2_with fail
        go_ret
        exact ⟨rfl, bthen hB7 hb8⟩
    · have hd : decide ((6 : Int) < (E.length : Int)) = true := decide_eq_true (by omega)
      clear hv
      go_wp2_with fail
      refine (awake15_any w1).mono ?_
      rintro e w5 ⟨rfl, hb5⟩
      go_wp2_with fail
      go_ret
      exact ⟨rfl, bthen hB1 hb5⟩
end Go.Proofs.Ytkenbmelhfhidaa
