/- The contracts of classify.Rest and osierref17.Rest. -/
import Derived.Test.YtkenbmelhfhidaaC17g
import Derived.Test.YtkenbmelhfhidaaR15d
namespace Go.Proofs.Ytkenbmelhfhidaa
open Go.RowKit

/-- What Rest answers. -/
def Rest17Is (V : Int) (E : List (BitVec 32)) (head : BitVec 32) (Z : List (BitVec 32)) (code : Int) : Prop :=
  ∃ (a x h : Bool) (q : Int), ClassIs V E head a x h q ∧ (((q ≠ 0 ∨ x = true) ∧ Z = [] ∧ code = q) ∨ (q = 0 ∧ x = false ∧ a = false ∧ RestIs V E 0#32 Z code) ∨ (q = 0 ∧ x = false ∧ a = true ∧ RestIs V (extE E head) 0#32 Z code))
theorem rest17_uniq {V : Int} {E : List (BitVec 32)} {head : BitVec 32} {Z Y : List (BitVec 32)} {a b : Int} (h : Rest17Is V E head Z a) (k : Rest17Is V E head Y b) : Z = Y ∧ a = b := by
  obtain ⟨a1, x1, h1, q1, K1, H1⟩ := h
  obtain ⟨a2, x2, h2, q2, K2, H2⟩ := k
  obtain ⟨rfl, rfl, rfl, rfl⟩ := class_uniq K1 K2
  rcases H1 with ⟨z, rfl, rfl⟩ | ⟨rfl, rfl, rfl, r1⟩ | ⟨rfl, rfl, rfl, r1⟩
  · rcases H2 with ⟨_, rfl, rfl⟩ | ⟨rfl, rfl, _, _⟩ | ⟨rfl, rfl, _, _⟩
    · exact ⟨rfl, rfl⟩
    · rcases z with z | z
      · exact absurd rfl z
      · cases z
    · rcases z with z | z
      · exact absurd rfl z
      · cases z
  · rcases H2 with ⟨z, _⟩ | ⟨_, _, _, r2⟩ | ⟨_, _, e, _⟩
    · rcases z with z | z
      · exact absurd rfl z
      · cases z
    · exact restIs_uniq r1 r2
    · cases e
  · rcases H2 with ⟨z, _⟩ | ⟨_, _, e, _⟩ | ⟨_, _, _, r2⟩
    · rcases z with z | z
      · exact absurd rfl z
      · cases z
    · cases e
    · exact restIs_uniq r1 r2
theorem rest17_len {V : Int} {E : List (BitVec 32)} {head : BitVec 32} {Z : List (BitVec 32)} {a : Int} (h : Rest17Is V E head Z a) : Z.length ≤ 7 := by
  obtain ⟨_, _, _, _, _, H⟩ := h
  rcases H with ⟨_, rfl, _⟩ | ⟨_, _, _, r⟩ | ⟨_, _, _, r⟩
  · exact Nat.zero_le _
  · exact restIs_len r
  · exact restIs_len r

set_option maxHeartbeats 40000000 in
set_option maxRecDepth 100000 in
theorem rest17_any (V : Int) (ad : Addr) (E : List (BitVec 32)) (c : Nat) (head : BitVec 32) (w : World) (hl : E.length ≤ 35184372087808) (hE : Rd w w.heap.size (some ad) (us E)) :
    Calls Try.prog 75 #[.agg #[.int .i64 V, .slice (some ad) E.length c], .int .u32 (uz head)] w fun e w' => ∃ v Z code, e = .returned (.tuple #[v, .int .i64 code]) ∧ w'.ownsRow w.heap.size 39 1 v Z.length (us Z) ∧ Hid (Rest17Is V E head Z code) ∧ Below w.heap.size w w' := by
  go_enter Try.func75, Try.ntmps75
  go_wp2_with fail
  have hb0 := below_alloc w (.cells #[.int .i64 V, .slice (some ad) E.length c] 24)
  have hG0 : Row (w.alloc (.cells #[.int .i64 V, .slice (some ad) E.length c] 24)) w.heap.size 24 [.int .i64 V, .slice (some ad) E.length c] := Row.new _ _ _
  generalize w.alloc _ = w0 at hb0 hG0 ⊢
  refine (classify_any V ad E c head w0 hl (hE.later hb0)).mono ?_
  rintro e w1 ⟨a, x, h, q, rfl, K, hb1⟩
  have hB1 := bthen hb0 hb1
  have hG1 := hG0.later hb1
  have hE1 := hE.later hB1
  clear hb0 hb1 hG0 hE
  go_upto_region 2 with fail
  have hb2 := below_alloc w1 (.cells #[.bool a, .bool x, .bool h] 94)
  have hK2 : Row (w1.alloc (.cells #[.bool a, .bool x, .bool h] 94)) w1.heap.size 94 [.bool a, .bool x, .bool h] := Row.new _ _ _
  have hB2 := bthen hB1 hb2
  have hG2 := hG1.later hb2
  have hE2 := hE1.later hb2
  generalize w1.heap.size = p at hK2 ⊢
  generalize w1.alloc _ = w2 at hK2 hB2 hG2 hE2 ⊢
  have k0 : w2.cell? ⟨p, 0, none⟩ = some (.bool a) := hK2.cell 0
  have k1 : w2.cell? ⟨p, 1, none⟩ = some (.bool x) := hK2.cell 1
  have d0 : w2.cell? ⟨w.heap.size, 0, none⟩ = some (.int .i64 V) := hG2.cell 0
  have d1 : w2.cell? ⟨w.heap.size, 1, none⟩ = some (.slice (some ad) E.length c) := hG2.cell 1
  clear hb2 hB1 hG1 hE1 hK2
  by_cases hq : q = 0
  · subst hq
    cases x
    · cases a
      · have HK := Lib.hid (fun (Z : List (BitVec 32)) (code : Int) (r : RestIs V E 0#32 Z code) => (show Rest17Is V E head Z code from ⟨_, _, _, _, K.out, .inr (.inl ⟨rfl, rfl, rfl, r⟩)⟩))
        have HC := Lib.hid (rest_any V (some ad) E c 0#32 w2 hl hE2)
        rw [show uz 0#32 = 0 from rfl] at HC
        go_wp2_with fail
        refine HC.out.mono ?_
        rintro e w3 ⟨v, Z, code, rfl, hown, hR, hb3⟩
        have HZ := Lib.hid (HK.out Z code hR.out)
        go_wp2_with fail
        go_ret2
        exact ⟨_, _, _, rfl, own_less hown hB2.size, HZ, bthen hB2 hb3⟩
      · have HK := Lib.hid (fun (Z : List (BitVec 32)) (code : Int) (r : RestIs V (extE E head) 0#32 Z code) => (show Rest17Is V E head Z code from ⟨_, _, _, _, K.out, .inr (.inr ⟨rfl, rfl, rfl, r⟩)⟩))
        have HG : Hid (goodB V E = true) := Lib.hid (by
          rcases K.out with ⟨_, z, _⟩ | ⟨g, _⟩
          · cases z
          · exact g)
        go_wp2_with fail
        refine (extended_any V ad E c head w2 hl hE2).mono ?_
        rintro e w3 ⟨V', v, F, code, rfl, hown, hX, hb3⟩
        obtain ⟨rfl, rfl, rfl⟩ : V' = V ∧ F = extE E head ∧ code = 0 := by
          rcases hX.out with ⟨g, _⟩ | ⟨_, h1, h2, h3⟩
          · rw [HG.out] at g; cases g
          · exact ⟨h1, h2, h3⟩
        have hB3 := bthen hB2 hb3
        have hG3 := hG2.later hb3
        obtain ⟨A1, c1, rfl, _, _, _, _⟩ := Rd.of_own hown
        have f0 := hG3.frozen 0
        have f1 := hG3.frozen 1
        have hlt := hG3.lt
        have hl7 : (extE E head).length ≤ 35184372087808 := by
          have h6 := (goodB_iff.1 HG.out).2
          rw [extE_length]; omega
        have hwl := hB2.size
        clear d0 d1 k0 k1 hX hb3 hE2 hG2 hB2
        generalize extE E head = F at hown HK hl7 ⊢
        have d0 : w3.cell? ⟨w.heap.size, 0, none⟩ = some (.int .i64 V') := hG3.cell 0
        have d1 : w3.cell? ⟨w.heap.size, 1, none⟩ = some (.slice (some ad) E.length c) := hG3.cell 1
        go_upto_region 6 with fail
        clear d0 d1
        have hG4 := (hG3.set_ 0 (.int .i64 V')).set_ 1 (.slice A1 F.length c1)
        have hown4 := own_grown hown (grown_set (grown_set (grown_below (Below.refl w3.heap.size w3) (some w.heap.size)) 0 (.int .i64 V')) 1 (.slice A1 F.length c1)) fun x hx => by
          injection hx with hx
          subst hx
          exact own_row_ne hown hG3 (by decide)
        have hB4 : Below w.heap.size w ((w3.setCell ⟨w.heap.size, 0, none⟩ (.int .i64 V')).setCell ⟨w.heap.size, 1, none⟩ (.slice A1 F.length c1)) := (hB3.setCell (by simp) _).setCell (by simp) _
        clear f0 f1 hlt hG3 hB3 hown
        generalize (w3.setCell _ _).setCell _ _ = w4 at hG4 hown4 hB4 ⊢
        obtain ⟨_, _, e5, _, _, hF4, _⟩ := Rd.of_own hown4
        injection e5 with e5 _ e6
        subst e5 e6
        have d0 : w4.cell? ⟨w.heap.size, 0, none⟩ = some (.int .i64 V') := hG4.cell 0
        have d1 : w4.cell? ⟨w.heap.size, 1, none⟩ = some (.slice A1 F.length c1) := hG4.cell 1
        clear hG4 hown4
        have HC := Lib.hid (rest_any V' A1 F c1 0#32 w4 hl7 hF4)
        rw [show uz 0#32 = 0 from rfl] at HC
        go_wp2_with fail
        refine HC.out.mono ?_
        rintro e w5 ⟨v, Z, code, rfl, hown5, hR, hb5⟩
        have HZ := Lib.hid (HK.out Z code hR.out)
        go_wp2_with fail
        go_ret2
        exact ⟨_, _, _, rfl, own_less hown5 hB4.size, HZ, bthen hB4 hb5⟩
    · have HZ : Hid (Rest17Is V E head [] 0) := Lib.hid ⟨_, _, _, _, K.out, .inl ⟨.inr rfl, rfl, rfl⟩⟩
      go_wp2_with fail
      go_ret2
      exact ⟨_, [], _, rfl, World.ownsRow_nil _ _ _ _, HZ, hB2⟩
  · have HZ : Hid (Rest17Is V E head [] q) := Lib.hid ⟨_, _, _, _, K.out, .inl ⟨.inl hq, rfl, rfl⟩⟩
    have hqb : (q != 0) = true := by simpa using hq
    clear hq
    go_wp2_with fail
    go_ret2
    exact ⟨_, [], _, rfl, World.ownsRow_nil _ _ _ _, HZ, hB2⟩

set_option maxHeartbeats 40000000 in
set_option maxRecDepth 100000 in
theorem r17rest_any (V : Int) (A : Option Addr) (E : List (BitVec 32)) (c : Nat) (head : BitVec 32) (w : World) (hl : E.length ≤ 35184372087808) (hE : Rd w w.heap.size A (us E)) :
    Calls Try.prog 76 #[.agg #[.int .i64 V, .slice A E.length c], .int .u32 (uz head)] w fun e w' => ∃ v Z code, e = .returned (.tuple #[v, .int .i64 code]) ∧ w'.ownsRow w.heap.size 39 1 v Z.length (us Z) ∧ Hid (Rest17Is V E head Z code) ∧ Below w.heap.size w w' := by
  go_enter Try.func76, Try.ntmps76
  go_wp2_with fail
  have hb0 := below_alloc w (.cells #[.int .i64 V, .slice A E.length c] 24)
  have hG0 : Row (w.alloc (.cells #[.int .i64 V, .slice A E.length c] 24)) w.heap.size 24 [.int .i64 V, .slice A E.length c] := Row.new _ _ _
  generalize w.alloc _ = w0 at hb0 hG0 ⊢
  refine (r17classify_any V A E c head w0 hl (hE.later hb0)).mono ?_
  rintro e w1 ⟨a, x, h, q, rfl, K, hb1⟩
  have hB1 := bthen hb0 hb1
  have hG1 := hG0.later hb1
  have hE1 := hE.later hB1
  clear hb0 hb1 hG0 hE
  have d0 : w1.cell? ⟨w.heap.size, 0, none⟩ = some (.int .i64 V) := hG1.cell 0
  have d1 : w1.cell? ⟨w.heap.size, 1, none⟩ = some (.slice A E.length c) := hG1.cell 1
  by_cases hq : q = 0
  · subst hq
    cases x
    · cases a
      · have HK := Lib.hid (fun (Z : List (BitVec 32)) (code : Int) (r : RestIs V E 0#32 Z code) => (show Rest17Is V E head Z code from ⟨_, _, _, _, K.out, .inr (.inl ⟨rfl, rfl, rfl, r⟩)⟩))
        have HC := Lib.hid (r15rest_any V A E c 0#32 w1 hl hE1)
        rw [show uz 0#32 = 0 from rfl] at HC
        go_wp2_with fail
        refine HC.out.mono ?_
        rintro e w3 ⟨v, Z, code, rfl, hown, hR, hb3⟩
        have HZ := Lib.hid (HK.out Z code hR.out)
        go_wp2_with fail
        go_ret2
        exact ⟨_, _, _, rfl, own_less hown hB1.size, HZ, bthen hB1 hb3⟩
      · have HK := Lib.hid (fun (Z : List (BitVec 32)) (code : Int) (r : RestIs V (extE E head) 0#32 Z code) => (show Rest17Is V E head Z code from ⟨_, _, _, _, K.out, .inr (.inr ⟨rfl, rfl, rfl, r⟩)⟩))
        have HG : Hid (goodB V E = true) := Lib.hid (by
          rcases K.out with ⟨_, z, _⟩ | ⟨g, _⟩
          · cases z
          · exact g)
        go_wp2_with fail
        refine (r17extended_any V A E c head w1 hl hE1).mono ?_
        rintro e w3 ⟨V', v, F, code, rfl, hown, hX, hb3⟩
        obtain ⟨rfl, rfl, rfl⟩ : V' = V ∧ F = extE E head ∧ code = 0 := by
          rcases hX.out with ⟨g, _⟩ | ⟨_, h1, h2, h3⟩
          · rw [HG.out] at g; cases g
          · exact ⟨h1, h2, h3⟩
        have hB3 := bthen hB1 hb3
        obtain ⟨A1, c1, rfl, _, _, hF3, _⟩ := Rd.of_own hown
        have hl7 : (extE E head).length ≤ 35184372087808 := by
          have h6 := (goodB_iff.1 HG.out).2
          rw [extE_length]; omega
        clear d0 d1 hX hb3 hE1 hG1 hB1 hown
        generalize extE E head = F at hF3 HK hl7 ⊢
        go_upto_region 7 with fail
        have hb4 := below_alloc w3 (.cells #[.int .i64 V', .slice A1 F.length c1] 24)
        have hI4 : Row (w3.alloc (.cells #[.int .i64 V', .slice A1 F.length c1] 24)) w3.heap.size 24 [.int .i64 V', .slice A1 F.length c1] := Row.new _ _ _
        have hB4 := bthen hB3 hb4
        have hF4 := hF3.later hb4
        generalize w3.heap.size = p at hI4 ⊢
        generalize w3.alloc _ = w4 at hI4 hB4 hF4 ⊢
        have d0 : w4.cell? ⟨p, 0, none⟩ = some (.int .i64 V') := hI4.cell 0
        have d1 : w4.cell? ⟨p, 1, none⟩ = some (.slice A1 F.length c1) := hI4.cell 1
        have HC := Lib.hid (r15rest_any V' A1 F c1 0#32 w4 hl7 hF4)
        rw [show uz 0#32 = 0 from rfl] at HC
        clear hb4 hI4 hF4 hF3 hB3
        go_wp2_with fail
        refine HC.out.mono ?_
        rintro e w5 ⟨v, Z, code, rfl, hown5, hR, hb5⟩
        have HZ := Lib.hid (HK.out Z code hR.out)
        go_wp2_with fail
        go_ret2
        exact ⟨_, _, _, rfl, own_less hown5 hB4.size, HZ, bthen hB4 hb5⟩
    · have HZ : Hid (Rest17Is V E head [] 0) := Lib.hid ⟨_, _, _, _, K.out, .inl ⟨.inr rfl, rfl, rfl⟩⟩
      go_wp2_with fail
      go_ret2
      exact ⟨_, [], _, rfl, World.ownsRow_nil _ _ _ _, HZ, hB1⟩
  · have HZ : Hid (Rest17Is V E head [] q) := Lib.hid ⟨_, _, _, _, K.out, .inl ⟨.inl hq, rfl, rfl⟩⟩
    have hqb : (q != 0) = true := by simpa using hq
    clear hq
    go_wp2_with fail
    go_ret2
    exact ⟨_, [], _, rfl, World.ownsRow_nil _ _ _ _, HZ, hB1⟩
end Go.Proofs.Ytkenbmelhfhidaa
