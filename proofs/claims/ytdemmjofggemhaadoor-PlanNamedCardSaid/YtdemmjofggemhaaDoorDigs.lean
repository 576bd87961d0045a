/- osierref01.Digits below 100; texts that lie anywhere behind an owned list of texts. -/
import Derived.Test.YtdemmjofggemhaaDoorPName
import Derived.Test.YtdemmjofggemhaaDoorBQ
import Derived.Laws.BytesArg
namespace Go.Proofs.YtdemmjofggemhaaDoor
open Go.RowKit

section
variable {wr : World} {ops : Array Oper} {rest : List Oper} {o : Oper} {a : Act} {Q : Exit → Act → World → Prop}
theorem run_append_none_s {P : Program} {w : World} (base : Nat) (t ty e : TypeId) (i : TypeInfo) (size : Nat) (ht : P.underlying t = some (.slice e)) (hi : P.info? e = some i)
    (v : Value) (n c : Nat) (xs : List Value) (hown : w.ownsRow base e size v n xs) : (Builtin.append_ #[t, t] ty #[v, .slice none 0 c]).run P w = .ok v w := by
  rcases hown.2 with ⟨rfl, rfl⟩ | ⟨g, cap, cur, rfl, _, _, hnc, _⟩
  · simp [Builtin.append_, run_underlying ht, sizeOf, typeInfo, hi, Builtin.lenOf, Builtin.firstCells]
  · simp [Builtin.append_, run_underlying ht, sizeOf, typeInfo, hi, Builtin.lenOf, Builtin.firstCells, hnc, storeCells]
set_option maxRecDepth 100000 in
theorem app_rdS (hgd : o.guard = none) (s x : Operand) (ho : o.op = .call { callee := .builtin .append, args := #[s, x], argTypes := #[22, 22] })
    (base B : Nat) (v : Value) (X : List ByteArray) (A : Option Addr) (c : Nat) (Y : List ByteArray) (hs : a.eval s = v) (hx : a.eval x = .slice A Y.length c) (hown : wr.ownsRow base 9 1 v X.length (ss X)) (hR : Rd wr B A (ss Y))
    (hn : X.length + Y.length ≤ 8796093022208) (hbase : base ≤ wr.heap.size)
    (h : ∀ v' w', w'.ownsRow base 9 1 v' (X ++ Y).length (ss (X ++ Y)) → Below base wr w' → wpList Tryd.prog ops Q rest (a.put o.dst v') w') : wpList Tryd.prog ops Q (o :: rest) a wr := by
  obtain ⟨i, hi, hz, hs1, hb1⟩ := info_parts Tryd.info_str
  have hE : ss X ++ ss Y = ss (X ++ Y) := by simp [ss]
  cases A with
  | none =>
    have hY : Y = [] := by
      cases Y with
      | nil => rfl
      | cons y Y => obtain ⟨_, e, _⟩ := hR 0 (by simp [ss]); cases e
    subst hY
    refine wpList_plain hgd fun K hK => ?_
    have hrun := run_append_none_s (P := Tryd.prog) (w := wr) base 22 o.type 9 i 1 Tryd.underlying22 hi v X.length c (ss X) hown
    unfold Oper.wp
    simp only [List.length_nil] at hx
    simp [execOp, ho, resolve, invoke, builtin, hs, hx, hrun, Result.andThen]
    refine hK _ _ (h v wr ?_ (Below.refl _ _))
    rw [List.append_nil]; exact hown
  | some ad =>
    refine wpList_append_own_at _ hgd s x 22 ho base 9 i (.string ByteArray.empty) 1 16 Tryd.underlying22 hi hz hs1 hb1 rfl (by decide) v X.length (ss X) hs hown ad Y.length c (ss Y) hx (by simp) hR.news (ss_one Y) (by unfold maxLen; omega) (by omega) hbase ?_
    intro v' w' hown' hg _ hat
    refine h v' w' ?_ ((Below.refl _ _).grown hg hbase fun k hk => (hown.lt k hk).1)
    rw [List.length_append, ← hE]; exact hown'
end
theorem conv_one (c : Int) (w : World) (T : TypeId) : (convert 114 9 (.slice (some ⟨w.heap.size, 0, none⟩) 1 1)).run Tryd.prog (w.alloc (.cells #[.int .u8 c] T)) = .ok (.string ⟨#[UInt8.ofNat c.toNat]⟩) (w.alloc (.cells #[.int .u8 c] T)) := by
  have hR : Row (w.alloc (.cells #[.int .u8 c] T)) w.heap.size T [.int .u8 c] := Row.new _ _ _
  have h := run_convert_bytes_arg (P := Tryd.prog) (w.alloc (.cells #[.int .u8 c] T)) 114 5 Tryd.underlying114 Tryd.underlying5 w.heap.size 0 1 1 [c] rfl (fun i hi => by
    obtain rfl : i = 0 := by omega
    exact hR.cell 0) 9 Tryd.underlying9
  exact h
theorem dig_one {k : Nat} (h : k < 10) : dig k = (⟨#[48 + UInt8.ofNat (k % 10)]⟩ : ByteArray) := by
  unfold dig
  rw [if_pos h, Nat.mod_eq_of_lt h]
  simp
theorem dig_two {k : Nat} (h : 10 ≤ k) (h2 : k < 100) : dig k = (⟨#[48 + UInt8.ofNat (k / 10 % 10)]⟩ : ByteArray) ++ (⟨#[48 + UInt8.ofNat (k % 10)]⟩ : ByteArray) := by
  unfold dig
  rw [if_neg (by omega), Nat.mod_eq_of_lt (by omega : k / 10 < 10), UInt8.ofNat_add, UInt8.ofNat_add]
  rfl
set_option maxRecDepth 100000 in
theorem digits_any (k : Nat) (hk : k < 100) (w : World) : Calls Tryd.prog 31 #[.int .u64 k] w fun e w' => e = .returned (.string (dig k)) ∧ Below w.heap.size w w' := by
  have HCV := conv_one
  have H1 := Lib.hid (dig_one (k := k))
  have H2 := Lib.hid (fun h => dig_two (k := k) h hk)
  generalize dig k = D at H1 H2 ⊢
  go_enter Tryd.func31, Tryd.ntmps31
  go_wp2_with fail
  go_loopw [0, 3] (fun n s wr => ((n = .int .u64 k ∧ s = .string ByteArray.empty) ∨ (10 ≤ k ∧ n = .int .u64 ((k / 10 : Nat) : Int) ∧ s = .string ⟨#[48 + UInt8.ofNat (k % 10)]⟩)) ∧ Below w.heap.size w wr) (fun n _ _ => (intOf n).toNat)
  case atStart => exact ⟨.inl ⟨rfl, rfl⟩, Below.refl _ _⟩
  case round =>
    obtain ⟨h, hb⟩ := hrel
    rcases h with ⟨rfl, rfl⟩ | ⟨h10, rfl, rfl⟩
    · by_cases h10 : 10 ≤ k
      · have g1 : ((k : Int) / 10 == 0) = false := by
          have : ¬ (k : Int) / 10 = 0 := by omega
          simpa using this
        go_wp2_with fail
        go_roundw
        case rel => exact ⟨.inr ⟨h10, by simp, rfl⟩, hb.alloc hb.size _⟩
        case measure => simp [intOf]; omega
      · have g1 : ((k : Int) / 10 == 0) = true := by
          have : (k : Int) / 10 = 0 := by omega
          simpa using this
        have HD := Lib.hid (H1.out (by omega))
        go_wp2_with fail
        go_ret
        exact ⟨by rw [HD.out]; rfl, hb.alloc hb.size _⟩
    · have HD := Lib.hid (H2.out h10)
      generalize hm : k / 10 = m at HD ⊢
      have hm9 : m < 10 := by omega
      have g1 : ((m : Int) / 10 == 0) = true := by
        have : (m : Int) / 10 = 0 := by omega
        simpa using this
      clear hm H1 H2
      go_wp2_with fail
      go_ret
      exact ⟨by rw [HD.out]; rfl, hb.alloc hb.size _⟩
end Go.Proofs.YtdemmjofggemhaaDoor
