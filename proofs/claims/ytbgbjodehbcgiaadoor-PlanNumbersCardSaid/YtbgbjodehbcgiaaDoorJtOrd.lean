/- The contracts of jointree.Order and of osierref16.Order. -/
import Derived.Test.YtbgbjodehbcgiaaDoorOrderLaw
import Derived.Test.YtbgbjodehbcgiaaDoorBF
import Derived.Laws.AppendOwnNone
namespace Go.Proofs.YtbgbjodehbcgiaaDoor
open Go.RowKit

section
variable {wr : World} {ops : Array Oper} {rest : List Oper} {o : Oper} {a : Act} {Q : Exit → Act → World → Prop}
set_option maxRecDepth 100000 in
/-- A list that a callee has made, appended to one of the call's own. -/
theorem app_own (hgd : o.guard = none) (s x : Operand) (ho : o.op = .call { callee := .builtin .append, args := #[s, x], argTypes := #[39, 39] })
    (base base' : Nat) (v u : Value) (X Y : List Int) (hs : a.eval s = v) (hx : a.eval x = u) (hown : wr.ownsRow base 3 1 v X.length (is X)) (hsrc : wr.ownsRow base' 3 1 u Y.length (is Y))
    (hn : X.length + Y.length ≤ 1000) (hbase : base ≤ wr.heap.size)
    (h : ∀ v' w', w'.ownsRow base 3 1 v' (X ++ Y).length (is (X ++ Y)) → Below base wr w' → wpList Tryd.prog ops Q rest (a.put o.dst v') w') : wpList Tryd.prog ops Q (o :: rest) a wr := by
  obtain ⟨i, hi, hz, hs1, hb1⟩ := info_parts Tryd.info_int
  have hE : is X ++ is Y = is (X ++ Y) := by simp [is]
  obtain ⟨A, c, rfl, _, _, hR, _⟩ := Rd.of_own hsrc
  cases A with
  | none =>
    have hY : Y = [] := by
      cases Y with
      | nil => rfl
      | cons y Y => obtain ⟨_, e, _⟩ := hR 0 (by simp [is]); cases e
    subst hY
    have hc : c = 0 := by
      rcases hsrc.2 with ⟨e, _⟩ | ⟨_, _, _, e, _⟩
      · injection e
      · injection e with e; cases e
    subst hc
    refine wpList_append_own_none hgd s x 39 ho base 3 i 1 Tryd.underlying39 hi v X.length (is X) hs hown hx ?_
    refine h v wr ?_ (Below.refl _ _)
    rw [List.append_nil]; exact hown
  | some ad =>
    refine wpList_append_own_at _ hgd s x 39 ho base 3 i (.int .i64 0) 1 8 Tryd.underlying39 hi hz hs1 hb1 rfl (by decide) v X.length (is X) hs hown ad Y.length c (is Y) hx (by simp) hR.news (is_one Y) (by unfold maxLen; omega) (by omega) hbase ?_
    intro v' w' hown' hg _ _
    refine h v' w' ?_ ((Below.refl _ _).grown hg hbase fun k hk => (hown.lt k hk).1)
    rw [List.length_append, ← hE]; exact hown'
end

/-! ### The reference -/
theorem nat_app (l m : List Nat) : (l ++ m).map Int.ofNat = l.map Int.ofNat ++ m.map Int.ofNat := by simp
theorem preF_len {n : Nat} {p : Nat → Int} (h : Tree n p) (f : Nat) (a : Int) : (preF n p f a).length ≤ n := nodup_len n (pre_nodup h f a) fun _ hx => pre_lt hx
theorem preTo_len {n : Nat} {p : Nat → Int} (h : Tree n p) (f : Nat) (a : Int) {k : Nat} (hk : k ≤ n) : (preTo n p f a k).length ≤ n := by
  have h1 := preF_len h (f + 1) a
  rw [preF_succ] at h1
  have : ∀ m, k ≤ m → (preTo n p f a k).length ≤ (preTo n p f a m).length := by
    intro m
    induction m with
    | zero => intro hm; obtain rfl : k = 0 := by omega
              exact Nat.le_refl _
    | succ m ih =>
      intro hm
      rcases Nat.lt_or_ge m k with c | c
      · obtain rfl : k = m + 1 := by omega
        exact Nat.le_refl _
      · refine Nat.le_trans (ih c) ?_
        by_cases d : p m = a
        · rw [preTo_t d, List.length_append]; omega
        · rw [preTo_f d]; exact Nat.le_refl _
  exact Nat.le_trans (this n hk) h1
end Go.Proofs.YtbgbjodehbcgiaaDoor
