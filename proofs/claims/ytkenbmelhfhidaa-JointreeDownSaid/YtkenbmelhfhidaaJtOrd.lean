/- The contracts of jointree.Order and of osierref16.Order. -/
import Derived.Test.YtkenbmelhfhidaaOrderLaw
import Derived.Test.YtkenbmelhfhidaaJtRoot
import Derived.Laws.AppendOwnNone
namespace Go.Proofs.Ytkenbmelhfhidaa
open Go.RowKit

section
variable {wr : World} {ops : Array Oper} {rest : List Oper} {o : Oper} {a : Act} {Q : Exit → Act → World → Prop}
set_option maxRecDepth 100000 in
/-- A list that a callee has made, appended to one of the call's own. -/
theorem app_own (hgd : o.guard = none) (s x : Operand) (ho : o.op = .call { callee := .builtin .append, args := #[s, x], argTypes := #[25, 25] })
    (base base' : Nat) (v u : Value) (X Y : List Int) (hs : a.eval s = v) (hx : a.eval x = u) (hown : wr.ownsRow base 3 1 v X.length (is X)) (hsrc : wr.ownsRow base' 3 1 u Y.length (is Y))
    (hn : X.length + Y.length ≤ 1000) (hbase : base ≤ wr.heap.size)
    (h : ∀ v' w', w'.ownsRow base 3 1 v' (X ++ Y).length (is (X ++ Y)) → Below base wr w' → wpList Try.prog ops Q rest (a.put o.dst v') w') : wpList Try.prog ops Q (o :: rest) a wr := by
  obtain ⟨i, hi, hz, hs1, hb1⟩ := info_parts Try.info_int
  have hE : is X ++ is Y = is (X ++ Y) := by simp [is]
  obtain ⟨A, c, rfl, _, _, hR, _⟩ := Rd.of_own hsrc
  cases A with
  | none =>
    have hY : Y = [] := by
      cases Y with
      | nil => rfl
      | cons y Y => obtain ⟨_, e, _⟩ := hR 0 (by simp [is]); cases e
    subst hY
    have hc : c = 0 := by
      rcases hsrc.2 with ⟨e, _⟩ | ⟨_, _, _, e, _⟩
      · injection e
      · injection e with e; cases e
    subst hc
    refine wpList_append_own_none hgd s x 25 ho base 3 i 1 Try.underlying25 hi v X.length (is X) hs hown hx ?_
    refine h v wr ?_ (Below.refl _ _)
    rw [List.append_nil]; exact hown
  | some ad =>
    refine wpList_append_own_at _ hgd s x 25 ho base 3 i (.int .i64 0) 1 8 Try.underlying25 hi hz hs1 hb1 rfl (by decide) v X.length (is X) hs hown ad Y.length c (is Y) hx (by simp) hR.news (is_one Y) (by unfold maxLen; omega) (by omega) hbase ?_
    intro v' w' hown' hg _ _
    refine h v' w' ?_ ((Below.refl _ _).grown hg hbase fun k hk => (hown.lt k hk).1)
    rw [List.length_append, ← hE]; exact hown'
end

/-! ### The reference -/
theorem nat_app (l m : List Nat) : (l ++ m).map Int.ofNat = l.map Int.ofNat ++ m.map Int.ofNat := by simp
theorem preF_len {n : Nat} {p : Nat → Int} (h : Tree n p) (f : Nat) (a : Int) : (preF n p f a).length ≤ n := nodup_len n (pre_nodup h f a) fun _ hx => pre_lt hx
theorem preTo_len {n : Nat} {p : Nat → Int} (h : Tree n p) (f : Nat) (a : Int) {k : Nat} (hk : k ≤ n) : (preTo n p f a k).length ≤ n := by
  have h1 := preF_len h (f + 1) a
  rw [preF_succ] at h1
  have : ∀ m, k ≤ m → (preTo n p f a k).length ≤ (preTo n p f a m).length := by
    intro m
    induction m with
    | zero => intro hm; obtain rfl : k = 0 := by omega
              exact Nat.le_refl _
    | succ m ih =>
      intro hm
      rcases Nat.lt_or_ge m k with c | c
      · obtain rfl : k = m + 1 := by omega
        exact Nat.le_refl _
      · refine Nat.le_trans (ih c) ?_
        by_cases d : p m = a
        · rw [preTo_t d, List.length_append]; omega
        · rw [preTo_f d]; exact Nat.le_refl _
  exact Nat.le_trans (this n hk) h1
set_option maxHeartbeats 4000000 in
set_option maxRecDepth 100000 in
theorem under_any (A : Option Addr) (P : List Int) (c : Nat) (d : Nat → Nat) (h7 : P.length ≤ 7) (hT : Tree P.length (pz P)) (hlt : ∀ i, i < P.length → d i < P.length) (hd : ∀ i, i < P.length → 0 ≤ pz P i → d (pz P i).toNat < d i) : ∀ (f : Nat) (a : Int) (w : World), Deep P.length d f a → Rd w w.heap.size A (is P) →
    Calls Try.prog 89 #[.slice A P.length c, .int .i64 a] w fun e w' => ∃ v, e = .returned v ∧ w'.ownsRow w.heap.size 3 1 v (preF P.length (pz P) f a).length (is ((preF P.length (pz P) f a).map Int.ofNat)) ∧ Below w.heap.size w w'
  | 0, a, w, hf, _ => hf.pos.elim
  | f + 1, a, w, hf, hP => by
    have ih := Lib.hid (under_any A P c d h7 hT hlt hd f)
    have HCH := Lib.hid (fun i hi hp => hf.child hd hlt (i := i) hi hp)
    have HTL := Lib.hid (fun k hk => preTo_len hT f a (k := k) hk)
    have HFL := Lib.hid (fun b => preF_len hT f b)
    obtain ⟨i, hi, hz, hs1, hb1⟩ := info_parts Try.info_int
    rw [preF_succ]
    clear hf hT hlt hd
    go_enter Try.func89, Try.ntmps89
    go_wp2_with fail
    go_loopw [5, 6] (fun v x wr => ∃ k : Nat, k ≤ P.length ∧ x = .int .i64 k ∧ wr.ownsRow w.heap.size 3 1 v (preTo P.length (pz P) f a k).length (is ((preTo P.length (pz P) f a k).map Int.ofNat)) ∧ Below w.heap.size w wr) (fun _ x _ => P.length - (intOf x).toNat)
    case atStart => exact ⟨0, Nat.zero_le _, rfl, ⟨rfl, .inl ⟨rfl, rfl⟩⟩, Below.refl _ _⟩
    case round =>
      obtain ⟨k, hk, rfl, hown, hb⟩ := hrel
      by_cases hltk : k < P.length
      · obtain ⟨ad, hA, _, hc⟩ := (hP.later hb).p_at hltk
        have hA0 := hA
        subst hA
        have hl1 := HTL.out k hk
        have HN := Lib.hid (preTo_t (n := P.length) (p := pz P) (f := f) (a := a) (k := k))
        have HNF := Lib.hid (preTo_f (n := P.length) (p := pz P) (f := f) (a := a) (k := k))
        have HC := Lib.hid (HCH.out k hltk)
        generalize pz P k = z at hc HN HNF HC
        have b1 : (0 : Int) ≤ k := by omega
        have b2 : (k : Int) < P.length := by omega
        by_cases hza : z = a
        · subst hza
          have e1 : (z == z) = true := by simp
          have HN2 := Lib.hid (HN.out rfl)
          have HD := Lib.hid (HC.out rfl)
          clear HN HNF HC
          generalize preTo P.length (pz P) f z k = M at hown hl1 HN2
          go_wp2_with ((with_reducible show wpList _ _ _ _ _ _); refine app_int rfl (.tmp 19) (.tmp 21) rfl w.heap.size _ _ (M.map Int.ofNat) k rfl rfl hown (by omega) hb.size ?_)
          intro v' w3 hown3 hb3
          have hB3 := hb.trans hb3
          go_wp2_with fail
          refine (ih.out k w3 HD.out (hP.later hB3)).mono ?_
          rintro e w4 ⟨v4, rfl, hown4, hb4⟩
          have hfl := HFL.out (k : Int)
          have hown3' := own_below hown3 hb4
          have hB4 := bthen hB3 hb4
          generalize preF P.length (pz P) f (k : Int) = N at hown4 hfl HN2
          go_wp2_with ((with_reducible show wpList _ _ _ _ _ _); refine app_own rfl (.tmp 23) (.tmp 26) rfl w.heap.size w3.heap.size _ _ (M.map Int.ofNat ++ [(k : Int)]) (N.map Int.ofNat) rfl rfl (by rw [List.length_append, List.length_map]; exact hown3') (by rw [List.length_map]; exact hown4) (by simp; omega) hB4.size ?_)
          intro v5 w5 hown5 hb5
          have hown6 : w5.ownsRow w.heap.size 3 1 v5 (M ++ k :: N).length (is ((M ++ k :: N).map Int.ofNat)) := by simpa using hown5
          clear hown5
          go_wp2_with fail
          go_roundw
          case rel => exact ⟨k + 1, by omega, by go_num, by rw [HN2.out]; exact hown6, hB4.trans hb5⟩
          case measure => simp [intOf]; omega
        · have e1 : (z == a) = false := by simpa using hza
          have HN2 := Lib.hid (HNF.out hza)
          clear HN HNF HC hza
          go_wp2_with fail
          go_roundw
          case rel => exact ⟨k + 1, by omega, by go_num, by rw [HN2.out]; exact hown, hb⟩
          case measure => simp [intOf]; omega
      · obtain rfl : k = P.length := by omega
        go_wp2_with fail
        go_ret
        exact ⟨_, rfl, hown, hb⟩

set_option maxRecDepth 100000 in
theorem r16order_any (A : Option Addr) (P : List Int) (c : Nat) (w : World) (hl : P.length ≤ 35184372087808) (hP : Rd w w.heap.size A (is P)) :
    Calls Try.prog 48 #[.slice A P.length c] w fun e w' => ∃ v Z code, e = .returned (.tuple #[v, .int .i64 code]) ∧ w'.ownsRow w.heap.size 3 1 v Z.length (is (Z.map Int.ofNat)) ∧ Hid (OrderIs P Z code) ∧ Below w.heap.size w w' := by
  go_enter Try.func48, Try.ntmps48
  go_wp2_with fail
  refine (r16isTree_any A P c w hl hP).mono ?_
  rintro e w0 ⟨rfl, hb0⟩
  have hP0 := hP.later hb0
  cases ht : treeB P
  · have HP : Hid (OrderIs P [] 160) := Lib.hid (.inl ⟨ht, rfl, rfl⟩)
    clear ht
    go_wp2_with fail
    go_ret2
    exact ⟨_, [], _, rfl, ⟨rfl, .inl ⟨rfl, rfl⟩⟩, HP, hb0⟩
  · obtain ⟨h7, hT⟩ := (treeB_iff P).1 ht
    obtain ⟨d, hlt, hd⟩ := hT.low
    have HQ : Hid (OrderIs P (ordL P.length (pz P)) 0) := Lib.hid (.inr ⟨ht, rfl, rfl⟩)
    have HU := Lib.hid (under_any A P c d h7 hT hlt hd (P.length + 2) (-1) w0 (.inl ⟨rfl, by omega⟩) hP0)
    clear ht hT hlt hd
    go_wp2_with fail
    refine HU.out.mono ?_
    rintro e w1 ⟨v, rfl, hown, hb1⟩
    go_wp2_with fail
    go_ret2
    exact ⟨_, _, _, rfl, own_less hown hb0.size, HQ, bthen hb0 hb1⟩
end Go.Proofs.Ytkenbmelhfhidaa
