/- The contract of jointree.Order: the closure that lists what hangs below an edge. -/
import Derived.Test.YtkenbmelhfhidaaJtOrd
import Derived.Laws.EntriesVeiled
namespace Go.Proofs.Ytkenbmelhfhidaa
open Go.RowKit

section
variable {wr : World} {ops : Array Oper} {rest : List Oper} {o : Oper} {a : Act} {Q : Exit → Act → World → Prop}
theorem app_int_g (hgd : o.guard = none) (s x : Operand) (ho : o.op = .call { callee := .builtin .append, args := #[s, x], argTypes := #[25, 25] })
    (base : Nat) (v : Value) (n : Nat) (Z : List Int) (u : Int) (hs : a.eval s = v) (hx : a.eval x = .slice (some ⟨wr.heap.size, 0, none⟩) 1 1) (hown : wr.ownsRow base 3 1 v n (is Z))
    (hn : n + 1 ≤ 2199023255552) (hbase : base ≤ wr.heap.size)
    (h : ∀ v' w', w'.ownsRow base 3 1 v' (n + 1) (is (Z ++ [u])) → wr.grownBy w' v.ownBlock → Below base wr w' → wpList Try.prog ops Q rest (a.put o.dst v') w') : wpList Try.prog ops Q (o :: rest) a (wr.alloc (.cells #[.int .i64 u] 3)) :=
  app_row Try.underlying25 Try.info_int rfl (by decide) (by decide) hgd s x ho base v n (is Z) _ hs hx hown rfl (by simp [Value.oneCell']) hn hbase fun v' w' h1 h2 h3 _ => h v' w' (by rw [is_snoc]; exact h1) h2 h3
end

/-- What the closure's cells hold: the parents, the list so far, the closure itself. -/
structure OrdW (w0 w : World) (base b1 b2 b3 : Nat) (A : Option Addr) (P : List Int) (c : Nat) (M : List Nat) : Prop where
  par : Row w b1 25 [.slice A P.length c]
  out : ∃ v, Row w b2 25 [v] ∧ w.ownsRow base 3 1 v M.length (is (M.map Int.ofNat))
  fn : Row w b3 110 [.func (.func 86) #[] #[.pointer (some ⟨b1, 0, none⟩), .pointer (some ⟨b2, 0, none⟩), .pointer (some ⟨b3, 0, none⟩)]]
  bel : Below base w0 w

theorem OrdW.store {w0 w w' : World} {base b1 b2 b3 : Nat} {A : Option Addr} {P : List Int} {c : Nat} {M N : List Nat} {v v' : Value} (h : OrdW w0 w base b1 b2 b3 A P c M) (hv : Row w b2 25 [v]) (hown : w.ownsRow base 3 1 v M.length (is (M.map Int.ofNat)))
    (hg : w.grownBy w' v.ownBlock) (hb : Below base w w') (hown' : w'.ownsRow base 3 1 v' N.length (is (N.map Int.ofNat))) (h12 : b1 ≠ b2) (hb2 : base ≤ b2) : OrdW w0 (w'.setCell ⟨b2, 0, none⟩ v') base b1 b2 b3 A P c N := by
  have r1 := h.par.grown hg (own_row_ne hown h.par (by decide))
  have r2 := hv.grown hg (own_row_ne hown hv (by decide))
  have r3 := h.fn.grown hg (own_row_ne hown h.fn (by decide))
  have h32 : b3 ≠ b2 := row_ne r3 r2 (by decide)
  refine ⟨r1.far h12 _, ⟨v', r2.set_ 0 v', ?_⟩, r3.far h32 _, (h.bel.trans hb).setCell hb2 _⟩
  exact own_grown hown' (grown_set (grown_below (Below.refl w'.heap.size w') (some b2)) 0 v') fun x hx => by
    injection hx with hx
    subst hx
    exact own_row_ne hown' r2 (by decide)

set_option maxHeartbeats 4000000 in
set_option maxRecDepth 100000 in
theorem ordClosure_any (w0 : World) (base b1 b2 b3 : Nat) (A : Option Addr) (P : List Int) (c : Nat) (d : Nat → Nat) (h7 : P.length ≤ 7) (hT : Tree P.length (pz P)) (hlt : ∀ i, i < P.length → d i < P.length) (hd : ∀ i, i < P.length → 0 ≤ pz P i → d (pz P i).toNat < d i)
    (h12 : b1 ≠ b2) (hbase : base ≤ w0.heap.size) (hb2 : base ≤ b2) (hP : Rd w0 base A (is P)) : ∀ (f : Nat) (a : Int) (w : World) (M : List Nat), M.length ≤ 1000 - 10 * f → f ≤ 50 → Deep P.length d f a → OrdW w0 w base b1 b2 b3 A P c M →
    Calls Try.prog 86 #[.int .i64 a, .pointer (some ⟨b1, 0, none⟩), .pointer (some ⟨b2, 0, none⟩), .pointer (some ⟨b3, 0, none⟩)] w fun e w' => e = .returned (.tuple #[]) ∧ OrdW w0 w' base b1 b2 b3 A P c (M ++ preF P.length (pz P) f a)
  | 0, a, w, M, _, _, hf, _ => hf.pos.elim
  | f + 1, a, w, M, hM, hf50, hf, hO => by
    have ih := Lib.hid (ordClosure_any w0 base b1 b2 b3 A P c d h7 hT hlt hd h12 hbase hb2 hP f)
    have HCH := Lib.hid (fun i hi hp => hf.child hd hlt (i := i) hi hp)
    have HTL := Lib.hid (fun k hk => preTo_len hT f a (k := k) hk)
    have HP := Lib.hid hP
    rw [preF_succ]
    clear hf hT hlt hd hP
    have q1 : w.cell? ⟨b1, 0, none⟩ = some (.slice A P.length c) := hO.par.cell 0
    go_enter Try.func86, Try.ntmps86
    go_wp2_with fail
    go_loopw [9] (fun x wr => ∃ k : Nat, k ≤ P.length ∧ x = .int .i64 k ∧ OrdW w0 wr base b1 b2 b3 A P c (M ++ preTo P.length (pz P) f a k)) (fun x _ => P.length - (intOf x).toNat)
    case atStart => exact ⟨0, Nat.zero_le _, rfl, by rw [preTo_zero, List.append_nil]; exact hO⟩
    case round =>
      obtain ⟨k, hk, rfl, hOk⟩ := hrel
      by_cases hltk : k < P.length
      · obtain ⟨ad, hA, hbl, hc⟩ := (HP.out.below hOk.bel).p_at hltk
        subst hA
        have hl1 := HTL.out k hk
        have HN := Lib.hid (preTo_t (n := P.length) (p := pz P) (f := f) (a := a) (k := k))
        have HNF := Lib.hid (preTo_f (n := P.length) (p := pz P) (f := f) (a := a) (k := k))
        have HC := Lib.hid (HCH.out k hltk)
        generalize pz P k = z at hc HN HNF HC
        have b1' : (0 : Int) ≤ k := by omega
        have b2' : (k : Int) < P.length := by omega
        by_cases hza : z = a
        · subst hza
          have e1 : (z == z) = true := by simp
          have HN2 := Lib.hid (HN.out rfl)
          have HD := Lib.hid (HC.out rfl)
          clear HN HNF HC
          generalize preTo P.length (pz P) f z k = T at hOk hl1 HN2
          obtain ⟨v, hv, hown⟩ := hOk.out
          have q2 : World.cell? wr ⟨b2, 0, none⟩ = some v := hv.cell 0
          have hvl := hv.lt
          go_wp2_with ((with_reducible show wpList _ _ _ _ _ _); refine app_int_g rfl (.tmp 17) (.tmp 19) rfl base v _ ((M ++ T).map Int.ofNat) k rfl (by go_simp) hown (by simp; omega) (Nat.le_trans hbase hOk.bel.size) ?_)
          intro v' w3 hown3 hg3 hb3
          have hown3' : w3.ownsRow base 3 1 v' ((M ++ T) ++ [k]).length (is (((M ++ T) ++ [k]).map Int.ofNat)) := by
            simpa [Nat.add_assoc] using hown3
          have hO4 := hOk.store hv hown hg3 hb3 hown3' h12 hb2
          have hr3 := hv.grown hg3 (own_row_ne hown hv (by decide))
          have c2 : w3.cell? ⟨b2, 0, none⟩ = some v := hr3.cell 0
          have z2 := hr3.frozen 0
          obtain ⟨A5, m5, c5, rfl⟩ : ∃ A m c, v' = .slice A m c := by
            obtain ⟨A, c, h, _⟩ := Rd.of_own hown3'
            exact ⟨A, _, c, h⟩
          clear hown3 hown3' hown hv q2 hr3
          go_upto_region 5 with fail
          generalize World.setCell w3 ⟨b2, 0, none⟩ _ = w4 at hO4 ⊢
          have q3 : w4.cell? ⟨b3, 0, none⟩ = some (.func (.func 86) #[] #[.pointer (some ⟨b1, 0, none⟩), .pointer (some ⟨b2, 0, none⟩), .pointer (some ⟨b3, 0, none⟩)]) := hO4.fn.cell 0
          go_wp2_with fail
          refine (ih.out k w4 (M ++ T ++ [k]) (by simp only [List.length_append, List.length_cons, List.length_nil]; omega) (by omega) HD.out hO4).mono ?_
          rintro e w5 ⟨rfl, hO5⟩
          go_wp2_with fail
          go_roundw
          case rel => exact ⟨k + 1, by omega, by go_num, by rw [HN2.out]; simpa using hO5⟩
          case measure => simp [intOf]; omega
        · have e1 : (z == a) = false := by simpa using hza
          have HN2 := Lib.hid (HNF.out hza)
          clear HN HNF HC hza
          go_wp2_with fail
          go_roundw
          case rel => exact ⟨k + 1, by omega, by go_num, by rw [HN2.out]; exact hOk⟩
          case measure => simp [intOf]; omega
      · obtain rfl : k = P.length := by omega
        go_wp2_with fail
        go_end0
        exact ⟨rfl, hOk⟩

set_option maxHeartbeats 4000000 in
set_option maxRecDepth 100000 in
theorem order_any (A : Option Addr) (P : List Int) (c : Nat) (w : World) (hl : P.length ≤ 35184372087808) (hP : Rd w w.heap.size A (is P)) :
    Calls Try.prog 45 #[.slice A P.length c] w fun e w' => ∃ v Z code, e = .returned (.tuple #[v, .int .i64 code]) ∧ w'.ownsRow w.heap.size 3 1 v Z.length (is (Z.map Int.ofNat)) ∧ Hid (OrderIs P Z code) ∧ Below w.heap.size w w' := by
  go_enter Try.func45, Try.ntmps45
  go_wp2_with fail
  have hb0 := below_alloc w (.cells #[.slice A P.length c] 25)
  refine (isTree_any A P c _ hl (hP.later hb0)).mono ?_
  rintro e w0 ⟨rfl, rfl⟩
  cases ht : treeB P
  · have HP : Hid (OrderIs P [] 160) := Lib.hid (.inl ⟨ht, rfl, rfl⟩)
    clear ht
    go_wp2_with fail
    go_ret2
    exact ⟨_, [], _, rfl, ⟨rfl, .inl ⟨rfl, rfl⟩⟩, HP, hb0⟩
  · obtain ⟨h7, hT⟩ := (treeB_iff P).1 ht
    obtain ⟨d, hlt, hd⟩ := hT.low
    have HQ : Hid (OrderIs P (ordL P.length (pz P)) 0) := Lib.hid (.inr ⟨ht, rfl, rfl⟩)
    have HC := Lib.hid (fun w0 base b1 b2 b3 h12 hbase hb2 hP => ordClosure_any w0 base b1 b2 b3 A P c d h7 hT hlt hd h12 hbase hb2 hP (P.length + 2) (-1))
    clear ht hT hlt hd
    go_upto_region 6 with fail
    have HO : OrdW w ((((w.alloc (.cells #[.slice A P.length c] 25)).alloc (.cells #[.slice none 0 0] 25)).alloc (.cells #[.func (.func 86) #[] #[.pointer (some ⟨w.heap.size, 0, none⟩), .pointer (some ⟨w.heap.size + 1, 0, none⟩), .pointer (some ⟨w.heap.size + 1 + 1, 0, none⟩)]] 110))) w.heap.size w.heap.size (w.heap.size + 1) (w.heap.size + 1 + 1) A P c [] :=
      ⟨((Row.new w 25 [.slice A P.length c]).alloc _).alloc _, ⟨.slice none 0 0, (Row.new_ (xs := [.slice none 0 0]) (by simp)).alloc _, ⟨rfl, .inl ⟨rfl, rfl⟩⟩⟩, Row.new_ (xs := [.func (.func 86) #[] #[.pointer (some ⟨w.heap.size, 0, none⟩), .pointer (some ⟨w.heap.size + 1, 0, none⟩), .pointer (some ⟨w.heap.size + 1 + 1, 0, none⟩)]]) (by simp), (hb0.alloc (by simp) _).alloc (by simp; omega) _⟩
    generalize (((w.alloc (.cells #[.slice A P.length c] 25)).alloc (.cells #[.slice none 0 0] 25)).alloc (.cells #[.func (.func 86) #[] #[.pointer (some ⟨w.heap.size, 0, none⟩), .pointer (some ⟨w.heap.size + 1, 0, none⟩), .pointer (some ⟨w.heap.size + 1 + 1, 0, none⟩)]] 110)) = w3 at HO ⊢
    have q3 : w3.cell? ⟨w.heap.size + 1 + 1, 0, none⟩ = some (.func (.func 86) #[] #[.pointer (some ⟨w.heap.size, 0, none⟩), .pointer (some ⟨w.heap.size + 1, 0, none⟩), .pointer (some ⟨w.heap.size + 1 + 1, 0, none⟩)]) := HO.fn.cell 0
    go_wp2_with fail
    refine (HC.out w w.heap.size _ _ _ (by omega) (Nat.le_refl _) (by omega) hP w3 [] (by simp) (by omega) (.inl ⟨rfl, by omega⟩) HO).mono ?_
    rintro e w4 ⟨rfl, hO4⟩
    obtain ⟨v, hv, hown⟩ := hO4.out
    have q4 : w4.cell? ⟨w.heap.size + 1, 0, none⟩ = some v := hv.cell 0
    go_wp2_with fail
    go_ret2
    exact ⟨_, _, _, rfl, hown, HQ, hO4.bel⟩
end Go.Proofs.Ytkenbmelhfhidaa
