/- plan.order: the Top nodes from a node on down. -/
import Derived.Test.YtdemmjofggemhaaDoorPNode
import Derived.Test.YtdemmjofggemhaaDoorJtOrd
namespace Go.Proofs.YtdemmjofggemhaaDoor
open Go.RowKit

section
variable {wr : World} {ops : Array Oper} {rest : List Oper} {o : Oper} {a : Act} {Q : Exit → Act → World → Prop}
set_option maxRecDepth 100000 in
theorem app_own2 (hgd : o.guard = none) (s x : Operand) (ho : o.op = .call { callee := .builtin .append, args := #[s, x], argTypes := #[28, 28] })
    (base base' : Nat) (v u : Value) (X Y : List Int) (hs : a.eval s = v) (hx : a.eval x = u) (hown : wr.ownsRow base 3 1 v X.length (is X)) (hsrc : wr.ownsRow base' 3 1 u Y.length (is Y))
    (hn : X.length + Y.length ≤ 1000) (hbase : base ≤ wr.heap.size)
    (h : ∀ v' w', w'.ownsRow base 3 1 v' (X ++ Y).length (is (X ++ Y)) → wr.grownBy w' v.ownBlock → (v'.ownBlock = v.ownBlock ∨ ∃ g, v'.ownBlock = some g ∧ wr.heap.size ≤ g) → Below base wr w' → wpList Tryd.prog ops Q rest (a.put o.dst v') w') : wpList Tryd.prog ops Q (o :: rest) a wr := by
  obtain ⟨i, hi, hz, hs1, hb1⟩ := info_parts Tryd.info_int
  have hE : is X ++ is Y = is (X ++ Y) := by simp [is]
  obtain ⟨A, c, rfl, _, _, hR, _⟩ := Rd.of_own hsrc
  cases A with
  | none =>
    have hY : Y = [] := by
      cases Y with
      | nil => rfl
      | cons y Y => obtain ⟨_, e, _⟩ := hR 0 (by simp [is]); cases e
    subst hY
    have hc : c = 0 := by
      rcases hsrc.2 with ⟨e, _⟩ | ⟨_, _, _, e, _⟩
      · injection e
      · injection e with e; cases e
    subst hc
    refine wpList_append_own_none hgd s x 28 ho base 3 i 1 Tryd.underlying28 hi v X.length (is X) hs hown hx ?_
    refine h v wr ?_ ⟨rfl, rfl, rfl, Nat.le_refl _, fun _ _ _ => rfl⟩ (.inl rfl) (Below.refl _ _)
    rw [List.append_nil]; exact hown
  | some ad =>
    refine wpList_append_own_at _ hgd s x 28 ho base 3 i (.int .i64 0) 1 8 Tryd.underlying28 hi hz hs1 hb1 rfl (by decide) v X.length (is X) hs hown ad Y.length c (is Y) hx (by simp) hR.news (is_one Y) (by unfold maxLen; omega) (by omega) hbase ?_
    intro v' w' hown' hg _ hat
    refine h v' w' ?_ hg (hat.imp id fun e => ⟨_, e, Nat.le_refl _⟩) ((Below.refl _ _).grown hg hbase fun k hk => (hown.lt k hk).1)
    rw [List.length_append, ← hE]; exact hown'
end
theorem flat_take_len {α β : Type} (l : List α) (f : α → List β) (k : Nat) : ((l.take k).flatMap f).length ≤ (l.flatMap f).length := by
  have e : l.flatMap f = (l.take k).flatMap f ++ (l.drop k).flatMap f := by rw [← List.flatMap_append, List.take_append_drop]
  rw [e, List.length_append]; omega
theorem flat_take_next {β : Type} (l : List Int) (f : Int → List β) {k : Nat} (h : k < l.length) : (l.take (k + 1)).flatMap f = (l.take k).flatMap f ++ f (pz l k) := by
  rw [← pz_eq l k h]; simp [List.take_add_one]; rw [List.getElem?_eq_getElem h]; simp
set_option maxRecDepth 100000 in
set_option maxHeartbeats 4000000 in
theorem plan_order_any (gp : Nat) (vv vh : Value) (A : Option Addr) (N : List PNd) (c : Nat) (root : Int) (vt : Value) (rank : Nat → Nat)
    (HW : ∀ i, i < N.length → (nd N i).top = true → ∀ x ∈ chl (nd N i), ∃ k : Nat, x = k ∧ k < N.length ∧ rank k < rank i) (HL : ∀ f i, (ordF N f i).length ≤ 450) :
    ∀ (f i : Nat) (w : World), i < N.length → rank i < f → PRow w gp vv vh A N.length c root vt → NdR w w.heap.size A N →
    Calls Tryd.prog 28 #[.pointer (some ⟨gp, 0, none⟩), .int .i64 i] w fun e w' => ∃ v, e = .returned v ∧ w'.ownsRow w.heap.size 3 1 v (ordF N f i).length (is (ordF N f i)) ∧ Below w.heap.size w w'
  | 0, i, w, _, hf, _, _ => absurd hf (Nat.not_lt_zero _)
  | f + 1, i, w, hi, hf, hP, hN => by
    have ih := Lib.hid (plan_order_any gp vv vh A N c root vt rank HW HL f)
    have HCA := Lib.hid (fun w hP hN => children_any gp vv vh A N c root vt i w hi hP hN)
    have HW2 := Lib.hid (HW i hi)
    have HL2 := Lib.hid (HL (f + 1) i)
    have HL3 := Lib.hid (HL f)
    obtain ⟨ad, hA, _, T, cT, _, _, _, _, _, _, _, c6⟩ := hN.cells hi
    subst hA
    have q2 : w.cell? ⟨gp, 2, none⟩ = some (.slice (some ad) N.length c) := Row.cell hP 2
    have a1 : (0 : Int) ≤ i := by omega
    have a2 : (i : Int) < N.length := by omega
    have hcl := chl_len (nd N i)
    have HO : Hid (ordF N (f + 1) (i : Int) = if (nd N i).top = true then (i : Int) :: (chl (nd N i)).flatMap (ordF N f) else []) := Lib.hid rfl
    clear HW HL
    generalize ordF N (f + 1) (i : Int) = R at HO HL2 ⊢
    generalize chl (nd N i) = C at HCA HW2 HO hcl
    generalize (nd N i).top = t at c6 HW2 HO
    go_enter Tryd.func28, Tryd.ntmps28
    cases t
    · have e : R = [] := HO.out
      go_wp2_with fail
      go_ret
      subst e
      exact ⟨_, rfl, World.ownsRow_nil _ _ _ _, Below.refl _ _⟩
    · have e : R = (i : Int) :: C.flatMap (ordF N f) := HO.out
      have HW3 := Lib.hid (HW2.out rfl)
      clear HO HW2
      have hb0 := below_alloc w (.cells #[.int .i64 i] 3)
      have ho0 : (w.alloc (.cells #[.int .i64 i] 3)).ownsRow w.heap.size 3 1 (.slice (some ⟨w.heap.size, 0, none⟩) 1 1) [(i : Int)].length (is [(i : Int)]) := Row.own (Row.new_ (xs := is [(i : Int)]) rfl) (Nat.le_refl _) (by simp [maxLen])
      have hP0 := Row.later hP hb0
      have hN0 := hN.later hb0
      have HCB := Lib.hid (HCA.out _ hP0 hN0)
      go_upto_region 4 with fail
      generalize w.alloc _ = w0 at hb0 ho0 hP0 hN0 HCB ⊢
      clear HCA c6 q2
      go_wp2_with fail
      refine HCB.out.mono ?_
      rintro e w1 ⟨v, rfl, hoc, hb1⟩
      obtain ⟨AC, cC, rfl, _, _, _, hCb⟩ := Rd.of_own hoc
      have hB1 := hb0.trans (hb1.mono hb0.size)
      have ho1 := own_below ho0 hb1
      have hP1 := Row.later hP0 hb1
      have hN1 := hN0.later hb1
      have hdis : ∀ g, (Value.slice AC C.length cC).ownBlock = some g → (Value.slice (some ⟨w.heap.size, 0, none⟩) 1 1).ownBlock ≠ some g := fun g hg c => by
        have h1 := (hoc.lt g hg).1
        have h2 := (ho0.lt g c).2
        omega
      clear hb0 hb1 hP0 hN0 HCB ho0
      go_wp2_with fail
      go_loopw [5, 7, 23] (fun o _ x wr => ∃ k : Nat, k ≤ C.length ∧ x = .int .i64 k ∧ wr.ownsRow w.heap.size 3 1 o ((i : Int) :: (C.take k).flatMap (ordF N f)).length (is ((i : Int) :: (C.take k).flatMap (ordF N f))) ∧ wr.ownsRow w0.heap.size 3 1 (.slice AC C.length cC) C.length (is C) ∧ (∀ g, (Value.slice AC C.length cC).ownBlock = some g → o.ownBlock ≠ some g) ∧ Below w.heap.size w wr) (fun _ _ x _ => C.length - (intOf x).toNat)
      case atStart => exact ⟨0, Nat.zero_le _, rfl, ho1, hoc, hdis, hB1⟩
      case round =>
        obtain ⟨k, hk, rfl, hown, hoc', hd, hb⟩ := hrel
        by_cases hlt : k < C.length
        · obtain ⟨ad', hA', _, hc⟩ := (Rd.of_own' hoc').p_at hlt
          subst hA'
          have HNX := Lib.hid (flat_take_next C (ordF N f) hlt)
          obtain ⟨m, hm, hmN, hmr⟩ := HW3.out (pz C k) (by rw [← pz_eq C k hlt]; exact List.getElem_mem _)
          rw [hm] at hc HNX
          have b1 : (0 : Int) ≤ k := by omega
          have b2 : (k : Int) < C.length := by omega
          have hPr : PRow wr gp vv vh (some ad) N.length c root vt := Row.later hP hb
          have hNr : NdR wr wr.heap.size (some ad) N := hN.later hb
          have HIH := Lib.hid (ih.out m wr hmN (by omega) hPr hNr)
          have hl3 := HL3.out (m : Int)
          clear hm
          have HLX : Hid (((C.take k).flatMap (ordF N f)).length ≤ 450) := Lib.hid (by have h1 := flat_take_len C (ordF N f) k; have h2 := HL2.out; rw [e, List.length_cons] at h2; omega)
          generalize (C.take k).flatMap (ordF N f) = X at hown HNX HLX
          generalize ordF N f (m : Int) = Y at HIH hl3 HNX
          go_wp2_with fail
          refine HIH.out.mono ?_
          rintro e w4 ⟨v4, rfl, hown4, hb4⟩
          have hown' := own_below hown hb4
          have hoc4 := own_below hoc' hb4
          have hB4 := bthen hb hb4
          have hlx := HLX.out
          go_wp2_with ((with_reducible show wpList _ _ _ _ _ _); refine app_own2 rfl (.tmp 27) (.tmp 30) rfl w.heap.size wr.heap.size _ _ ((i : Int) :: X) Y rfl rfl hown' hown4 (by simp; omega) hB4.size ?_)
          intro v5 w5 hown5 hg5 hat5 hb5
          have hoc5 := own_grown hoc4 hg5 (fun q hq hq2 => hd q hq2 hq)
          have hd5 : ∀ q, (Value.slice (some ad') C.length cC).ownBlock = some q → v5.ownBlock ≠ some q := fun q hq c => by
            rcases hat5 with e5 | ⟨z, e5, hz⟩
            · exact hd q hq (by rw [← e5]; exact c)
            · rw [e5] at c
              injection c with c
              have := (hoc4.lt q hq).2
              omega
          go_wp2_with fail
          go_roundw
          case rel => exact ⟨k + 1, by omega, by go_num, by rw [HNX.out]; simpa using hown5, hoc5, hd5, hB4.trans hb5⟩
          case measure => simp [intOf]; omega
        · obtain rfl : k = C.length := by omega
          rw [List.take_length] at hown
          go_wp2_with fail
          go_ret
          subst e
          exact ⟨_, rfl, hown, hb⟩
end Go.Proofs.YtdemmjofggemhaaDoor
