/- The contract of hyper.Of. -/
import Derived.Test.YtdemmjofggemhaaDoorBS
import Derived.Test.YtdemmjofggemhaaDoorBQ
namespace Go.Proofs.YtdemmjofggemhaaDoor
open Go.RowKit
attribute [local go_sem ↓] uz_and uz_or uz_andNot uz_and_one uz_shr uz_shl_one uz_shl uz_sub uz_sub_one uz_add uz_beq_zero uz_bne_zero uz_beq uz_bne uz_beq_one

theorem setOf_take {vars names : List ByteArray} (h : vars.length ≤ 32) (hn : vars.Nodup) {k i : Nat} (hk : k < names.length) (hi : i < vars.length) (hx : nm vars i = nm names k) : setOf vars (names.take (k + 1)) = setOf vars (names.take k) ||| 1#32 <<< i := by
  rw [take_snoc names k hk, nm_eq names k hk]
  exact setOf_snoc h hn hi hx
set_option maxHeartbeats 4000000 in
set_option maxRecDepth 100000 in
theorem ofSet_any (AV : Option Addr) (vars : List ByteArray) (cV b : Nat) (A : Option Addr) (names : List ByteArray) (c : Nat) (w : World) (h32 : vars.length ≤ 32) (hnd : vars.Nodup) (hl : names.length ≤ 35184372087808) (hin : ∀ x ∈ names, x ∈ vars)
    (hb : w.cell? ⟨b, 0, none⟩ = some (.slice AV vars.length cV)) (hV : Rd w w.heap.size AV (ss vars)) (hN : Rd w w.heap.size A (ss names)) :
    Calls Tryd.prog 38 #[.slice A names.length c, .pointer (some ⟨b, 0, none⟩)] w fun e w' => e = .returned (.int .u32 (uz (setOf vars names))) ∧ w = w' := by
  have HI := Lib.hid (fun x => index_any AV vars cV x w (by omega) hV)
  have hz := setOf_nil vars h32
  go_enter Tryd.func38, Tryd.ntmps38
  go_wp2_with fail
  go_loop [4, 9] (fun s i => ∃ k : Nat, k ≤ names.length ∧ i = .int .i64 k ∧ s = .int .u32 (uz (setOf vars (names.take k)))) (fun _ i => names.length - (intOf i).toNat)
  case atStart => exact ⟨0, Nat.zero_le _, rfl, by rw [List.take_zero, hz]; rfl⟩
  case round =>
    obtain ⟨k, hk, rfl, rfl⟩ := hrel
    by_cases hlt : k < names.length
    · obtain ⟨ad, hA, _, hc⟩ := hN.s_at hlt
      subst hA
      have b1 : (0 : Int) ≤ k := by omega
      have b2 : (k : Int) < names.length := by omega
      obtain ⟨i, hi, hil, hin2, _⟩ := atI_mem (hin _ (nm_mem names k hlt))
      have HS := Lib.hid (setOf_take (names := names) h32 hnd hlt hil hin2)
      have HX : Hid (Calls Tryd.prog 26 #[.slice AV vars.length cV, .string (nm names k)] w fun e w' => e = .returned (.int .i64 (i : Int)) ∧ w = w') := Lib.hid (by
        have := HI.out (nm names k)
        rwa [hi] at this)
      have b3 : (0 : Int) ≤ i := by omega
      clear hi hin2
      generalize nm names k = y at hc HX
      generalize setOf vars (names.take k) = s0 at HS ⊢
      go_wp2_with fail
      refine HX.out.mono ?_
      rintro e w' ⟨rfl, rfl⟩
      go_wp2_with fail
      go_round
      case rel => exact ⟨k + 1, by omega, by go_num, by rw [HS.out]⟩
      case measure => simp [intOf]; omega
    · obtain rfl : k = names.length := by omega
      go_wp2_with fail
      go_ret
      exact ⟨by first | rfl | (rw [List.take_length]; rfl), by first | rfl | trivial⟩
theorem own_own_ne {w : World} {b b' : Nat} {e e' : TypeId} {s s' n n' : Nat} {v v' : Value} {xs ys : List Value} (h : w.ownsRow b e s v n xs) (h' : w.ownsRow b' e' s' v' n' ys) (hne : e ≠ e') : ∀ g, v.ownBlock = some g → v'.ownBlock ≠ some g := by
  intro g h1 h2
  rcases h.2 with ⟨rfl, _⟩ | ⟨g1, cap, cur, rfl, _, hh, _⟩
  · simp [Value.ownBlock] at h1
  · rcases h'.2 with ⟨rfl, _⟩ | ⟨g2, cap2, cur2, rfl, _, hh2, _⟩
    · simp [Value.ownBlock] at h2
    · have e1 : g1 = g := by simpa [Value.ownBlock] using h1
      have e2 : g2 = g := by simpa [Value.ownBlock] using h2
      subst e1
      subst e2
      rw [hh] at hh2
      injection hh2 with hh2
      injection hh2 with _ ht
      exact hne ht
section
variable {wr : World} {ops : Array Oper} {o : Oper} {ac : Act} {K : Act → World → Prop} {Q : Exit → Act → World → Prop} {F : Prop}
theorem grown_alloc9' {w w' : World} {o : Obj} {r : Option Nat} (h : (w.alloc o).grownBy w' r) : w.grownBy w' r :=
  ⟨h.os, h.tape, h.output, by have := h.size; simp at this; omega, fun k hk hne => (h.block k (by simp; omega) hne).trans (Below.heap_alloc w o k hk)⟩
set_option maxRecDepth 100000 in
theorem step_word (hgd : o.guard = none) (s x : Operand) (ho : o.op = .call { callee := .builtin .append, args := #[s, x], argTypes := #[59, 59] })
    (base : Nat) (v : Value) (n : Nat) (E : List (BitVec 32)) (y : BitVec 32) (hs : ac.eval s = v) (hx : ac.eval x = .slice (some ⟨wr.heap.size, 0, none⟩) 1 1) (hown : wr.ownsRow base 62 1 v n (us E))
    (hn : n ≤ 1000) (hbase : base ≤ wr.heap.size)
    (h : ∀ A' c' w', w'.ownsRow base 62 1 (.slice A' (n + 1) c') (n + 1) (us (E ++ [y])) → wr.grownBy w' v.ownBlock → Below base wr w' → K (ac.put o.dst (.slice A' (n + 1) c')) w') :
    if Region.wanted o (yielded ops ac.tmps) = true then Oper.wp Tryd.prog o ac (wr.alloc (.cells #[.int .u32 (uz y)] 62)) K Q else F := by
  refine step_app_src Tryd.underlying59 Tryd.info_u32 rfl (by decide) hgd s x ho base v n (us E) (some ⟨wr.heap.size, 0, none⟩) 1 1 [.int .u32 (uz y)] hs hx (hown.alloc _) rfl (Row.rd (Row.new wr 62 [.int .u32 (uz y)])) (fun z => by cases z) (by simp [Value.oneCell']) (by omega) (by omega) (by simp; omega) ?_
  intro v' w' hown' hgr hb' _
  obtain ⟨A', c', rfl, -⟩ := Rd.of_ownS hown'
  exact h A' c' w' (by rw [us_snoc]; exact hown') (grown_alloc9' hgr) (((Below.refl _ _).alloc hbase _).trans hb')
end

theorem below_undrew9' {w w' : World} (h : Below w.drew.heap.size w.drew w') : Below w.heap.size w w' := ⟨h.os, h.tape, h.output, h.size, h.block⟩
theorem Rd.of_own' {w : World} {base : Nat} {e : TypeId} {A : Option Addr} {n m c : Nat} {xs : List Value} (h : w.ownsRow base e 1 (.slice A n c) m xs) : Rd w w.heap.size A xs := by
  obtain ⟨A1, c1, e1, _, _, hR, _⟩ := Rd.of_own h
  injection e1 with e1
  subst e1
  exact hR
/-- The sets of the first k atoms. -/
def ofTo (vars : List ByteArray) (xs : List Am) (k : Nat) : List (BitVec 32) := (xs.take k).map fun a => setOf vars (avars a.terms)
theorem ofTo_next (vars : List ByteArray) (xs : List Am) (k : Nat) (hk : k < xs.length) : ofTo vars xs (k + 1) = ofTo vars xs k ++ [setOf vars (avars (am xs k).terms)] := by
  unfold ofTo
  rw [take_snoc xs k hk, List.map_append, am_eq xs k hk]; rfl

set_option maxHeartbeats 16000000 in
set_option maxRecDepth 100000 in
theorem of_any (q : Qy) (AH : Option Addr) (cH : Nat) (AA : Option Addr) (cA : Nat) (w : World) (hq : SzQ q) (hcap : q.head.length ≤ cH) (hH : Rd w w.heap.size AH (ss q.head)) (hA : Ats w w.heap.size AA q.atoms) :
    Calls Tryd.prog 17 #[.agg #[.string q.name, .slice AH q.head.length cH, .slice AA q.atoms.length cA]] w fun e w' => ∃ V v E h code, e = .returned (.tuple #[.agg #[.int .i64 V, v], .int .u32 (uz h), .int .i64 code]) ∧ w'.ownsRow w.heap.size 62 1 v E.length (us E) ∧ Hid (OfIs q V E h code) ∧ Below w.heap.size w w' := by
  go_enter Tryd.func17, Tryd.ntmps17
  go_wp2_with fail
  have hb0 : Below w.heap.size w ((w.alloc (.cells #[.string q.name, .slice AH q.head.length cH, .slice AA q.atoms.length cA] 25)).alloc (.cells #[.int .i64 0, .slice none 0 0] 61)) := (below_alloc w _).alloc (by simp) _
  have hQ0 : Row ((w.alloc (.cells #[.string q.name, .slice AH q.head.length cH, .slice AA q.atoms.length cA] 25)).alloc (.cells #[.int .i64 0, .slice none 0 0] 61)) w.heap.size 25 [.string q.name, .slice AH q.head.length cH, .slice AA q.atoms.length cA] := (Row.new w _ _).alloc _
  have hR0 : Row ((w.alloc (.cells #[.string q.name, .slice AH q.head.length cH, .slice AA q.atoms.length cA] 25)).alloc (.cells #[.int .i64 0, .slice none 0 0] 61)) (w.heap.size + 1) 61 [.int .i64 0, .slice none 0 0] := Row.new_ (by simp)
  generalize (w.alloc _).alloc _ = w0 at hb0 hQ0 hR0 ⊢
  refine (shape_any q AH cH AA cA w0 hq hcap (hH.later hb0) (hA.later hb0)).mono ?_
  rintro e w1 ⟨rfl, hb1⟩
  have hB1 := bthen hb0 hb1
  have hQ1 := hQ0.later hb1
  have hR1 := hR0.later hb1
  clear hb0 hb1 hQ0 hR0
  have d0 : w1.cell? ⟨w.heap.size + 1, 0, none⟩ = some (.int .i64 0) := hR1.cell 0
  have d1 : w1.cell? ⟨w.heap.size + 1, 1, none⟩ = some (.slice none 0 0) := hR1.cell 1
  have f0 := hR1.frozen 0
  have f1 := hR1.frozen 1
  have hlt1 := hR1.lt
  by_cases hs : shapeC q = 0
  · have HG := Lib.hid (shapeC_iff.1 hs)
    have e0 : (shapeC q != 0) = false := by simp [hs]
    have HOK : Hid (∀ V E h, V = ((qvars q.atoms).length : Int) → E = ofE q → h = headW q → OfIs q V E h 0) := Lib.hid fun V E h h1 h2 h3 => .inr ⟨hs, h1, h2, h3, rfl⟩
    have h6 := HG.out.few
    have h5 := HG.out.narrow
    have hvl := qvars_length h5 h6
    have hnd := qvars_nodup q.atoms
    have HHD : Hid (∀ x ∈ q.head, x ∈ qvars q.atoms) := Lib.hid HG.out.safe
    have HAV : Hid (∀ a ∈ q.atoms, ∀ x ∈ avars a.terms, x ∈ qvars q.atoms) := Lib.hid fun a ha x hx => avars_sub ha hx
    have HE : Hid (ofE q = ofTo (qvars q.atoms) q.atoms q.atoms.length) := Lib.hid (by unfold ofE ofTo; rw [List.take_length])
    have HW : Hid (headW q = setOf (qvars q.atoms) q.head) := Lib.hid rfl
    obtain ⟨vars, hvars⟩ : ∃ vars, qvars q.atoms = vars := ⟨_, rfl⟩
    have HQV := Lib.hid (qvars_any q.name AH q.head.length cH AA q.atoms cA w1 h6 h5 (hA.later hB1))
    rw [hvars] at HOK hvl hnd HHD HAV HE HW HQV
    clear hvars hs HG
    have q0 : w1.cell? ⟨w.heap.size, 0, none⟩ = some (.string q.name) := hQ1.cell 0
    have q1 : w1.cell? ⟨w.heap.size, 1, none⟩ = some (.slice AH q.head.length cH) := hQ1.cell 1
    have q2 : w1.cell? ⟨w.heap.size, 2, none⟩ = some (.slice AA q.atoms.length cA) := hQ1.cell 2
    go_wp2_with fail
    refine HQV.out.mono ?_
    rintro e w2 ⟨v2, rfl, hown2, hb2⟩
    obtain ⟨AV, cV, rfl, _, _, _, _⟩ := Rd.of_own hown2
    have hB2 := bthen hB1 hb2
    have hQ2 := hQ1.later hb2
    have hR2 := hR1.later hb2
    have hown2' := own_less hown2 hB1.size
    clear q0 q1 q2 HQV d0 d1 f0 f1 hlt1 hown2 hb2 hB1 hQ1 hR1
    go_upto_region 5 with fail
    have hb3 := below_alloc w2 (.cells #[.slice AV vars.length cV] 22)
    have hV3 : Row (w2.alloc (.cells #[.slice AV vars.length cV] 22)) w2.heap.size 22 [.slice AV vars.length cV] := Row.new _ _ _
    have hB3 := bthen hB2 hb3
    have hQ3 := hQ2.later hb3
    have hR3 := hR2.later hb3
    have hown3 := own_below hown2' hb3
    have hgv : w.heap.size + 1 < w2.heap.size := hR2.lt
    generalize w2.heap.size = gv at hV3 hgv ⊢
    generalize w2.alloc _ = w3 at hV3 hB3 hQ3 hR3 hown3 ⊢
    clear hb3 hB2 hQ2 hR2 hown2'
    have v0 : w3.cell? ⟨gv, 0, none⟩ = some (.slice AV vars.length cV) := hV3.cell 0
    have q2 : w3.cell? ⟨w.heap.size, 2, none⟩ = some (.slice AA q.atoms.length cA) := hQ3.cell 2
    have f0 := hR3.frozen 0
    have d0 : w3.cell? ⟨w.heap.size + 1, 0, none⟩ = some (.int .i64 0) := hR3.cell 0
    have hlt3 := hR3.lt
    have hlq3 := hQ3.lt
    go_upto_region 7 with fail
    have hR4 := hR3.set_ 0 (.int .i64 (vars.length : Int))
    have hQ4 := hQ3.far (p := ⟨w.heap.size + 1, 0, none⟩) (by simp) (.int .i64 (vars.length : Int))
    have hV4 := hV3.far (p := ⟨w.heap.size + 1, 0, none⟩) (by simp; omega) (.int .i64 (vars.length : Int))
    have hown4 := own_grown hown3 (grown_set9 (grown_below9 (Below.refl w3.heap.size w3) (some (w.heap.size + 1))) 0 (.int .i64 (vars.length : Int))) fun x hx => by
      injection hx with hx
      subst hx
      exact own_row_ne hown3 hR3 (by decide)
    have hB4 : Below w.heap.size w (w3.setCell ⟨w.heap.size + 1, 0, none⟩ (.int .i64 (vars.length : Int))) := hB3.setCell (by simp) _
    clear v0 q2 f0 d0 hlt3 hlq3 hR3 hQ3 hV3 hown3 hB3
    generalize w3.setCell _ _ = w4 at hR4 hQ4 hV4 hown4 hB4 ⊢
    have q2 : w4.cell? ⟨w.heap.size, 2, none⟩ = some (.slice AA q.atoms.length cA) := hQ4.cell 2
    go_wp2_with fail
    clear q2
    go_loopw [25] (fun i wr => ∃ (k : Nat) (A : Option Addr) (c : Nat), k ≤ q.atoms.length ∧ i = .int .i64 k ∧ Row wr (w.heap.size + 1) 61 [.int .i64 (vars.length : Int), .slice A k c] ∧ Row wr w.heap.size 25 [.string q.name, .slice AH q.head.length cH, .slice AA q.atoms.length cA] ∧ Row wr gv 22 [.slice AV vars.length cV] ∧ wr.ownsRow w.heap.size 9 1 (.slice AV vars.length cV) vars.length (ss vars) ∧ wr.ownsRow w.heap.size 62 1 (.slice A k c) k (us (ofTo vars q.atoms k)) ∧ Below w.heap.size w wr) (fun i _ => q.atoms.length - (intOf i).toNat)
    case atStart => exact ⟨0, none, 0, Nat.zero_le _, rfl, hR4, hQ4, hV4, hown4, World.ownsRow_nil _ _ _ _, hB4⟩
    case round =>
      clear hR4 hQ4 hV4 hown4 hB4
      obtain ⟨k, A, c, hk, rfl, hR, hQ, hV, hov, hoE, hB⟩ := hrel
      by_cases hlt : k < q.atoms.length
      · obtain ⟨ad, hAd, _, hc, T, cT, hc1, hT, _⟩ := (hA.later hB) k hlt
        subst hAd
        have b1 : (0 : Int) ≤ k := by omega
        have b2 : (k : Int) < q.atoms.length := by omega
        have ham := am_mem q.atoms k hlt
        have hfew := h5 _ ham
        have HIN := Lib.hid (HAV.out _ ham)
        have HNX := Lib.hid (ofTo_next vars q.atoms k hlt)
        clear ham
        generalize am q.atoms k = a at hc hc1 hT hfew HIN HNX
        generalize ofTo vars q.atoms k = E at hoE HNX
        go_upto_region 10 with fail
        have hb5 := below_alloc wr (.cells #[.string a.rel, .slice T a.terms.length cT] 47)
        have hA5 : Row (wr.alloc (.cells #[.string a.rel, .slice T a.terms.length cT] 47)) wr.heap.size 47 [.string a.rel, .slice T a.terms.length cT] := Row.new _ _ _
        have hR5 := hR.later hb5
        have hQ5 := hQ.later hb5
        have hV5 := hV.later hb5
        have hov5 := own_below hov hb5
        have hoE5 := own_below hoE hb5
        have hT5 := hT.later hb5
        have hB5 := hB.trans (hb5.mono hB.size)
        generalize wr.heap.size = ga at hA5 ⊢
        generalize wr.alloc _ = w5 at hA5 hR5 hQ5 hV5 hov5 hoE5 hT5 hB5 ⊢
        clear hb5 hR hQ hV hov hoE hT hB hc hc1
        have a0 : w5.cell? ⟨ga, 0, none⟩ = some (.string a.rel) := hA5.cell 0
        have a1 : w5.cell? ⟨ga, 1, none⟩ = some (.slice T a.terms.length cT) := hA5.cell 1
        have r1 : w5.cell? ⟨w.heap.size + 1, 1, none⟩ = some (.slice A k c) := hR5.cell 1
        have HVC : Hid (Calls Tryd.prog 39 #[.agg #[.string a.rel, .slice T a.terms.length cT]] w5.drew fun e w' => ∃ AM cM, e = .returned (.slice AM (avars a.terms).length cM) ∧ Rd w' w'.heap.size AM (ss (avars a.terms)) ∧ Below w5.heap.size w5 w') := Lib.hid (by
          refine (atomVars_any a.rel T a.terms cT w5.drew (by omega) (show Rd w5.drew w5.drew.heap.size T (tms a.terms) from hT5)).mono ?_
          rintro e w' ⟨v, rfl, hown, hb⟩
          obtain ⟨AM, cM, rfl, _, _, hRd, _⟩ := Rd.of_own hown
          exact ⟨AM, cM, rfl, hRd, below_undrew9' hb⟩)
        have hml := avars_length a.terms
        generalize avars a.terms = M at HVC HIN HNX hml
        have HSET : Hid (∀ (AM : Option Addr) (cM : Nat) (y : World), Row y gv 22 [.slice AV vars.length cV] → Rd y y.heap.size AV (ss vars) → Rd y y.heap.size AM (ss M) → Calls Tryd.prog 38 #[.slice AM M.length cM, .pointer (some ⟨gv, 0, none⟩)] y fun e w' => e = .returned (.int .u32 (uz (setOf vars M))) ∧ y = w') := Lib.hid fun AM cM y h1 h2 h3 => ofSet_any AV vars cV gv AM M cM y (by omega) hnd (by omega) HIN.out (h1.cell 0) h2 h3
        go_region_law (first
          | (go_simp; go_at_call 39; refine HVC.out.mono ?_; rintro e w6 ⟨AM, cM, rfl, hM6, hb6⟩; have hR6 := hR5.later hb6; have hQ6 := hQ5.later hb6; have hV6 := hV5.later hb6; have hov6 := own_below hov5 hb6; have hoE6 := own_below hoE5 hb6; have hB6 := hB5.trans (hb6.mono hB5.size); have r1 : w6.cell? ⟨w.heap.size + 1, 1, none⟩ = some (.slice A k c) := hR6.cell 1; have r2 := hR6.frozen 1; have r3 := hR6.lt; have hRV6 := Rd.of_own' hov6)
          | (go_simp; go_at_call 38; refine (HSET.out AM cM w6 hV6 hRV6 hM6).mono ?_; rintro e w' ⟨rfl, rfl⟩)
          | (refine step_word (wr := w6) rfl (.tmp 30) (.tmp 35) rfl w.heap.size (.slice A k c) k E (setOf vars M) (by first | rfl | go_simp) (by first | rfl | go_simp) hoE6 (by omega) hB6.size ?_; intro A' c' w7 hoE7 hgr7 hb7; have hR7 := hR6.grown hgr7 (own_row_ne hoE6 hR6 (by decide)); have s1 : w7.cell? ⟨w.heap.size + 1, 1, none⟩ = some (.slice A k c) := hR7.cell 1; have s2 := hR7.frozen 1; have s3 := hR7.lt))
        all_goals
          have hQ7 := hQ6.grown hgr7 (own_row_ne hoE6 hQ6 (by decide))
          have hV7 := hV6.grown hgr7 (own_row_ne hoE6 hV6 (by decide))
          have hov7 := own_grown hov6 hgr7 (own_own_ne hoE6 hov6 (by decide))
          have hR8 := hR7.set_ 1 (.slice A' (k + 1) c')
          have hQ8 := hQ7.far (p := ⟨w.heap.size + 1, 1, none⟩) (by simp) (.slice A' (k + 1) c')
          have hV8 := hV7.far (p := ⟨w.heap.size + 1, 1, none⟩) (by simp; omega) (.slice A' (k + 1) c')
          have hov8 := own_grown hov7 (grown_set9 (grown_below9 (Below.refl w7.heap.size w7) (some (w.heap.size + 1))) 1 (.slice A' (k + 1) c')) fun x hx => by
            injection hx with hx
            subst hx
            exact own_row_ne hov7 hR7 (by decide)
          have hoE8 := own_grown hoE7 (grown_set9 (grown_below9 (Below.refl w7.heap.size w7) (some (w.heap.size + 1))) 1 (.slice A' (k + 1) c')) fun x hx => by
            injection hx with hx
            subst hx
            exact own_row_ne hoE7 hR7 (by decide)
          have hB8 : Below w.heap.size w (w7.setCell ⟨w.heap.size + 1, 1, none⟩ (.slice A' (k + 1) c')) := (hB6.trans hb7).setCell (by simp) _
          rw [← HNX.out] at hoE8
          clear hA5 hR5 hQ5 hV5 hov5 hoE5 hT5 hB5 a0 a1 r1 HVC HSET hM6 hb6 hR6 hQ6 hV6 hov6 hoE6 hB6 r2 r3 hRV6 hoE7 hgr7 hb7 hR7 s1 s2 s3 hQ7 hV7 hov7
          generalize w7.setCell _ _ = w8 at hR8 hQ8 hV8 hov8 hoE8 hB8 ⊢
          go_wp2_with fail
          go_roundw
          case rel => exact ⟨k + 1, A', c', by omega, by go_num, hR8, hQ8, hV8, hov8, hoE8, hB8⟩
          case measure => simp [intOf]; omega
      · obtain rfl : k = q.atoms.length := by omega
        have q1 : wr.cell? ⟨w.heap.size, 1, none⟩ = some (.slice AH q.head.length cH) := hQ.cell 1
        have r0 : wr.cell? ⟨w.heap.size + 1, 0, none⟩ = some (.int .i64 (vars.length : Int)) := hR.cell 0
        have r1 : wr.cell? ⟨w.heap.size + 1, 1, none⟩ = some (.slice A q.atoms.length c) := hR.cell 1
        have r2 := hR.frozen 0
        have r3 := hR.frozen 1
        have r4 := hR.lt
        have hfh := hq.few
        have HSH : Hid (Calls Tryd.prog 38 #[.slice AH q.head.length cH, .pointer (some ⟨gv, 0, none⟩)] wr.drew fun e w' => e = .returned (.int .u32 (uz (setOf vars q.head))) ∧ wr.drew = w') := Lib.hid (ofSet_any AV vars cV gv AH q.head cH wr.drew (by omega) hnd (by omega) HHD.out (hV.drew.cell 0) (show Rd wr.drew wr.drew.heap.size AV (ss vars) from Rd.of_own' hov) (show Rd wr.drew wr.drew.heap.size AH (ss q.head) from (hH.later hB : Rd wr wr.heap.size AH (ss q.head))))
        have HX := Lib.hid (HOK.out _ _ _ rfl HE.out.symm HW.out.symm)
        go_upto_region 12 with fail
        go_region_law (first
          | (go_simp; go_at_call 38; refine HSH.out.mono ?_; rintro e w' ⟨rfl, rfl⟩))
        all_goals
          have hF := (hR.set_ 0 (.int .i64 (vars.length : Int))).set_ 1 (.slice A q.atoms.length c)
          have hoF := own_grown hoE (grown_set9 (grown_set9 (grown_below9 (Below.refl wr.heap.size wr) (some (w.heap.size + 1))) 0 (.int .i64 (vars.length : Int))) 1 (.slice A q.atoms.length c)) fun x hx => by
            injection hx with hx
            subst hx
            exact own_row_ne hoE hR (by decide)
          have hBF : Below w.heap.size w ((wr.setCell ⟨w.heap.size + 1, 0, none⟩ (.int .i64 (vars.length : Int))).setCell ⟨w.heap.size + 1, 1, none⟩ (.slice A q.atoms.length c)) := (hB.setCell (by simp) _).setCell (by simp) _
          go_wp2_with fail
          generalize (wr.setCell _ _).setCell _ _ = wf at hF hoF hBF ⊢
          have z0 : wf.drew.cell? ⟨w.heap.size + 1, 0, none⟩ = some (.int .i64 (vars.length : Int)) := hF.drew.cell 0
          have z1 : wf.drew.cell? ⟨w.heap.size + 1, 1, none⟩ = some (.slice A q.atoms.length c) := hF.drew.cell 1
          have hoG := own_below hoF (Below.refl wf.heap.size wf).drew
          have hBG := hBF.drew
          refine bodyPost_ret (v := .tuple #[.agg #[.int .i64 (vars.length : Int), .slice A q.atoms.length c], .int .u32 (uz (setOf vars q.head)), .int .i64 0]) (by simp [results, Tryd.results17, go_sem, z0, z1]) rfl ?_
          refine ⟨_, _, ofTo vars q.atoms q.atoms.length, _, _, rfl, ?_, HX, hBG⟩
          have hlen : (ofTo vars q.atoms q.atoms.length).length = q.atoms.length := by unfold ofTo; simp
          rw [hlen]; exact hoG
  · have e0 : (shapeC q != 0) = true := by simpa using hs
    have HX : Hid (OfIs q 0 [] 0#32 (shapeC q)) := Lib.hid (.inl ⟨hs, rfl, rfl, rfl, rfl⟩)
    clear hs
    generalize shapeC q = code at e0 HX ⊢
    have hF := (hR1.set_ 0 (.int .i64 0)).set_ 1 (.slice none 0 0)
    have hB2 : Below w.heap.size w ((w1.setCell ⟨w.heap.size + 1, 0, none⟩ (.int .i64 0)).setCell ⟨w.heap.size + 1, 1, none⟩ (.slice none 0 0)) := (hB1.setCell (by simp) _).setCell (by simp) _
    go_wp2_with fail
    generalize (w1.setCell _ _).setCell _ _ = wf at hF hB2 ⊢
    have z0 : wf.cell? ⟨w.heap.size + 1, 0, none⟩ = some (.int .i64 0) := hF.cell 0
    have z1 : wf.cell? ⟨w.heap.size + 1, 1, none⟩ = some (.slice none 0 0) := hF.cell 1
    refine bodyPost_ret (v := .tuple #[.agg #[.int .i64 0, .slice none 0 0], .int .u32 0, .int .i64 code]) (by simp [results, Tryd.results17, go_sem, z0, z1]) rfl ?_
    exact ⟨0, _, [], 0#32, code, rfl, World.ownsRow_nil _ _ _ _, HX, hB2⟩
end Go.Proofs.YtdemmjofggemhaaDoor
