/- The contracts of osierref09.AtomVars, Vars. -/
import Derived.Test.YtbgbjodehbcgiaaGreatDoorQVars
namespace Go.Proofs.YtbgbjodehbcgiaaGreatDoor
open Go.RowKit

set_option maxHeartbeats 4000000 in
set_option maxRecDepth 100000 in
theorem r09atomVars_any (rel : ByteArray) (T : Option Addr) (ts : List Tm) (c : Nat) (w : World) (hl : ts.length ≤ 1000000) (hT : Rd w w.heap.size T (tms ts)) :
    Calls Tryz.prog 52 #[.agg #[.string rel, .slice T ts.length c]] w fun e w' => ∃ v, e = .returned v ∧ w'.ownsRow w.heap.size 9 1 v (avars ts).length (ss (avars ts)) ∧ Below w.heap.size w w' := by
  have HH := Lib.hid in9_any
  go_enter Tryz.func52, Tryz.ntmps52
  go_wp2_with fail
  have hb0 := below_alloc w (.cells #[.string rel, .slice T ts.length c] 65)
  have hR0 : Row (w.alloc (.cells #[.string rel, .slice T ts.length c] 65)) w.heap.size 65 [.string rel, .slice T ts.length c] := Row.new _ _ _
  have hT0 := hT.later hb0
  generalize w.alloc _ = w0 at hb0 hR0 hT0 ⊢
  have hbase := hb0.size
  go_loopw [3, 4] (fun o i wr => ∃ (k : Nat) (L : List ByteArray), k ≤ ts.length ∧ i = .int .i64 k ∧ Hid (L = (ts.take k).foldl addV []) ∧ L.length ≤ k ∧ wr.ownsRow w0.heap.size 9 1 o L.length (ss L) ∧ Below w0.heap.size w0 wr) (fun _ i _ => ts.length - (intOf i).toNat)
  case atStart => exact ⟨0, [], Nat.zero_le _, rfl, Lib.hid rfl, Nat.le_refl _, World.ownsRow_nil _ _ _ _, Below.refl _ _⟩
  case round =>
    obtain ⟨k, L, hk, rfl, hL, hlk, hown, hb⟩ := hrel
    obtain ⟨AL, cL, rfl, _, _, hRL, _⟩ := Rd.of_own hown
    have d1 : wr.cell? ⟨w.heap.size, 1, none⟩ = some (.slice T ts.length c) := (hR0.later hb).cell 1
    by_cases hlt : k < ts.length
    · obtain ⟨ad, hA, _, hc, hc1, hc2, hc3⟩ := (hT0.later hb).t_cells hlt
      subst hA
      have b1 : (0 : Int) ≤ k := by omega
      have b2 : (k : Int) < ts.length := by omega
      have HN : Hid (∀ M, M = addV L (tm ts k) → M = (ts.take (k + 1)).foldl addV []) := Lib.hid fun M h => by rw [foldl_snoc addV [] ts k hlt, ← hL.out, tm_eq ts k hlt]; exact h
      clear hL
      generalize tm ts k = t at hc hc1 hc2 hc3 HN
      have he := isEmpty_empty t.var
      by_cases hv : t.var = ByteArray.empty
      · have HX := Lib.hid (HN.out L (addV_skip (.inl hv)).symm)
        rw [decide_eq_true hv] at he
        clear hv
        go_wp2_with fail
        go_roundw
        case rel => exact ⟨k + 1, L, by omega, by go_num, HX, by omega, hown, hb⟩
        case measure => simp [intOf]; omega
      · rw [decide_eq_false hv] at he
        have HC := Lib.hid (HH.out AL L cL t.var wr (by omega) hRL)
        by_cases hm : t.var ∈ L
        · have HX := Lib.hid (HN.out L (addV_skip (.inr hm)).symm)
          rw [decide_eq_true hm] at HC
          clear hm hv
          go_wp2_with fail
          refine HC.out.mono ?_
          rintro e w' ⟨rfl, rfl⟩
          go_wp2_with fail
          go_roundw
          case rel => exact ⟨k + 1, L, by omega, by go_num, HX, by omega, hown, hb⟩
          case measure => simp [intOf]; omega
        · have HX := Lib.hid (HN.out (L ++ [t.var]) (addV_new hv hm).symm)
          rw [decide_eq_false hm] at HC
          clear hm hv
          generalize t.var = y at *
          go_wp2_with fail
          refine HC.out.mono ?_
          rintro e w' ⟨rfl, rfl⟩
          go_wp2_with ((with_reducible show wpList _ _ _ _ _ _); refine app_str rfl (.tmp 30) (.tmp 37) rfl w0.heap.size _ L y rfl rfl hown (by omega) hb.size ?_)
          intro v' w' hown' hb'
          go_wp2_with fail
          go_roundw
          case rel => exact ⟨k + 1, L ++ [y], by omega, by go_num, HX, by simp; omega, by rw [List.length_append]; exact hown', hb.trans hb'⟩
          case measure => simp [intOf]; omega
    · obtain rfl : k = ts.length := by omega
      have HE : Hid (L = avars ts) := Lib.hid (by rw [hL.out, List.take_length]; rfl)
      go_wp2_with fail
      go_ret
      exact ⟨_, rfl, own_less (by rw [← HE.out]; exact hown) hbase, hb0.trans (hb.mono hbase)⟩

section
variable {w : World} {ops : Array Oper} {o : Oper} {a : Act} {K : Act → World → Prop} {Q : Exit → Act → World → Prop} {F : Prop}
set_option maxRecDepth 100000 in
/-- 'append(v, src...)' at a step of a region that draws, whatever the source: nil, empty or not. -/
theorem step_app_src {T e : TypeId} {z : Value} {size bytes : Nat} (hu : Tryz.prog.underlying T = some (.slice e)) (hinfo : (Tryz.prog.info? e).map (fun i => (i.zero, i.size, i.bytes)) = some (some z, size, bytes)) (hz1 : z.cells.size = size) (hsz : 0 < size)
    (hgd : o.guard = none) (s x : Operand) (ho : o.op = .call { callee := .builtin .append, args := #[s, x], argTypes := #[T, T] })
    (base : Nat) (v : Value) (n : Nat) (xs : List Value) (A : Option Addr) (m c : Nat) (news : List Value) (hs : a.eval s = v) (hx : a.eval x = .slice A m c) (hown : w.ownsRow base e size v n xs)
    (hl : news.length = m * size) (hR : Rd w w.heap.size A news) (hA : A = none → c = 0) (h1 : ∀ u ∈ news, u.oneCell' = true) (hn : n + m ≤ 9223372036854775807) (hby : (n + m) * bytes ≤ 140737488355328) (hbase : base ≤ w.heap.size)
    (h : ∀ v' w', w'.ownsRow base e size v' (n + m) (xs ++ news) → w.grownBy w' v.ownBlock → Below base w w' → (v'.ownBlock = v.ownBlock ∨ ∃ g, v'.ownBlock = some g ∧ w.heap.size ≤ g) → K (a.put o.dst v') w') :
    if Region.wanted o (yielded ops a.tmps) = true then Oper.wp Tryz.prog o a w K Q else F := by
  have hw : Region.wanted o (yielded ops a.tmps) = true := by simp [Region.wanted, hgd]
  rw [if_pos hw]
  obtain ⟨i, hi, hz, hs1, hb1⟩ := info_parts hinfo
  match A, hA, hR, hx with
  | none, hA, hR, hx =>
    have hn0 : news = [] := by
      cases news with
      | nil => rfl
      | cons u l =>
        obtain ⟨ad, e, _⟩ := hR 0 (by simp)
        cases e
    subst hn0
    have hm0 : m = 0 := by
      rcases Nat.mul_eq_zero.1 hl.symm with e | e
      · exact e
      · omega
    subst hm0
    rw [hA rfl] at hx
    have hrun := run_append_owned_none (P := Tryz.prog) (w := w) base T o.type e i size hu hi v n xs hown
    unfold Oper.wp
    simp [execOp, ho, resolve, invoke, builtin, hs, hx, hrun, Result.andThen]
    exact h v w (by simpa using hown) ⟨rfl, rfl, rfl, Nat.le_refl _, fun _ _ _ => rfl⟩ (Below.refl _ _) (.inl rfl)
  | some ad, hA, hR, hx =>
    obtain ⟨v', w', hr, h2, h3, h4, h5⟩ := run_append_own_at (P := Tryz.prog) w base T o.type e i z size bytes hu hi hz hs1 hb1 hz1 hsz v n xs hown ad m c news hl (fun j u hj => by
      obtain ⟨hj', rfl⟩ := List.getElem?_eq_some_iff.1 hj
      obtain ⟨ad', e, _, hc⟩ := hR j hj'
      injection e with e
      subst e
      exact hc) h1 (by unfold maxLen; omega) hby hbase
    unfold Oper.wp execOp
    simp only [ho, resolve, invoke, builtin, Sem.run_bind, Sem.run_pure, Result.andThen_ok, List.map_toArray, List.map_cons, List.map_nil, hs, hx, hr]
    refine h v' w' h2 h3 ((Below.refl base w).grown h3 hbase fun k hk => (hown.lt k hk).1) ?_
    rcases h5 with e | e
    · exact .inl e
    · exact .inr ⟨_, e, Nat.le_refl _⟩
end
theorem grown_below9 {B : Nat} {w w' : World} (h : Below B w w') (r : Option Nat) (hs : w.heap.size = B := by rfl) : w.grownBy w' r :=
  ⟨h.os, h.tape, h.output, h.size, fun k hk _ => h.block k (by omega)⟩
theorem grown_set9 {w w' : World} {q : Nat} (h : w.grownBy w' (some q)) (i : Nat) (u : Value) : w.grownBy (w'.setCell ⟨q, i, none⟩ u) (some q) :=
  ⟨h.os, h.tape, h.output, by have := h.size; simpa using this, fun k hk hne => (Below.heap_setCell w' ⟨q, i, none⟩ u k (by simpa using fun e => hne (by rw [e]))).trans (h.block k hk hne)⟩
theorem Tryz.info_Term : (Tryz.prog.info? 113).map (fun i => (i.zero, i.size, i.bytes)) = some (some (.agg #[.string ByteArray.empty, .int .i64 0, .int .i64 0, .string ByteArray.empty]), 4, 48) := by kernel_rfl

set_option maxHeartbeats 4000000 in
set_option maxRecDepth 100000 in
theorem r09vars_any (name : ByteArray) (AH : Option Addr) (nh cH : Nat) (AA : Option Addr) (xs : List Am) (cA : Nat) (w : World) (hl : xs.length ≤ 6) (h5 : ∀ a ∈ xs, a.terms.length ≤ 5) (hA : Ats w w.heap.size AA xs) :
    Calls Tryz.prog 38 #[.agg #[.string name, .slice AH nh cH, .slice AA xs.length cA]] w fun e w' => ∃ v, e = .returned v ∧ w'.ownsRow w.heap.size 9 1 v (qvars xs).length (ss (qvars xs)) ∧ Below w.heap.size w w' := by
  have HV := Lib.hid r09atomVars_any
  go_enter Tryz.func38, Tryz.ntmps38
  go_upto_region 3 with fail
  have hb0 : Below w.heap.size w ((w.alloc (.cells #[.string name, .slice AH nh cH, .slice AA xs.length cA] 25)).alloc (.cells #[.string { data := #[] }, .slice none 0 0] 65)) := (below_alloc w _).alloc (by simp) _
  have hQ0 : Row ((w.alloc (.cells #[.string name, .slice AH nh cH, .slice AA xs.length cA] 25)).alloc (.cells #[.string { data := #[] }, .slice none 0 0] 65)) w.heap.size 25 [.string name, .slice AH nh cH, .slice AA xs.length cA] := (Row.new w _ _).alloc _
  have hT0 : Row ((w.alloc (.cells #[.string name, .slice AH nh cH, .slice AA xs.length cA] 25)).alloc (.cells #[.string { data := #[] }, .slice none 0 0] 65)) (w.heap.size + 1) 65 [.string { data := #[] }, .slice none 0 0] := Row.new_ (by simp)
  have hbs := hb0.size
  generalize (w.alloc _).alloc _ = w0 at hb0 hQ0 hT0 hbs ⊢
  go_loopw [4] (fun i wr => ∃ (k : Nat) (A1 : Option Addr) (c1 : Nat) (F : List Tm), k ≤ xs.length ∧ i = .int .i64 k ∧ Hid (F = (xs.take k).flatMap Am.terms) ∧ F.length ≤ 5 * k ∧ Row wr w.heap.size 25 [.string name, .slice AH nh cH, .slice AA xs.length cA] ∧ Row wr (w.heap.size + 1) 65 [.string { data := #[] }, .slice A1 F.length c1] ∧ wr.ownsRow (w.heap.size + 2) 113 4 (.slice A1 F.length c1) F.length (tms F) ∧ Below w.heap.size w wr) (fun i _ => xs.length - (intOf i).toNat)
  case atStart => exact ⟨0, none, 0, [], Nat.zero_le _, rfl, Lib.hid rfl, Nat.le_refl _, hQ0, hT0, World.ownsRow_nil _ _ _ _, hb0⟩
  case round =>
    obtain ⟨k, A1, c1, F, hk, rfl, hF, hlk, hQ, hT, hown, hb⟩ := hrel
    have q2 : wr.cell? ⟨w.heap.size, 2, none⟩ = some (.slice AA xs.length cA) := hQ.cell 2
    by_cases hlt : k < xs.length
    · obtain ⟨ad, hAd, _, hc, T, cT, hc1, hTr, hTn⟩ := (hA.later hb) k hlt
      subst hAd
      have b1 : (0 : Int) ≤ k := by omega
      have b2 : (k : Int) < xs.length := by omega
      have HN : Hid (∀ M, M = F ++ (am xs k).terms → M = (xs.take (k + 1)).flatMap Am.terms) := Lib.hid fun M h => by rw [take_snoc xs k hlt, List.flatMap_append, ← hF.out, List.flatMap_singleton, am_eq xs k hlt]; exact h
      have h5k := h5 _ (am_mem xs k hlt)
      clear hF
      generalize am xs k = a at hc hc1 hTr HN h5k
      have t1 : wr.cell? ⟨w.heap.size + 1, 1, none⟩ = some (.slice A1 F.length c1) := hT.cell 1
      have t1f := hT.frozen 1
      have hTlt := hT.lt
      go_upto_region 5 with fail
      go_region_law (refine step_app_src Tryz.underlying63 Tryz.info_Term rfl (by decide) rfl (.tmp 14) (.tmp 20) rfl (w.heap.size + 2) (.slice A1 F.length c1) F.length (tms F) T a.terms.length cT (tms a.terms) (by first | rfl | go_simp) (by first | rfl | go_simp) (own_below hown ((Below.refl wr.heap.size wr).drew)) (tms_length _) (hTr.later ((Below.refl wr.heap.size wr).drew)) hTn (tms_one _) (by omega) (by omega) (by simp; omega) ?_; intro v' w' hown' hgr hb' hat; obtain ⟨A', c', rfl, -⟩ := Rd.of_ownS hown'; have hT' := (hT.drew).grown hgr (own_row_ne (own_below hown ((Below.refl wr.heap.size wr).drew)) hT.drew (by decide)); have k0 := hT'.frozen 1; have k1 : w'.cell? ⟨w.heap.size + 1, 1, none⟩ = some (.slice A1 F.length c1) := hT'.cell 1)
      all_goals
        have hT6 := hT'.set_ 1 (.slice A' (F.length + a.terms.length) c')
        have hQ6 := ((hQ.drew).grown hgr (own_row_ne (own_below hown ((Below.refl wr.heap.size wr).drew)) hQ.drew (by decide))).far (p := ⟨w.heap.size + 1, 1, none⟩) (by simp) (.slice A' (F.length + a.terms.length) c')
        have hown6 := own_grown hown' (grown_set9 (grown_below9 (Below.refl w'.heap.size w') (some (w.heap.size + 1))) 1 (.slice A' (F.length + a.terms.length) c')) fun x hx => by
          injection hx with hx
          subst hx
          exact own_row_ne hown' hT' (by decide)
        have hB6 : Below w.heap.size w (w'.setCell ⟨w.heap.size + 1, 1, none⟩ (.slice A' (F.length + a.terms.length) c')) := ((hb.drew).trans (hb'.mono (by omega))).setCell (by simp) _
        have HX := Lib.hid (HN.out (F ++ a.terms) rfl)
        clear hT hQ hown hT' hown' hgr hb' hb k0 k1 t1 t1f hTlt q2 hc hc1
        generalize w'.setCell _ _ = w6 at hT6 hQ6 hown6 hB6 ⊢
        rw [← List.length_append] at hT6 hown6
        rw [← tms_append] at hown6
        go_wp2_with fail
        go_roundw
        case rel => exact ⟨k + 1, A', c', F ++ a.terms, by omega, by go_num, HX, by rw [List.length_append]; omega, hQ6, hT6, hown6, hB6⟩
        case measure => simp [intOf]; omega
    · obtain rfl : k = xs.length := by omega
      have t0 : wr.cell? ⟨w.heap.size + 1, 0, none⟩ = some (.string { data := #[] }) := hT.cell 0
      have t1 : wr.cell? ⟨w.heap.size + 1, 1, none⟩ = some (.slice A1 F.length c1) := hT.cell 1
      obtain ⟨_, _, e1, _, _, hR, _⟩ := Rd.of_ownS hown
      injection e1 with e1 _ e2
      subst e1 e2
      have HC := Lib.hid (HV.out { data := #[] } A1 F c1 wr (by omega) hR)
      have HE : Hid (avars F = qvars xs) := Lib.hid (by rw [hF.out, List.take_length, qvars_flat])
      have hlx := hb.size
      clear hF hR hown
      go_wp2_with fail
      refine HC.out.mono ?_
      rintro e w2 ⟨v, rfl, hownV, hb2⟩
      go_wp2_with fail
      go_ret
      exact ⟨_, rfl, own_less (by rw [← HE.out]; exact hownV) hlx, hb.trans (hb2.mono hlx)⟩
end Go.Proofs.YtbgbjodehbcgiaaGreatDoor
