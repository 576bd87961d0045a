/- Several texts in one: OpenP PNOf. -/
import Derived.Test.YtdemmjofggemhaaDoorOpenQ
import Derived.Test.YtdemmjofggemhaaDoorPNode
import Derived.Test.YtdemmjofggemhaaDoorPBq
import Derived.Test.YtdemmjofggemhaaDoorBQ
/- A plan that came in, as the walks want it. -/
namespace Go.Proofs.YtdemmjofggemhaaDoor
open Go.ChangeShapes Go.WideShapes Go.ChangeAt Go.RowKit Go.Joins

instance : Inhabited PNd := ⟨nd0⟩
section
variable {H : Type} {enc : TypeId × Value → H} {W : World}
end
/-- Sizes that memory allows. -/
structure SzP (p : PPlan) : Prop where
  vars : p.vars.length ≤ 8796093022208
  head : p.head.length ≤ 35184372087808
  nodes : p.nodes.length ≤ 1954687338268
  nvars : ∀ m ∈ p.nodes, m.vars.length ≤ 35184372087808
  tops : p.tops.length ≤ 35184372087808
end Go.Proofs.YtdemmjofggemhaaDoor

/- osierlaw18.Of and back: a plan copied into the other package's types. -/
set_option linter.unusedSimpArgs false
namespace Go.Proofs.YtdemmjofggemhaaDoor
open Go.RowKit

theorem NdR.of_ownE {w : World} {base base' : Nat} {e : TypeId} {A : Option Addr} {c : Nat} {L : List Nd} (h : w.ownsRow base e 7 (.slice A L.length c) L.length (nds L)) (hv : ∀ n ∈ L, w.ownsRow base' 3 1 (vb n) n.vars.length (is n.vars)) : NdR w w.heap.size A (L.map pl) := fun k hk => by
  have hk' : k < L.length := by simpa using hk
  obtain ⟨A', c', e1, _, _, hR, _⟩ := Rd.of_ownS h
  injection e1 with e1 _ _
  subst e1
  obtain ⟨ad, e, hl, hc⟩ := Rd.flat (f := ndC) (m := 7) (fun _ => rfl) hR hk' (by decide)
  rw [nd_pl L hk']
  have hn := hv L[k] (List.getElem_mem hk')
  obtain ⟨T, c2, e2, _, _, hT, _⟩ := Rd.of_own hn
  unfold vb at e2
  injection e2 with e2 _ e3
  subst e2
  exact ⟨ad, e, hl, _, L[k].cap, hc, hT⟩
theorem row_set5 {w : World} {g : Nat} {t : TypeId} {x0 x1 x2 x3 x4 : Value} (h : Row w g t [x0, x1, x2, x3, x4]) (a b c d f : Value) : Row (((((w.setCell ⟨g, 0, none⟩ a).setCell ⟨g, 1, none⟩ b).setCell ⟨g, 2, none⟩ c).setCell ⟨g, 3, none⟩ d).setCell ⟨g, 4, none⟩ f) g t [a, b, c, d, f] := ((((h.set_ 0 a).set_ 1 b).set_ 2 c).set_ 3 d).set_ 4 f
theorem row_far5 {w : World} {g g' : Nat} {t t' : TypeId} {xs ys : List Value} (h : Row w g t xs) (h' : Row w g' t' ys) (hne : t ≠ t') (a b c d f : Value) : Row (((((w.setCell ⟨g', 0, none⟩ a).setCell ⟨g', 1, none⟩ b).setCell ⟨g', 2, none⟩ c).setCell ⟨g', 3, none⟩ d).setCell ⟨g', 4, none⟩ f) g t xs :=
  have hg := row_ne h h' hne
  ((((h.far (p := ⟨g', 0, none⟩) hg a).far (p := ⟨g', 1, none⟩) hg b).far (p := ⟨g', 2, none⟩) hg c).far (p := ⟨g', 3, none⟩) hg d).far (p := ⟨g', 4, none⟩) hg f
theorem below_set5 {w w' : World} {B g : Nat} (h : Below B w w') (hg : B ≤ g) (a b c d f : Value) : Below B w (((((w'.setCell ⟨g, 0, none⟩ a).setCell ⟨g, 1, none⟩ b).setCell ⟨g, 2, none⟩ c).setCell ⟨g, 3, none⟩ d).setCell ⟨g, 4, none⟩ f) :=
  ((((h.setCell (p := ⟨g, 0, none⟩) hg a).setCell (p := ⟨g, 1, none⟩) hg b).setCell (p := ⟨g, 2, none⟩) hg c).setCell (p := ⟨g, 3, none⟩) hg d).setCell (p := ⟨g, 4, none⟩) hg f
theorem Tryd.info_rnode : (Tryd.prog.info? 93).map (fun i => (i.zero, i.size, i.bytes)) = some (some (.agg #[.int .i64 0, .int .i64 0, .slice none 0 0, .int .i64 0, .int .i64 0, .int .i64 0, .bool false]), 7, 72) := by kernel_rfl
section
variable {wr : World} {ops : Array Oper} {o : Oper} {ac : Act} {K : Act → World → Prop} {Q : Exit → Act → World → Prop} {F : Prop}
set_option maxRecDepth 100000 in
theorem step_rnode (hgd : o.guard = none) (s x : Operand) (ho : o.op = .call { callee := .builtin .append, args := #[s, x], argTypes := #[36, 36] })
    (base : Nat) (v : Value) (L : List Nd) (k : Nat) (n : Nd) (hs : ac.eval s = v) (hx : ac.eval x = .slice (some ⟨wr.heap.size, 0, none⟩) 1 1) (hown : wr.ownsRow base 93 7 v k (nds L))
    (hn : (k + 1) * 72 ≤ 140737488355328) (hbase : base ≤ wr.heap.size)
    (h : ∀ A' c' w', w'.ownsRow base 93 7 (.slice A' (k + 1) c') (k + 1) (nds (L ++ [n])) → wr.grownBy w' v.ownBlock → Below base wr w' → K (ac.put o.dst (.slice A' (k + 1) c')) w') :
    if Region.wanted o (yielded ops ac.tmps) = true then Oper.wp Tryd.prog o ac (wr.alloc (.cells #[.int .i64 n.kind, .int .i64 n.atom, .slice n.adr n.vars.length n.cap, .int .i64 n.source, .int .i64 n.side, .int .i64 n.parent, .bool n.top] 93)) K Q else F := by
  refine step_app_src Tryd.underlying36 Tryd.info_rnode rfl (by decide) hgd s x ho base v k (nds L) (some ⟨wr.heap.size, 0, none⟩) 1 1 (ndC n) hs hx (hown.alloc _) rfl (Row.rd (Row.new wr 93 (ndC n))) (fun z => by cases z) (ndC_one n) (by omega) hn (by simp; omega) ?_
  intro v' w' hown' hgr hb' _
  obtain ⟨A', c', rfl, -⟩ := Rd.of_ownS hown'
  exact h A' c' w' (by rw [nds_snoc]; exact hown') (grown_alloc9' hgr) (((Below.refl _ _).alloc hbase _).trans hb')
end
/-- A plan's copy: its parts lie in blocks of their own. -/
structure PCp (base gv gh gt : Nat) (A : Option Addr) (c : Nat) (p : PPlan) (L : List Nd) (w : World) : Prop where
  v : Row w gv 9 (ss p.vars)
  h : Row w gh 3 (is p.head)
  t : Row w gt 3 (is p.tops)
  n : w.ownsRow base 93 7 (.slice A p.nodes.length c) L.length (nds L)
  s : ∀ m ∈ L, w.ownsRow base 3 1 (vb m) m.vars.length (is m.vars)
  e : L.map pl = p.nodes
theorem PCp.later {base gv gh gt c : Nat} {A : Option Addr} {p : PPlan} {L : List Nd} {w w' : World} (x : PCp base gv gh gt A c p L w) (hb : Below w.heap.size w w') : PCp base gv gh gt A c p L w' :=
  ⟨x.v.later hb, x.h.later hb, x.t.later hb, own_below x.n hb, fun m hm => own_below (x.s m hm) hb, x.e⟩
theorem PCp.put5 {base gv gh gt c : Nat} {A : Option Addr} {p : PPlan} {L : List Nd} {w : World} (x : PCp base gv gh gt A c p L w) {g : Nat} {zs : List Value} (hr : Row w g 38 zs) (a b d e f : Value) :
    PCp base gv gh gt A c p L (((((w.setCell ⟨g, 0, none⟩ a).setCell ⟨g, 1, none⟩ b).setCell ⟨g, 2, none⟩ d).setCell ⟨g, 3, none⟩ e).setCell ⟨g, 4, none⟩ f) :=
  ⟨row_far5 x.v hr (by decide) a b d e f, row_far5 x.h hr (by decide) a b d e f, row_far5 x.t hr (by decide) a b d e f, own_set5 x.n hr (by decide) a b d e f, fun m hm => own_set5 (x.s m hm) hr (by decide) a b d e f, x.e⟩
theorem PCp.nodes {base gv gh gt c : Nat} {A : Option Addr} {p : PPlan} {L : List Nd} {w : World} (x : PCp base gv gh gt A c p L w) : NdR w w.heap.size A p.nodes := by
  have hl : L.length = p.nodes.length := by rw [← x.e, List.length_map]
  have h1 := NdR.of_ownE (e := 93) (A := A) (c := c) (L := L) (base := base) (base' := base) (by rw [hl]; have := x.n; rwa [hl] at this) x.s
  rwa [x.e] at h1
set_option maxRecDepth 100000 in
set_option maxHeartbeats 16000000 in
theorem of18_own (p : PPlan) (AV : Option Addr) (cV : Nat) (AH : Option Addr) (cH : Nat) (AN : Option Addr) (cN : Nat) (AT : Option Addr) (cT : Nat) (w : World) (hp : SzP p) (hV : Rd w w.heap.size AV (ss p.vars)) (hH : Rd w w.heap.size AH (is p.head)) (hN : NdR w w.heap.size AN p.nodes) (hT : Rd w w.heap.size AT (is p.tops)) :
    Calls Tryd.prog 9 #[.agg #[.slice AV p.vars.length cV, .slice AH p.head.length cH, .slice AN p.nodes.length cN, .int .i64 p.root, .slice AT p.tops.length cT]] w fun e w' => ∃ gv gh gt AN' cN' L, e = .returned (.agg #[.slice (some ⟨gv, 0, none⟩) p.vars.length p.vars.length, .slice (some ⟨gh, 0, none⟩) p.head.length p.head.length, .slice AN' p.nodes.length cN', .int .i64 p.root, .slice (some ⟨gt, 0, none⟩) p.tops.length p.tops.length]) ∧
      PCp w.heap.size gv gh gt AN' cN' p L w' ∧ Below w.heap.size w w' := by
  obtain ⟨V, Hd, N, rt, Tp⟩ := p
  have z1 := hp.vars
  have z2 := hp.head
  have z3 := hp.nodes
  have z5 := hp.tops
  have HZ := Lib.hid hp.nvars
  clear hp
  simp only at z1 z2 z3 z5 HZ hV hH hN hT ⊢
  go_enter Tryd.func9, Tryd.ntmps9
  go_upto_region 1 with fail
  have hb0 : Below w.heap.size w ((w.alloc (.cells #[.slice AV V.length cV, .slice AH Hd.length cH, .slice AN N.length cN, .int .i64 rt, .slice AT Tp.length cT] 31)).alloc (.cells #[.slice none 0 0, .slice none 0 0, .slice none 0 0, .int .i64 0, .slice none 0 0] 38)) := (below_alloc w _).alloc (by simp) _
  have hP0 : Row ((w.alloc (.cells #[.slice AV V.length cV, .slice AH Hd.length cH, .slice AN N.length cN, .int .i64 rt, .slice AT Tp.length cT] 31)).alloc (.cells #[.slice none 0 0, .slice none 0 0, .slice none 0 0, .int .i64 0, .slice none 0 0] 38)) w.heap.size 31 [.slice AV V.length cV, .slice AH Hd.length cH, .slice AN N.length cN, .int .i64 rt, .slice AT Tp.length cT] := (Row.new w _ _).alloc _
  have hR0 : Row ((w.alloc (.cells #[.slice AV V.length cV, .slice AH Hd.length cH, .slice AN N.length cN, .int .i64 rt, .slice AT Tp.length cT] 31)).alloc (.cells #[.slice none 0 0, .slice none 0 0, .slice none 0 0, .int .i64 0, .slice none 0 0] 38)) (w.heap.size + 1) 38 [.slice none 0 0, .slice none 0 0, .slice none 0 0, .int .i64 0, .slice none 0 0] := Row.new_ (by simp)
  generalize (w.alloc _).alloc _ = w0 at hb0 hP0 hR0 ⊢
  have hpl0 := hP0.lt
  have hrl0 := hR0.lt
  have s0 : w0.drew.cell? ⟨w.heap.size, 0, none⟩ = some (.slice AV V.length cV) := hP0.drew.cell 0
  have s1 : w0.drew.cell? ⟨w.heap.size, 1, none⟩ = some (.slice AH Hd.length cH) := hP0.drew.cell 1
  have s2 : w0.drew.cell? ⟨w.heap.size, 3, none⟩ = some (.int .i64 rt) := hP0.drew.cell 3
  have s3 : w0.drew.cell? ⟨w.heap.size, 4, none⟩ = some (.slice AT Tp.length cT) := hP0.drew.cell 4
  have hbd : Below w.heap.size w w0.drew := hb0.drew
  have HKK : Hid (∀ y, Below w0.drew.heap.size w0.drew y → y.cell? ⟨w.heap.size, 0, none⟩ = some (.slice AV V.length cV) ∧ y.cell? ⟨w.heap.size, 1, none⟩ = some (.slice AH Hd.length cH) ∧ y.cell? ⟨w.heap.size, 3, none⟩ = some (.int .i64 rt) ∧ y.cell? ⟨w.heap.size, 4, none⟩ = some (.slice AT Tp.length cT)) := Lib.hid fun y hy => ⟨(hP0.drew.later hy).cell 0, (hP0.drew.later hy).cell 1, (hP0.drew.later hy).cell 3, (hP0.drew.later hy).cell 4⟩
  have HC1 : Hid (∀ y, Below w0.drew.heap.size w0.drew y → Calls Tryd.prog 29 #[.slice AV V.length cV] y fun e w' => ∃ g, e = .returned (.slice (some ⟨g, 0, none⟩) V.length V.length) ∧ y.heap.size ≤ g ∧ Row w' g 9 (ss V) ∧ Below w0.drew.heap.size w0.drew w' ∧ Below y.heap.size y w') := Lib.hid fun y hy => by
    refine (texts_any AV V cV y z1 (hV.later (hbd.trans (hy.mono hbd.size)))).mono ?_
    rintro e w' ⟨g, rfl, h1, h2, h3⟩
    exact ⟨g, rfl, h1, h2, bthen hy h3, h3⟩
  have HC2 : Hid (∀ y, Below w0.drew.heap.size w0.drew y → Calls Tryd.prog 32 #[.slice AH Hd.length cH] y fun e w' => ∃ g, e = .returned (.slice (some ⟨g, 0, none⟩) Hd.length Hd.length) ∧ y.heap.size ≤ g ∧ Row w' g 3 (is Hd) ∧ Below w0.drew.heap.size w0.drew w' ∧ Below y.heap.size y w') := Lib.hid fun y hy => by
    refine (ints_any AH Hd cH y z2 (hH.later (hbd.trans (hy.mono hbd.size)))).mono ?_
    rintro e w' ⟨g, rfl, h1, h2, h3⟩
    exact ⟨g, rfl, h1, h2, bthen hy h3, h3⟩
  have HC3 : Hid (∀ y, Below w0.drew.heap.size w0.drew y → Calls Tryd.prog 32 #[.slice AT Tp.length cT] y fun e w' => ∃ g, e = .returned (.slice (some ⟨g, 0, none⟩) Tp.length Tp.length) ∧ y.heap.size ≤ g ∧ Row w' g 3 (is Tp) ∧ Below w0.drew.heap.size w0.drew w' ∧ Below y.heap.size y w') := Lib.hid fun y hy => by
    refine (ints_any AT Tp cT y z5 (hT.later (hbd.trans (hy.mono hbd.size)))).mono ?_
    rintro e w' ⟨g, rfl, h1, h2, h3⟩
    exact ⟨g, rfl, h1, h2, bthen hy h3, h3⟩
  go_cut [3] (fun x wx => ∃ gp gv gh gt, x = .pointer (some ⟨gp, 0, none⟩) ∧ w0.heap.size ≤ gp ∧ Row wx gp 38 [.slice (some ⟨gv, 0, none⟩) V.length V.length, .slice (some ⟨gh, 0, none⟩) Hd.length Hd.length, .slice none 0 0, .int .i64 rt, .slice (some ⟨gt, 0, none⟩) Tp.length Tp.length] ∧ Row wx gv 9 (ss V) ∧ Row wx gh 3 (is Hd) ∧ Row wx gt 3 (is Tp) ∧ Below w0.heap.size w0 wx)
  case first =>
    refine wp_region_until 13 (fun y : World => y.cell? ⟨w.heap.size, 0, none⟩ = some (.slice AV V.length cV) ∧ y.cell? ⟨w.heap.size, 1, none⟩ = some (.slice AH Hd.length cH) ∧ y.cell? ⟨w.heap.size, 3, none⟩ = some (.int .i64 rt) ∧ y.cell? ⟨w.heap.size, 4, none⟩ = some (.slice AT Tp.length cT)) (by kernel_rfl) ⟨s0, s1, s2, s3⟩ (fun hHeld => ?_)
    refine uN 0 hHeld ?_
    try simp only [Act.put, uA, u0, u1]
    refine uL 1 [1] hHeld ?_
    try simp only [Act.put, uA, u0, u1]
    refine uN 3 hHeld ?_
    try simp only [Act.put, uA, u0, u1]
    refine uL 4 [4] hHeld ?_
    try simp only [Act.put, uA, u0, u1]
    refine uN 6 hHeld ?_
    try simp only [Act.put, uA, u0, u1]
    refine uL 7 [7] hHeld ?_
    try simp only [Act.put, uA, u0, u1]
    refine uN 8 hHeld ?_
    try simp only [Act.put, uA, u0, u1]
    refine uL 9 [9] hHeld ?_
    try simp only [Act.put, uA, u0, u1]
    refine wpAnyU_two (i := 2) (j := 12) (by kernel_rfl) rfl rfl (fun K hK => ?_) (fun K hK => ?_)
    · go_simp
      go_at_call 29
      refine (HC1.out _ (Below.refl _ _)).mono ?_
      rintro e w11 ⟨g1, rfl, hg1, hR1, hb1, hs1⟩
      refine hK.out _ _ (HKK.out _ hb1) (fun hNew => ?_)
      clear hK K hHeld
      have hHeld := hNew
      clear hNew
      try simp only [Act.put, uA, u0, u1]
      refine wpAnyU_two (i := 5) (j := 12) (by kernel_rfl) rfl rfl (fun K hK => ?_) (fun K hK => ?_)
      · go_simp
        go_at_call 32
        refine (HC2.out _ hb1).mono ?_
        rintro e w12 ⟨g2, rfl, hg2, hR2, hb2, hs2⟩
        have hR12 := Row.later hR1 hs2
        refine hK.out _ _ (HKK.out _ hb2) (fun hNew => ?_)
        clear hK K hHeld
        have hHeld := hNew
        clear hNew
        try simp only [Act.put, uA, u0, u1]
        refine wpAnyU_two (i := 10) (j := 12) (by kernel_rfl) rfl rfl (fun K hK => ?_) (fun K hK => ?_)
        · go_simp
          go_at_call 32
          refine (HC3.out _ hb2).mono ?_
          rintro e w13 ⟨g3, rfl, hg3, hR3, hb3, hs3⟩
          have hR13 := Row.later hR12 hs3
          have hR23 := Row.later hR2 hs3
          refine hK.out _ _ (HKK.out _ hb3) (fun hNew => ?_)
          clear hK K hHeld
          have hHeld := hNew
          clear hNew
          try simp only [Act.put, uA, u0, u1]
          refine uN 11 hHeld ?_
          try simp only [Act.put, uA, u0, u1]
          refine wpAnyU_one (i := 12) (by kernel_rfl) rfl (fun K hK => ?_)
          go_simp
          refine hK.out _ _ (HKK.out _ (Below.alloc hb3 hb3.size (.cells #[.slice none 0 0, .slice none 0 0, .slice none 0 0, .int .i64 0, .slice none 0 0] 38))) (fun hNew => ?_)
          clear hK K hHeld
          have hHeld := hNew
          clear hNew
          try simp only [Act.put, uA, u0, u1]
          refine wpAnyU_last (i := 13) (by kernel_rfl) rfl (by kernel_rfl) (fun K hK => ?_)
          go_simp
          refine hK.out _ _ ?_
          clear hK K hHeld
          try simp only [Act.put]
          refine wpAnyU_done (by kernel_rfl) ?_ _
          have hbz : Below w0.heap.size w0 w13 := ⟨hb3.os, hb3.tape, hb3.output, hb3.size, hb3.block⟩
          go_wp2_with fail
          go_meet
          exact ⟨w13.heap.size, g1, g2, g3, rfl, hbz.size, Row.new w13 _ _, Row.alloc hR13 _, Row.alloc hR23 _, Row.alloc hR3 _, hbz.alloc hbz.size _⟩
        · go_simp
          refine hK.out _ _ (HKK.out _ (Below.alloc hb2 hb2.size (.cells #[.slice none 0 0, .slice none 0 0, .slice none 0 0, .int .i64 0, .slice none 0 0] 38))) (fun hNew => ?_)
          clear hK K hHeld
          have hHeld := hNew
          clear hNew
          try simp only [Act.put, uA, u0, u1]
          refine wpAnyU_one (i := 10) (by kernel_rfl) rfl (fun K hK => ?_)
          go_simp
          go_at_call 32
          refine (HC3.out _ (Below.alloc hb2 hb2.size (.cells #[.slice none 0 0, .slice none 0 0, .slice none 0 0, .int .i64 0, .slice none 0 0] 38))).mono ?_
          rintro e w13 ⟨g3, rfl, hg3, hR3, hb3, hs3⟩
          have hR13 := Row.later (Row.alloc hR12 (.cells #[.slice none 0 0, .slice none 0 0, .slice none 0 0, .int .i64 0, .slice none 0 0] 38)) hs3
          have hR23 := Row.later (Row.alloc hR2 (.cells #[.slice none 0 0, .slice none 0 0, .slice none 0 0, .int .i64 0, .slice none 0 0] 38)) hs3
          have hA3 : Row w13 w12.heap.size 38 [.slice none 0 0, .slice none 0 0, .slice none 0 0, .int .i64 0, .slice none 0 0] := Row.later (Row.new w12 38 [.slice none 0 0, .slice none 0 0, .slice none 0 0, .int .i64 0, .slice none 0 0]) hs3
          have r0 : w13.cell? ⟨w12.heap.size, 0, none⟩ = some (.slice none 0 0) := hA3.cell 0
          have f0 := hA3.frozen 0
          have r1 : w13.cell? ⟨w12.heap.size, 1, none⟩ = some (.slice none 0 0) := hA3.cell 1
          have f1 := hA3.frozen 1
          have r2 : w13.cell? ⟨w12.heap.size, 2, none⟩ = some (.slice none 0 0) := hA3.cell 2
          have f2 := hA3.frozen 2
          have r3 : w13.cell? ⟨w12.heap.size, 3, none⟩ = some (.int .i64 0) := hA3.cell 3
          have f3 := hA3.frozen 3
          have r4 : w13.cell? ⟨w12.heap.size, 4, none⟩ = some (.slice none 0 0) := hA3.cell 4
          have f4 := hA3.frozen 4
          have rl := hA3.lt
          refine hK.out _ _ (HKK.out _ hb3) (fun hNew => ?_)
          clear hK K hHeld
          have hHeld := hNew
          clear hNew
          try simp only [Act.put, uA, u0, u1]
          refine uN 11 hHeld ?_
          try simp only [Act.put, uA, u0, u1]
          refine wpAnyU_last (i := 13) (by kernel_rfl) rfl (by kernel_rfl) (fun K hK => ?_)
          go_simp
          refine hK.out _ _ ?_
          clear hK K hHeld
          try simp only [Act.put]
          refine wpAnyU_done (by kernel_rfl) ?_ _
          have hbz : Below w0.heap.size w0 w13 := ⟨hb3.os, hb3.tape, hb3.output, hb3.size, hb3.block⟩
          go_wp2_with fail
          go_meet
          exact ⟨w12.heap.size, g1, g2, g3, rfl, hb2.size, row_set5 hA3 (.slice (some ⟨g1, 0, none⟩) V.length V.length) (.slice (some ⟨g2, 0, none⟩) Hd.length Hd.length) (.slice none 0 0) (.int .i64 rt) (.slice (some ⟨g3, 0, none⟩) Tp.length Tp.length), row_far5 hR13 hA3 (by decide) (.slice (some ⟨g1, 0, none⟩) V.length V.length) (.slice (some ⟨g2, 0, none⟩) Hd.length Hd.length) (.slice none 0 0) (.int .i64 rt) (.slice (some ⟨g3, 0, none⟩) Tp.length Tp.length), row_far5 hR23 hA3 (by decide) (.slice (some ⟨g1, 0, none⟩) V.length V.length) (.slice (some ⟨g2, 0, none⟩) Hd.length Hd.length) (.slice none 0 0) (.int .i64 rt) (.slice (some ⟨g3, 0, none⟩) Tp.length Tp.length), row_far5 hR3 hA3 (by decide) (.slice (some ⟨g1, 0, none⟩) V.length V.length) (.slice (some ⟨g2, 0, none⟩) Hd.length Hd.length) (.slice none 0 0) (.int .i64 rt) (.slice (some ⟨g3, 0, none⟩) Tp.length Tp.length), below_set5 hbz hb2.size (.slice (some ⟨g1, 0, none⟩) V.length V.length) (.slice (some ⟨g2, 0, none⟩) Hd.length Hd.length) (.slice none 0 0) (.int .i64 rt) (.slice (some ⟨g3, 0, none⟩) Tp.length Tp.length)⟩
      · go_simp
        refine hK.out _ _ (HKK.out _ (Below.alloc hb1 hb1.size (.cells #[.slice none 0 0, .slice none 0 0, .slice none 0 0, .int .i64 0, .slice none 0 0] 38))) (fun hNew => ?_)
        clear hK K hHeld
        have hHeld := hNew
        clear hNew
        try simp only [Act.put, uA, u0, u1]
        refine wpAnyU_one (i := 5) (by kernel_rfl) rfl (fun K hK => ?_)
        go_simp
        go_at_call 32
        refine (HC2.out _ (Below.alloc hb1 hb1.size (.cells #[.slice none 0 0, .slice none 0 0, .slice none 0 0, .int .i64 0, .slice none 0 0] 38))).mono ?_
        rintro e w12 ⟨g2, rfl, hg2, hR2, hb2, hs2⟩
        have hR12 := Row.later (Row.alloc hR1 (.cells #[.slice none 0 0, .slice none 0 0, .slice none 0 0, .int .i64 0, .slice none 0 0] 38)) hs2
        have hA2 : Row w12 w11.heap.size 38 [.slice none 0 0, .slice none 0 0, .slice none 0 0, .int .i64 0, .slice none 0 0] := Row.later (Row.new w11 38 [.slice none 0 0, .slice none 0 0, .slice none 0 0, .int .i64 0, .slice none 0 0]) hs2
        refine hK.out _ _ (HKK.out _ hb2) (fun hNew => ?_)
        clear hK K hHeld
        have hHeld := hNew
        clear hNew
        try simp only [Act.put, uA, u0, u1]
        refine wpAnyU_one (i := 10) (by kernel_rfl) rfl (fun K hK => ?_)
        go_simp
        go_at_call 32
        refine (HC3.out _ hb2).mono ?_
        rintro e w13 ⟨g3, rfl, hg3, hR3, hb3, hs3⟩
        have hR13 := Row.later hR12 hs3
        have hR23 := Row.later hR2 hs3
        have hA3 : Row w13 w11.heap.size 38 [.slice none 0 0, .slice none 0 0, .slice none 0 0, .int .i64 0, .slice none 0 0] := Row.later hA2 hs3
        have r0 : w13.cell? ⟨w11.heap.size, 0, none⟩ = some (.slice none 0 0) := hA3.cell 0
        have f0 := hA3.frozen 0
        have r1 : w13.cell? ⟨w11.heap.size, 1, none⟩ = some (.slice none 0 0) := hA3.cell 1
        have f1 := hA3.frozen 1
        have r2 : w13.cell? ⟨w11.heap.size, 2, none⟩ = some (.slice none 0 0) := hA3.cell 2
        have f2 := hA3.frozen 2
        have r3 : w13.cell? ⟨w11.heap.size, 3, none⟩ = some (.int .i64 0) := hA3.cell 3
        have f3 := hA3.frozen 3
        have r4 : w13.cell? ⟨w11.heap.size, 4, none⟩ = some (.slice none 0 0) := hA3.cell 4
        have f4 := hA3.frozen 4
        have rl := hA3.lt
        refine hK.out _ _ (HKK.out _ hb3) (fun hNew => ?_)
        clear hK K hHeld
        have hHeld := hNew
        clear hNew
        try simp only [Act.put, uA, u0, u1]
        refine uN 11 hHeld ?_
        try simp only [Act.put, uA, u0, u1]
        refine wpAnyU_last (i := 13) (by kernel_rfl) rfl (by kernel_rfl) (fun K hK => ?_)
        go_simp
        refine hK.out _ _ ?_
        clear hK K hHeld
        try simp only [Act.put]
        refine wpAnyU_done (by kernel_rfl) ?_ _
        have hbz : Below w0.heap.size w0 w13 := ⟨hb3.os, hb3.tape, hb3.output, hb3.size, hb3.block⟩
        go_wp2_with fail
        go_meet
        exact ⟨w11.heap.size, g1, g2, g3, rfl, hb1.size, row_set5 hA3 (.slice (some ⟨g1, 0, none⟩) V.length V.length) (.slice (some ⟨g2, 0, none⟩) Hd.length Hd.length) (.slice none 0 0) (.int .i64 rt) (.slice (some ⟨g3, 0, none⟩) Tp.length Tp.length), row_far5 hR13 hA3 (by decide) (.slice (some ⟨g1, 0, none⟩) V.length V.length) (.slice (some ⟨g2, 0, none⟩) Hd.length Hd.length) (.slice none 0 0) (.int .i64 rt) (.slice (some ⟨g3, 0, none⟩) Tp.length Tp.length), row_far5 hR23 hA3 (by decide) (.slice (some ⟨g1, 0, none⟩) V.length V.length) (.slice (some ⟨g2, 0, none⟩) Hd.length Hd.length) (.slice none 0 0) (.int .i64 rt) (.slice (some ⟨g3, 0, none⟩) Tp.length Tp.length), row_far5 hR3 hA3 (by decide) (.slice (some ⟨g1, 0, none⟩) V.length V.length) (.slice (some ⟨g2, 0, none⟩) Hd.length Hd.length) (.slice none 0 0) (.int .i64 rt) (.slice (some ⟨g3, 0, none⟩) Tp.length Tp.length), below_set5 hbz hb1.size (.slice (some ⟨g1, 0, none⟩) V.length V.length) (.slice (some ⟨g2, 0, none⟩) Hd.length Hd.length) (.slice none 0 0) (.int .i64 rt) (.slice (some ⟨g3, 0, none⟩) Tp.length Tp.length)⟩
    · go_simp
      refine hK.out _ _ (HKK.out _ (Below.alloc (Below.refl _ _) (Nat.le_refl _) (.cells #[.slice none 0 0, .slice none 0 0, .slice none 0 0, .int .i64 0, .slice none 0 0] 38))) (fun hNew => ?_)
      clear hK K hHeld
      have hHeld := hNew
      clear hNew
      try simp only [Act.put, uA, u0, u1]
      refine wpAnyU_one (i := 2) (by kernel_rfl) rfl (fun K hK => ?_)
      go_simp
      go_at_call 29
      refine (HC1.out _ (Below.alloc (Below.refl _ _) (Nat.le_refl _) (.cells #[.slice none 0 0, .slice none 0 0, .slice none 0 0, .int .i64 0, .slice none 0 0] 38))).mono ?_
      rintro e w11 ⟨g1, rfl, hg1, hR1, hb1, hs1⟩
      have hA1 : Row w11 w0.heap.size 38 [.slice none 0 0, .slice none 0 0, .slice none 0 0, .int .i64 0, .slice none 0 0] := Row.later (Row.new w0.drew 38 [.slice none 0 0, .slice none 0 0, .slice none 0 0, .int .i64 0, .slice none 0 0]) hs1
      refine hK.out _ _ (HKK.out _ hb1) (fun hNew => ?_)
      clear hK K hHeld
      have hHeld := hNew
      clear hNew
      try simp only [Act.put, uA, u0, u1]
      refine wpAnyU_one (i := 5) (by kernel_rfl) rfl (fun K hK => ?_)
      go_simp
      go_at_call 32
      refine (HC2.out _ hb1).mono ?_
      rintro e w12 ⟨g2, rfl, hg2, hR2, hb2, hs2⟩
      have hR12 := Row.later hR1 hs2
      have hA2 : Row w12 w0.heap.size 38 [.slice none 0 0, .slice none 0 0, .slice none 0 0, .int .i64 0, .slice none 0 0] := Row.later hA1 hs2
      refine hK.out _ _ (HKK.out _ hb2) (fun hNew => ?_)
      clear hK K hHeld
      have hHeld := hNew
      clear hNew
      try simp only [Act.put, uA, u0, u1]
      refine wpAnyU_one (i := 10) (by kernel_rfl) rfl (fun K hK => ?_)
      go_simp
      go_at_call 32
      refine (HC3.out _ hb2).mono ?_
      rintro e w13 ⟨g3, rfl, hg3, hR3, hb3, hs3⟩
      have hR13 := Row.later hR12 hs3
      have hR23 := Row.later hR2 hs3
      have hA3 : Row w13 w0.heap.size 38 [.slice none 0 0, .slice none 0 0, .slice none 0 0, .int .i64 0, .slice none 0 0] := Row.later hA2 hs3
      have r0 : w13.cell? ⟨w0.heap.size, 0, none⟩ = some (.slice none 0 0) := hA3.cell 0
      have f0 := hA3.frozen 0
      have r1 : w13.cell? ⟨w0.heap.size, 1, none⟩ = some (.slice none 0 0) := hA3.cell 1
      have f1 := hA3.frozen 1
      have r2 : w13.cell? ⟨w0.heap.size, 2, none⟩ = some (.slice none 0 0) := hA3.cell 2
      have f2 := hA3.frozen 2
      have r3 : w13.cell? ⟨w0.heap.size, 3, none⟩ = some (.int .i64 0) := hA3.cell 3
      have f3 := hA3.frozen 3
      have r4 : w13.cell? ⟨w0.heap.size, 4, none⟩ = some (.slice none 0 0) := hA3.cell 4
      have f4 := hA3.frozen 4
      have rl := hA3.lt
      refine hK.out _ _ (HKK.out _ hb3) (fun hNew => ?_)
      clear hK K hHeld
      have hHeld := hNew
      clear hNew
      try simp only [Act.put, uA, u0, u1]
      refine uN 11 hHeld ?_
      try simp only [Act.put, uA, u0, u1]
      refine wpAnyU_last (i := 13) (by kernel_rfl) rfl (by kernel_rfl) (fun K hK => ?_)
      go_simp
      refine hK.out _ _ ?_
      clear hK K hHeld
      try simp only [Act.put]
      refine wpAnyU_done (by kernel_rfl) ?_ _
      have hbz : Below w0.heap.size w0 w13 := ⟨hb3.os, hb3.tape, hb3.output, hb3.size, hb3.block⟩
      go_wp2_with fail
      go_meet
      exact ⟨w0.heap.size, g1, g2, g3, rfl, (Nat.le_refl _), row_set5 hA3 (.slice (some ⟨g1, 0, none⟩) V.length V.length) (.slice (some ⟨g2, 0, none⟩) Hd.length Hd.length) (.slice none 0 0) (.int .i64 rt) (.slice (some ⟨g3, 0, none⟩) Tp.length Tp.length), row_far5 hR13 hA3 (by decide) (.slice (some ⟨g1, 0, none⟩) V.length V.length) (.slice (some ⟨g2, 0, none⟩) Hd.length Hd.length) (.slice none 0 0) (.int .i64 rt) (.slice (some ⟨g3, 0, none⟩) Tp.length Tp.length), row_far5 hR23 hA3 (by decide) (.slice (some ⟨g1, 0, none⟩) V.length V.length) (.slice (some ⟨g2, 0, none⟩) Hd.length Hd.length) (.slice none 0 0) (.int .i64 rt) (.slice (some ⟨g3, 0, none⟩) Tp.length Tp.length), row_far5 hR3 hA3 (by decide) (.slice (some ⟨g1, 0, none⟩) V.length V.length) (.slice (some ⟨g2, 0, none⟩) Hd.length Hd.length) (.slice none 0 0) (.int .i64 rt) (.slice (some ⟨g3, 0, none⟩) Tp.length Tp.length), below_set5 hbz (Nat.le_refl _) (.slice (some ⟨g1, 0, none⟩) V.length V.length) (.slice (some ⟨g2, 0, none⟩) Hd.length Hd.length) (.slice none 0 0) (.int .i64 rt) (.slice (some ⟨g3, 0, none⟩) Tp.length Tp.length)⟩
  case rest =>
    obtain ⟨gp, gv, gh, gt, rfl, hgp, hRp, hRv, hRh, hRt, hb1⟩ := hcut
    obtain ⟨w1, hw1⟩ : ∃ wo, wo = wc := ⟨_, rfl⟩
    subst hw1
    have hP1 := hP0.later hb1
    have hR1 := hR0.later hb1
    have hN1 : NdR w1 w1.heap.size AN N := hN.later (hb0.trans (hb1.mono hb0.size))
    have hB1 : Below w.heap.size w w1 := hb0.trans (hb1.mono hb0.size)
    have p2 : w1.cell? ⟨w.heap.size, 2, none⟩ = some (.slice AN N.length cN) := hP1.cell 2
    clear s0 s1 s2 s3 HKK HC1 HC2 HC3 hP0 hV hH hT hbd
    go_wp2_with fail
    go_loopw [5, 21] (fun _ x wr => ∃ (k : Nat) (A : Option Addr) (c : Nat) (L : List Nd), k ≤ N.length ∧ x = .int .i64 k ∧ Hid (L.length = k ∧ L.map pl = N.take k) ∧ Row wr gp 38 [.slice (some ⟨gv, 0, none⟩) V.length V.length, .slice (some ⟨gh, 0, none⟩) Hd.length Hd.length, .slice A k c, .int .i64 rt, .slice (some ⟨gt, 0, none⟩) Tp.length Tp.length] ∧ wr.ownsRow w0.heap.size 93 7 (.slice A k c) k (nds L) ∧ (∀ m ∈ L, wr.ownsRow w0.heap.size 3 1 (vb m) m.vars.length (is m.vars)) ∧ Row wr gv 9 (ss V) ∧ Row wr gh 3 (is Hd) ∧ Row wr gt 3 (is Tp) ∧ Below w0.heap.size w0 wr) (fun _ x _ => N.length - (intOf x).toNat)
    case atStart => exact ⟨0, none, 0, [], Nat.zero_le _, rfl, ⟨rfl, rfl⟩, hRp, World.ownsRow_nil _ _ _ _, (fun m hm => by cases hm), hRv, hRh, hRt, hb1⟩
    case round =>
      clear hRp hRv hRh hRt
      obtain ⟨k, A, c, L, hk, rfl, HL, hRp, hoN, hvs, hRv, hRh, hRt, hb⟩ := hrel
      have hBr : Below w.heap.size w wr := hb0.trans (hb.mono hb0.size)
      by_cases hlt : k < N.length
      · obtain ⟨ad, hAd, _, T, cT', hTv, c0, c1, c2, c3, c4, c5, c6⟩ := (hN.later hBr).cells hlt
        subst hAd
        have hxv := HZ.out (nd N k) (by rw [← nd_eq N k hlt]; exact List.getElem_mem _)
        have HNX : Hid (∀ n : Nd, pl n = nd N k → (L ++ [n]).length = k + 1 ∧ (L ++ [n]).map pl = N.take (k + 1)) := Lib.hid fun n hn => ⟨by rw [List.length_append, HL.out.1]; rfl, by rw [List.map_append, HL.out.2, List.take_add_one, List.getElem?_eq_getElem hlt, nd_eq N k hlt, ← hn]; rfl⟩
        have hLk := HL.out.1
        have b1 : (0 : Int) ≤ k := by omega
        have b2 : (k : Int) < N.length := by omega
        clear HL
        generalize nd N k = x at c0 c1 c2 c3 c4 c5 c6 hTv hxv HNX
        go_upto_region 5 with fail
        have hba := below_alloc wr (.cells #[.int .i64 x.kind, .int .i64 x.atom, .slice T x.vars.length cT', .int .i64 x.source, .int .i64 x.side, .int .i64 x.parent, .bool x.top] 58)
        have hX : Row (wr.alloc (.cells #[.int .i64 x.kind, .int .i64 x.atom, .slice T x.vars.length cT', .int .i64 x.source, .int .i64 x.side, .int .i64 x.parent, .bool x.top] 58)) wr.heap.size 58 [.int .i64 x.kind, .int .i64 x.atom, .slice T x.vars.length cT', .int .i64 x.source, .int .i64 x.side, .int .i64 x.parent, .bool x.top] := Row.new _ _ _
        have hRp2 := (hRp.later hba).drew
        have hoN2 := own_below hoN hba.drew
        have hvs2 := fun m hm => own_below (hvs m hm) hba.drew
        have hRv2 := (hRv.later hba).drew
        have hRh2 := (hRh.later hba).drew
        have hRt2 := (hRt.later hba).drew
        have hb2 := (hb.trans (hba.mono hb.size)).drew
        have hX2 := hX.drew
        have hTv2 := hTv.later hba.drew
        have hgpl := hRp.lt
        generalize wr.heap.size = gx at hX2 ⊢
        generalize wr.alloc _ = w2 at hX2 hRp2 hoN2 hvs2 hRv2 hRh2 hRt2 hb2 hTv2 ⊢
        clear hba hX hRp hoN hvs hRv hRh hRt hb c0 c1 c2 c3 c4 c5 c6
        have hsz : w0.heap.size ≤ w2.drew.heap.size := hb2.size
        have q0 : w2.drew.cell? ⟨gp, 2, none⟩ = some (.slice A k c) := hRp2.cell 2
        have x0 : w2.drew.cell? ⟨gx, 0, none⟩ = some (.int .i64 x.kind) := hX2.cell 0
        have x1 : w2.drew.cell? ⟨gx, 1, none⟩ = some (.int .i64 x.atom) := hX2.cell 1
        have x2 : w2.drew.cell? ⟨gx, 2, none⟩ = some (.slice T x.vars.length cT') := hX2.cell 2
        have x3 : w2.drew.cell? ⟨gx, 3, none⟩ = some (.int .i64 x.source) := hX2.cell 3
        have x4 : w2.drew.cell? ⟨gx, 4, none⟩ = some (.int .i64 x.side) := hX2.cell 4
        have x5 : w2.drew.cell? ⟨gx, 5, none⟩ = some (.int .i64 x.parent) := hX2.cell 5
        have x6 : w2.drew.cell? ⟨gx, 6, none⟩ = some (.bool x.top) := hX2.cell 6
        refine wp_region_until 21 (fun y : World => y.cell? ⟨gp, 2, none⟩ = some (.slice A k c) ∧ y.cell? ⟨gx, 0, none⟩ = some (.int .i64 x.kind) ∧ y.cell? ⟨gx, 1, none⟩ = some (.int .i64 x.atom) ∧ y.cell? ⟨gx, 2, none⟩ = some (.slice T x.vars.length cT') ∧ y.cell? ⟨gx, 3, none⟩ = some (.int .i64 x.source) ∧ y.cell? ⟨gx, 4, none⟩ = some (.int .i64 x.side) ∧ y.cell? ⟨gx, 5, none⟩ = some (.int .i64 x.parent) ∧ y.cell? ⟨gx, 6, none⟩ = some (.bool x.top)) (by kernel_rfl) ⟨q0, x0, x1, x2, x3, x4, x5, x6⟩ (fun hHeld => ?_)
        refine uN 0 hHeld ?_
        try simp only [Act.put, uA, u0, u1]
        refine uL 1 [1] hHeld ?_
        try simp only [Act.put, uA, u0, u1]
        refine uN 2 hHeld ?_
        try simp only [Act.put, uA, u0, u1]
        refine uL 3 [3] hHeld ?_
        try simp only [Act.put, uA, u0, u1]
        refine uN 4 hHeld ?_
        try simp only [Act.put, uA, u0, u1]
        refine uL 5 [5] hHeld ?_
        try simp only [Act.put, uA, u0, u1]
        refine uN 6 hHeld ?_
        try simp only [Act.put, uA, u0, u1]
        refine uL 7 [7] hHeld ?_
        try simp only [Act.put, uA, u0, u1]
        refine uN 9 hHeld ?_
        try simp only [Act.put, uA, u0, u1]
        refine uL 10 [10] hHeld ?_
        try simp only [Act.put, uA, u0, u1]
        refine uN 11 hHeld ?_
        try simp only [Act.put, uA, u0, u1]
        refine uL 12 [12] hHeld ?_
        try simp only [Act.put, uA, u0, u1]
        refine uN 13 hHeld ?_
        try simp only [Act.put, uA, u0, u1]
        refine uL 14 [14] hHeld ?_
        try simp only [Act.put, uA, u0, u1]
        refine uN 15 hHeld ?_
        try simp only [Act.put, uA, u0, u1]
        refine uL 16 [16] hHeld ?_
        try simp only [Act.put, uA, u0, u1]
        refine wpAnyU_one (i := 8) (by kernel_rfl) rfl (fun K hK => ?_)
        go_simp
        go_at_call 32
        refine (ints_any T x.vars cT' w2.drew hxv hTv2).mono ?_
        rintro e w3 ⟨g, rfl, hg3, hRg3, hb3⟩
        have hRp3 := Row.later hRp2 hb3
        have hX3 := Row.later hX2 hb3
        have hoN3 := own_below hoN2 hb3
        have hsz3 : w0.heap.size ≤ w3.heap.size := Nat.le_trans hsz hb3.size
        refine hK.out _ _ ⟨(hRp3).cell 2, (hX3).cell 0, (hX3).cell 1, (hX3).cell 2, (hX3).cell 3, (hX3).cell 4, (hX3).cell 5, (hX3).cell 6⟩ (fun hNew => ?_)
        clear hK K hHeld
        have hHeld := hNew
        clear hNew
        try simp only [Act.put, uA, u0, u1]
        refine uN 17 hHeld ?_
        try simp only [Act.put, uA, u0, u1]
        refine wpAnyU_one (i := 18) (by kernel_rfl) rfl (fun K hK => ?_)
        go_simp
        refine hK.out _ _ ⟨(hRp3.alloc _).cell 2, (hX3.alloc _).cell 0, (hX3.alloc _).cell 1, (hX3.alloc _).cell 2, (hX3.alloc _).cell 3, (hX3.alloc _).cell 4, (hX3.alloc _).cell 5, (hX3.alloc _).cell 6⟩ (fun hNew => ?_)
        clear hK K hHeld
        have hHeld := hNew
        clear hNew
        try simp only [Act.put, uA, u0, u1]
        refine wpAnyU_one (i := 19) (by kernel_rfl) rfl (fun K hK => ?_)
        refine step_rnode (wr := w3) rfl (.tmp 26) (.tmp 43) rfl w0.heap.size (.slice A k c) L k ⟨x.kind, x.atom, some ⟨g, 0, none⟩, x.vars.length, x.vars, x.source, x.side, x.parent, x.top⟩ (by first | rfl | go_simp) (by first | rfl | go_simp) hoN3 (by omega) hsz3 ?_
        intro A' c' w4 ho4 hg4 hb4
        have hRp4 := Row.grown hRp3 hg4 (own_row_ne hoN3 hRp3 (by decide))
        have hX4 := Row.grown hX3 hg4 (own_row_ne hoN3 hX3 (by decide))
        have z1 : w4.cell? ⟨gp, 2, none⟩ = some (.slice A k c) := hRp4.cell 2
        have z2 := hRp4.frozen 2
        refine hK.out _ _ ⟨(hRp4).cell 2, (hX4).cell 0, (hX4).cell 1, (hX4).cell 2, (hX4).cell 3, (hX4).cell 4, (hX4).cell 5, (hX4).cell 6⟩ (fun hNew => ?_)
        clear hK K hHeld
        have hHeld := hNew
        clear hNew
        try simp only [Act.put, uA, u0, u1]
        refine uN 20 hHeld ?_
        try simp only [Act.put, uA, u0, u1]
        refine wpAnyU_last (i := 21) (by kernel_rfl) rfl (by kernel_rfl) (fun K hK => ?_)
        go_simp
        refine hK.out _ _ ?_
        clear hK K hHeld
        try simp only [Act.put]
        refine wpAnyU_done (by kernel_rfl) ?_ _
        have hRp5 := hRp4.set_ 2 (.slice A' (k + 1) c')
        have hRg4 := Row.grown hRg3 hg4 (own_row_ne hoN3 hRg3 (by decide))
        have hrow : ∀ {g : Nat} {t : TypeId} {xs : List Value}, Row w2.drew g t xs → 93 ≠ t → t ≠ 38 → Row (w4.setCell ⟨gp, 2, none⟩ (.slice A' (k + 1) c')) g t xs := fun {g t xs} h hne hne2 => by
          have h3 := Row.later h hb3
          have h4 := Row.grown h3 hg4 (own_row_ne hoN3 h3 hne)
          exact h4.far (p := ⟨gp, 2, none⟩) (row_ne h4 hRp4 hne2) _
        have hRv5 := hrow hRv2 (by decide) (by decide)
        have hRh5 := hrow hRh2 (by decide) (by decide)
        have hRt5 := hrow hRt2 (by decide) (by decide)
        have hoN5 := own_set (i := 2) (u := .slice A' (k + 1) c') ho4 hRp4 (by decide)
        have hvg : (w4.setCell ⟨gp, 2, none⟩ (.slice A' (k + 1) c')).ownsRow w0.heap.size 3 1 (.slice (some ⟨g, 0, none⟩) x.vars.length x.vars.length) x.vars.length (is x.vars) := by
          have h1 := Row.own hRg4 (base := w0.heap.size) (Nat.le_trans hsz hg3) (by rw [is_length]; unfold maxLen; omega)
          rw [is_length] at h1
          exact own_set h1 hRp4 (by decide)
        have hvs5 : ∀ m ∈ L ++ [⟨x.kind, x.atom, some ⟨g, 0, none⟩, x.vars.length, x.vars, x.source, x.side, x.parent, x.top⟩], (w4.setCell ⟨gp, 2, none⟩ (.slice A' (k + 1) c')).ownsRow w0.heap.size 3 1 (vb m) m.vars.length (is m.vars) := fun m hm => by
          rcases List.mem_append.1 hm with hm | hm
          · have h3 := own_below (hvs2 m hm) hb3
            exact own_set (own_grown h3 hg4 fun g e c => own_own_ne h3 hoN3 (by decide) g c e) hRp4 (by decide)
          · obtain rfl := List.mem_singleton.1 hm
            exact hvg
        have hb3w : Below w0.heap.size w0 w3 := hb2.trans (hb3.mono hb2.size)
        have hb5 : Below w0.heap.size w0 (w4.setCell ⟨gp, 2, none⟩ (.slice A' (k + 1) c')) := (hb3w.trans hb4).setCell hgp _
        have HL2 := Lib.hid (HNX.out ⟨x.kind, x.atom, some ⟨g, 0, none⟩, x.vars.length, x.vars, x.source, x.side, x.parent, x.top⟩ rfl)
        clear hrow hvg hRp2 hX2 hoN2 hvs2 hRv2 hRh2 hRt2 hb2 hTv2 hRp3 hX3 hoN3 hRg3 hb3 hRp4 hX4 hRg4 ho4 hg4 hb4 z1 z2 q0 x0 x1 x2 x3 x4 x5 x6 hb3w hBr
        go_wp2_with fail
        go_roundw
        case rel => exact ⟨k + 1, _, _, _, by omega, by go_num, HL2, hRp5, hoN5, hvs5, hRv5, hRh5, hRt5, hb5⟩
        case measure => simp [intOf]; omega
      · obtain rfl : k = N.length := by omega
        have hLm : L.map pl = N := by have := HL.out.2; rwa [List.take_length] at this
        have hLl : L.length = N.length := HL.out.1
        have hRz := Row.below hR0 hb hrl0
        have y0 : wr.cell? ⟨gp, 0, none⟩ = some (.slice (some ⟨gv, 0, none⟩) V.length V.length) := hRp.cell 0
        have y1 : wr.cell? ⟨gp, 1, none⟩ = some (.slice (some ⟨gh, 0, none⟩) Hd.length Hd.length) := hRp.cell 1
        have y2 : wr.cell? ⟨gp, 2, none⟩ = some (.slice A N.length c) := hRp.cell 2
        have y3 : wr.cell? ⟨gp, 3, none⟩ = some (.int .i64 rt) := hRp.cell 3
        have y4 : wr.cell? ⟨gp, 4, none⟩ = some (.slice (some ⟨gt, 0, none⟩) Tp.length Tp.length) := hRp.cell 4
        have r0 : wr.cell? ⟨w.heap.size + 1, 0, none⟩ = some (.slice none 0 0) := hRz.cell 0
        have r1 : wr.cell? ⟨w.heap.size + 1, 1, none⟩ = some (.slice none 0 0) := hRz.cell 1
        have r2 : wr.cell? ⟨w.heap.size + 1, 2, none⟩ = some (.slice none 0 0) := hRz.cell 2
        have r3 : wr.cell? ⟨w.heap.size + 1, 3, none⟩ = some (.int .i64 0) := hRz.cell 3
        have r4 : wr.cell? ⟨w.heap.size + 1, 4, none⟩ = some (.slice none 0 0) := hRz.cell 4
        have f0 := hRz.frozen 0
        have f1 := hRz.frozen 1
        have f2 := hRz.frozen 2
        have f3 := hRz.frozen 3
        have f4 := hRz.frozen 4
        have hF := row_set5 hRz (.slice (some ⟨gv, 0, none⟩) V.length V.length) (.slice (some ⟨gh, 0, none⟩) Hd.length Hd.length) (.slice A N.length c) (.int .i64 rt) (.slice (some ⟨gt, 0, none⟩) Tp.length Tp.length)
        have hFv := row_far5 hRv hRz (by decide) (.slice (some ⟨gv, 0, none⟩) V.length V.length) (.slice (some ⟨gh, 0, none⟩) Hd.length Hd.length) (.slice A N.length c) (.int .i64 rt) (.slice (some ⟨gt, 0, none⟩) Tp.length Tp.length)
        have hFh := row_far5 hRh hRz (by decide) (.slice (some ⟨gv, 0, none⟩) V.length V.length) (.slice (some ⟨gh, 0, none⟩) Hd.length Hd.length) (.slice A N.length c) (.int .i64 rt) (.slice (some ⟨gt, 0, none⟩) Tp.length Tp.length)
        have hFt := row_far5 hRt hRz (by decide) (.slice (some ⟨gv, 0, none⟩) V.length V.length) (.slice (some ⟨gh, 0, none⟩) Hd.length Hd.length) (.slice A N.length c) (.int .i64 rt) (.slice (some ⟨gt, 0, none⟩) Tp.length Tp.length)
        have hFN := own_set5 hoN hRz (by decide) (.slice (some ⟨gv, 0, none⟩) V.length V.length) (.slice (some ⟨gh, 0, none⟩) Hd.length Hd.length) (.slice A N.length c) (.int .i64 rt) (.slice (some ⟨gt, 0, none⟩) Tp.length Tp.length)
        have hFs := fun m hm => own_set5 (hvs m hm) hRz (by decide) (.slice (some ⟨gv, 0, none⟩) V.length V.length) (.slice (some ⟨gh, 0, none⟩) Hd.length Hd.length) (.slice A N.length c) (.int .i64 rt) (.slice (some ⟨gt, 0, none⟩) Tp.length Tp.length)
        have hFB := below_set5 hBr (show w.heap.size ≤ w.heap.size + 1 by omega) (.slice (some ⟨gv, 0, none⟩) V.length V.length) (.slice (some ⟨gh, 0, none⟩) Hd.length Hd.length) (.slice A N.length c) (.int .i64 rt) (.slice (some ⟨gt, 0, none⟩) Tp.length Tp.length)
        clear hRz hRv hRh hRt hoN hvs hBr hb HL
        go_wp2_with fail
        generalize (((((wr.setCell _ _).setCell _ _).setCell _ _).setCell _ _).setCell _ _) = wf at hF hFv hFh hFt hFN hFs hFB ⊢
        have z0 : wf.cell? ⟨w.heap.size + 1, 0, none⟩ = some (.slice (some ⟨gv, 0, none⟩) V.length V.length) := hF.cell 0
        have z1 : wf.cell? ⟨w.heap.size + 1, 1, none⟩ = some (.slice (some ⟨gh, 0, none⟩) Hd.length Hd.length) := hF.cell 1
        have z2 : wf.cell? ⟨w.heap.size + 1, 2, none⟩ = some (.slice A N.length c) := hF.cell 2
        have z3 : wf.cell? ⟨w.heap.size + 1, 3, none⟩ = some (.int .i64 rt) := hF.cell 3
        have z4 : wf.cell? ⟨w.heap.size + 1, 4, none⟩ = some (.slice (some ⟨gt, 0, none⟩) Tp.length Tp.length) := hF.cell 4
        refine bodyPost_ret (v := .agg #[.slice (some ⟨gv, 0, none⟩) V.length V.length, .slice (some ⟨gh, 0, none⟩) Hd.length Hd.length, .slice A N.length c, .int .i64 rt, .slice (some ⟨gt, 0, none⟩) Tp.length Tp.length]) (by simp [results, Tryd.results9, go_sem, z0, z1, z2, z3, z4]) rfl ?_
        exact ⟨gv, gh, gt, A, c, L, rfl, ⟨hFv, hFh, hFt, own_less (base := w0.heap.size) (by rw [hLl]; exact hFN) (by omega), fun m hm => own_less (base := w0.heap.size) (hFs m hm) (by omega), hLm⟩, hFB⟩
end Go.Proofs.YtdemmjofggemhaaDoor
