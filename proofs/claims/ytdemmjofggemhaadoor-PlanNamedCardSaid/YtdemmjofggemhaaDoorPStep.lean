/- builder.step: a step of a removal as a node of the plan. -/
import Derived.Test.YtdemmjofggemhaaDoorNdMem2
import Derived.Test.YtdemmjofggemhaaDoorRegUntil
namespace Go.Proofs.YtdemmjofggemhaaDoor
open Go.RowKit
attribute [local go_sem ↓] uz_and uz_or uz_andNot uz_beq_zero uz_bne_zero uz_beq uz_bne

section
variable {base gb : Nat} {L : List Nd} {S : List (BitVec 32)} {P : List Int} {AN : Option Addr} {cN gS cS gP cP : Nat} {w w' : World}
theorem BS.later (h : BS base gb L S P AN cN gS cS gP cP w) (hb : Below w.heap.size w w') : BS base gb L S P AN cN gS cS gP cP w' :=
  ⟨h.row.later hb, own_below h.nodes hb, own_below h.sets hb, own_below h.pres hb, fun n hn => own_below (h.vars n hn) hb, h.apart, h.dist⟩
theorem BS.drew (h : BS base gb L S P AN cN gS cS gP cP w) : BS base gb L S P AN cN gS cS gP cP w.drew := ⟨h.row, h.nodes, h.sets, h.pres, h.vars, h.apart, h.dist⟩
theorem BS.near_s (h : BS base gb L S P AN cN gS cS gP cP w) : ∃ c f, w.heap[gS]? = some (.cells c 62 f) := by
  rcases h.sets.2 with ⟨e, _⟩ | ⟨g, cap, cur, hv, _, hh, _⟩
  · cases e
  · injection hv with h1 _ _
    injection h1 with h1
    injection h1 with h1
    subst h1
    exact ⟨_, _, hh⟩
theorem BS.near_p (h : BS base gb L S P AN cN gS cS gP cP w) : ∃ c f, w.heap[gP]? = some (.cells c 3 f) := by
  rcases h.pres.2 with ⟨e, _⟩ | ⟨g, cap, cur, hv, _, hh, _⟩
  · cases e
  · injection hv with h1 _ _
    injection h1 with h1
    injection h1 with h1
    subst h1
    exact ⟨_, _, hh⟩
theorem BS.base_s (h : BS base gb L S P AN cN gS cS gP cP w) : base ≤ gS ∧ gS < w.heap.size := h.sets.lt gS rfl
theorem BS.base_p (h : BS base gb L S P AN cN gS cS gP cP w) : base ≤ gP ∧ gP < w.heap.size := h.pres.lt gP rfl
theorem Tab.kept (h : Tab w) (ht : 0 < base) (hb : Below base w w') : Tab w' := fun k hk => (hb.cell (p := ⟨0, k, none⟩) ht).trans (h k hk)
theorem BS.add (h : BS base gb L S P AN cN gS cS gP cP w) (n : Nd) {AN' : Option Addr} {cN' : Nat} (t : Two gb (Value.slice AN L.length cN).ownBlock w w')
    (hr : Row w' gb 69 [.slice AN' (L.length + 1) cN', .slice (some ⟨gS, 0, none⟩) S.length cS, .slice (some ⟨gP, 0, none⟩) P.length cP]) (ho : w'.ownsRow base 58 7 (.slice AN' (L.length + 1) cN') (L.length + 1) (nds (L ++ [n])))
    (hv : w.ownsRow base 3 1 (vb n) n.vars.length (is n.vars)) (hf : ∀ g, (vb n).ownBlock = some g → g ≠ gP ∧ ∀ a ∈ L, (vb a).ownBlock ≠ some g) : BS base gb (L ++ [n]) S P AN' cN' gS cS gP cP w' := by
  refine ⟨by rw [List.length_append]; exact hr, by rw [List.length_append]; exact ho, own_two h.sets t (own_row_ne h.sets h.row (by decide)) (fun g hg => own_own_ne h.nodes h.sets (by decide) g hg),
    own_two h.pres t (own_row_ne h.pres h.row (by decide)) (fun g hg => own_own_ne h.nodes h.pres (by decide) g hg), fun a ha => ?_, fun a ha => ?_, ?_⟩
  · rcases List.mem_append.1 ha with ha | ha
    · exact own_two (h.vars a ha) t (own_row_ne (h.vars a ha) h.row (by decide)) (fun g hg => own_own_ne h.nodes (h.vars a ha) (by decide) g hg)
    · obtain rfl := List.mem_singleton.1 ha
      exact own_two hv t (own_row_ne hv h.row (by decide)) (fun g hg => own_own_ne h.nodes hv (by decide) g hg)
  · rcases List.mem_append.1 ha with ha | ha
    · exact h.apart a ha
    · obtain rfl := List.mem_singleton.1 ha
      exact fun c => (hf gP c).1 rfl
  · rw [List.pairwise_append]
    refine ⟨h.dist, List.pairwise_singleton _ _, fun a ha b hb g hg c => ?_⟩
    obtain rfl := List.mem_singleton.1 hb
    exact (hf g c).2 a ha hg
theorem own_other {bs g sz n k : Nat} {e : TypeId} {v u : Value} {xs : List Value} (h : w.ownsRow bs e sz v n xs) (hne : v.ownBlock ≠ some g) : (w.setCell ⟨g, k, none⟩ u).ownsRow bs e sz v n xs := ownsRow_setCell_other h (a := ⟨g, k, none⟩) hne u
theorem BS.setS (h : BS base gb L S P AN cN gS cS gP cP w) (e : Nat) (x : BitVec 32) : BS base gb L (S.set e x) P AN cN gS cS gP cP (w.setCell ⟨gS, e, none⟩ (.int .u32 (uz x))) := by
  have hne : gb ≠ gS := fun c => own_row_ne h.sets h.row (by decide) (by rw [c]; rfl)
  refine ⟨?_, own_other h.nodes (own_own_ne h.nodes h.sets (by decide) _ · rfl), ?_, own_other h.pres (own_own_ne h.pres h.sets (by decide) _ · rfl), fun n hn => own_other (h.vars n hn) (own_own_ne (h.vars n hn) h.sets (by decide) _ · rfl), h.apart, h.dist⟩
  · rw [List.length_set]; exact h.row.far hne _
  · have := own_put h.sets (k := e) (.int .u32 (uz x))
    rw [List.length_set]
    rw [show us (S.set e x) = (us S).set e (.int .u32 (uz x)) by simp [us, List.map_set]]
    exact this
theorem BS.setP (h : BS base gb L S P AN cN gS cS gP cP w) (e : Nat) (x : Int) : BS base gb L S (P.set e x) AN cN gS cS gP cP (w.setCell ⟨gP, e, none⟩ (.int .i64 x)) := by
  have hne : gb ≠ gP := fun c => own_row_ne h.pres h.row (by decide) (by rw [c]; rfl)
  refine ⟨?_, own_other h.nodes (own_own_ne h.nodes h.pres (by decide) _ · rfl), own_other h.sets (own_own_ne h.sets h.pres (by decide) _ · rfl), ?_, fun n hn => own_other (h.vars n hn) (h.apart n hn), h.apart, h.dist⟩
  · rw [List.length_set]; exact h.row.far hne _
  · have := own_put h.pres (k := e) (.int .i64 x)
    rw [List.length_set]
    rw [show is (P.set e x) = (is P).set e (.int .i64 x) by simp [is, List.map_set]]
    exact this
theorem BS.s_cell (h : BS base gb L S P AN cN gS cS gP cP w) {e : Nat} (he : e < S.length) : w.cell? ⟨gS, e, none⟩ = some (.int .u32 (uz (ed S e))) := by
  rw [own_cell h.sets (k := e) (by simpa using he)]
  simp only [us, List.getElem_map]
  rw [ed_eq S e he]
theorem BS.p_cell (h : BS base gb L S P AN cN gS cS gP cP w) {e : Nat} (he : e < P.length) : w.cell? ⟨gP, e, none⟩ = some (.int .i64 (pz P e)) := by
  rw [own_cell h.pres (k := e) (by simpa using he)]
  simp only [is, List.getElem_map]
  rw [pz_eq P e he]
end

set_option maxRecDepth 100000 in
set_option maxHeartbeats 8000000 in
/-- A Trim. -/
theorem step_trim (base gb : Nat) (L : List Nd) (S : List (BitVec 32)) (P : List Int) (AN : Option Addr) (cN gS cS gP cP e : Nat) (into : Int) (cut : BitVec 32) (w : World) (hbase : base ≤ w.heap.size) (hT : Tab w)
    (h : BS base gb L S P AN cN gS cS gP cP w) (he : e < S.length) (he2 : e < P.length) (hl : L.length ≤ 1000) (hbg : base ≤ gb) (htb : 0 < base) :
    Calls Tryd.prog 24 #[.pointer (some ⟨gb, 0, none⟩), .agg #[.int .i64 1, .int .i64 e, .int .i64 into, .int .u32 (uz cut)]] w fun en w' => en = .returned (.tuple #[]) ∧
      ∃ (AN' : Option Addr) (cN' : Nat) (adr : Option Addr) (cap : Nat), BS base gb (L ++ [⟨2, 0, adr, cap, lst (ed S e &&& ~~~cut), pz P e, 0, -1, false⟩]) (S.set e (ed S e &&& ~~~cut)) (P.set e L.length) AN' cN' gS cS gP cP w' ∧ Below base w w' ∧ KeptT w w' := by
  go_enter Tryd.func24, Tryd.ntmps24
  go_upto_region 1 with fail
  have hs0 : Row (w.alloc (.cells #[.int .i64 1, .int .i64 e, .int .i64 into, .int .u32 (uz cut)] 84)) w.heap.size 84 [.int .i64 1, .int .i64 e, .int .i64 into, .int .u32 (uz cut)] := Row.new _ _ _
  have hb0 := below_alloc w (.cells #[.int .i64 1, .int .i64 e, .int .i64 into, .int .u32 (uz cut)] 84)
  have hB0 := h.later hb0
  have hT0 := hT.later hb0
  have hk0 := (KeptT.refl w).later hb0
  generalize w.heap.size = gs at hs0 ⊢
  generalize w.alloc _ = w0 at hs0 hB0 hT0 hk0 hb0 ⊢
  have s0 : w0.cell? ⟨gs, 0, none⟩ = some (.int .i64 1) := hs0.cell 0
  have s1 : w0.cell? ⟨gs, 1, none⟩ = some (.int .i64 e) := hs0.cell 1
  have s3 : w0.cell? ⟨gs, 3, none⟩ = some (.int .u32 (uz cut)) := hs0.cell 3
  have b1 : w0.cell? ⟨gb, 1, none⟩ = some (.slice (some ⟨gS, 0, none⟩) S.length cS) := hB0.row.cell 1
  have c1 := hB0.s_cell he
  have f1 := own_frozen hB0.sets e
  have a1 : (0 : Int) ≤ e := by omega
  have a2 : (e : Int) < S.length := by omega
  have a3 : (e : Int) < P.length := by omega
  go_upto_region 2 with fail
  have hB1 := hB0.setS e (ed S e &&& ~~~cut)
  have hs1 : Row (w0.setCell ⟨gS, e, none⟩ (.int .u32 (uz (ed S e &&& ~~~cut)))) gs 84 [.int .i64 1, .int .i64 e, .int .i64 into, .int .u32 (uz cut)] := hs0.far (p := ⟨gS, e, none⟩) (fun c => own_row_ne hB0.sets hs0 (by decide) (by rw [c]; rfl)) _
  have hk1 : KeptT w (w0.setCell ⟨gS, e, none⟩ (.int .u32 (uz (ed S e &&& ~~~cut)))) := by
    obtain ⟨c, f, hh⟩ := hB0.near_s
    exact hk0.set_ hh (.inr (.inr (.inl rfl))) e _
  have hT1 : Tab (w0.setCell ⟨gS, e, none⟩ (.int .u32 (uz (ed S e &&& ~~~cut)))) := hT0.kept htb ((Below.refl base w0).setCell hB0.base_s.1 _)
  have hb1 : Below base w (w0.setCell ⟨gS, e, none⟩ (.int .u32 (uz (ed S e &&& ~~~cut)))) := (hb0.mono hbase).setCell hB0.base_s.1 _
  refine wp_region_until 12 (fun wx : World => wx.cell? ⟨gs, 1, none⟩ = some (.int .i64 e) ∧ wx.cell? ⟨gs, 3, none⟩ = some (.int .u32 (uz cut)) ∧ wx.cell? ⟨gb, 1, none⟩ = some (.slice (some ⟨gS, 0, none⟩) S.length cS) ∧ wx.cell? ⟨gS, e, none⟩ = some (.int .u32 (uz (ed S e)))) (by kernel_rfl) ⟨s1, s3, b1, c1⟩ (fun hHeld => ?_)
  refine uN 0 hHeld ?_
  try simp only [Act.put, uA, u0, u1]
  refine uN 1 hHeld ?_
  try simp only [Act.put, uA, u0, u1]
  refine uN 2 hHeld ?_
  try simp only [Act.put, uA, u0, u1]
  refine uL 3 [3] hHeld ?_
  try simp only [Act.put, uA, u0, u1]
  refine uN 4 hHeld ?_
  try simp only [Act.put, uA, u0, u1]
  refine uL 5 [5] hHeld ?_
  try simp only [Act.put, uA, u0, u1]
  refine uN 6 hHeld ?_
  try simp only [Act.put, uA, u0, u1]
  refine uL 7 [7] hHeld ?_
  try simp only [Act.put, uA, u0, u1]
  refine uN 8 hHeld ?_
  try simp only [Act.put, uA, u0, u1]
  refine uL 9 [9] hHeld ?_
  try simp only [Act.put, uA, u0, u1]
  refine uN 10 hHeld ?_
  try simp only [Act.put, uA, u0, u1]
  refine uN 11 hHeld ?_
  try simp only [Act.put, uA, u0, u1]
  refine wpAnyU_last (i := 12) (by kernel_rfl) rfl (by kernel_rfl) (fun K hK => ?_)
  go_simp
  refine hK.out _ _ ?_
  clear hK K hHeld
  try simp only [Act.put]
  refine wpAnyU_done (by kernel_rfl) ?_ _
  have c2 : ed (S.set e (ed S e &&& ~~~cut)) e = ed S e &&& ~~~cut := by simp [ed, he]
  clear s0 s1 s3 b1 c1 f1 hs0 hB0 hT0 hk0 hb0
  have hSl2 : (S.set e (ed S e &&& ~~~cut)).length = S.length := List.length_set ..
  generalize hx : ed S e &&& ~~~cut = x at hB1 hs1 hk1 hT1 hb1 c2 hSl2 ⊢
  generalize hS1 : S.set e x = S1 at hB1 c2 hSl2 ⊢
  generalize w0.setCell _ _ = w1 at hB1 hs1 hk1 hT1 hb1 ⊢
  go_upto_region 3 with fail
  have hB2 : BS base gb L S1 P AN cN gS cS gP cP w1.drew.drew := hB1.drew.drew
  have HLI := Lib.hid (list_any x w1.drew.drew hT1)
  have hs2 : Row w1.drew.drew gs 84 [.int .i64 1, .int .i64 e, .int .i64 into, .int .u32 (uz cut)] := hs1
  have q1 : w1.drew.drew.cell? ⟨gs, 1, none⟩ = some (.int .i64 e) := hs2.cell 1
  have q2 : w1.drew.drew.cell? ⟨gb, 1, none⟩ = some (.slice (some ⟨gS, 0, none⟩) S1.length cS) := hB2.row.cell 1
  have q3 : w1.drew.drew.cell? ⟨gb, 2, none⟩ = some (.slice (some ⟨gP, 0, none⟩) P.length cP) := hB2.row.cell 2
  have q4 := hB2.s_cell (e := e) (by omega)
  rw [c2] at q4
  have q5 := hB2.p_cell he2
  have a2' : (e : Int) < S1.length := by omega
  have hbs : base ≤ w1.heap.size := Nat.le_trans hbase hb1.size
  refine wp_region_until 27 (fun wx : World => wx.cell? ⟨gs, 1, none⟩ = some (.int .i64 e) ∧ wx.cell? ⟨gb, 1, none⟩ = some (.slice (some ⟨gS, 0, none⟩) S1.length cS) ∧ wx.cell? ⟨gb, 2, none⟩ = some (.slice (some ⟨gP, 0, none⟩) P.length cP) ∧ wx.cell? ⟨gS, e, none⟩ = some (.int .u32 (uz x)) ∧ wx.cell? ⟨gP, e, none⟩ = some (.int .i64 (pz P e))) (by kernel_rfl) ⟨q1, q2, q3, q4, q5⟩ (fun hHeld => ?_)
  refine uN 0 hHeld ?_
  try simp only [Act.put, uA, u0, u1]
  refine uN 1 hHeld ?_
  try simp only [Act.put, uA, u0, u1]
  refine uN 2 hHeld ?_
  try simp only [Act.put, uA, u0, u1]
  refine uL 3 [3] hHeld ?_
  try simp only [Act.put, uA, u0, u1]
  refine uN 4 hHeld ?_
  try simp only [Act.put, uA, u0, u1]
  refine uL 5 [5] hHeld ?_
  try simp only [Act.put, uA, u0, u1]
  refine uN 6 hHeld ?_
  try simp only [Act.put, uA, u0, u1]
  refine uN 7 hHeld ?_
  try simp only [Act.put, uA, u0, u1]
  refine uN 8 hHeld ?_
  try simp only [Act.put, uA, u0, u1]
  refine uN 9 hHeld ?_
  try simp only [Act.put, uA, u0, u1]
  refine uL 10 [10] hHeld ?_
  try simp only [Act.put, uA, u0, u1]
  refine uN 11 hHeld ?_
  try simp only [Act.put, uA, u0, u1]
  refine uL 12 [12] hHeld ?_
  try simp only [Act.put, uA, u0, u1]
  refine uN 13 hHeld ?_
  try simp only [Act.put, uA, u0, u1]
  refine uL 14 [14] hHeld ?_
  try simp only [Act.put, uA, u0, u1]
  refine uN 16 hHeld ?_
  try simp only [Act.put, uA, u0, u1]
  refine uN 17 hHeld ?_
  try simp only [Act.put, uA, u0, u1]
  refine uN 18 hHeld ?_
  try simp only [Act.put, uA, u0, u1]
  refine uL 19 [19] hHeld ?_
  try simp only [Act.put, uA, u0, u1]
  refine uN 20 hHeld ?_
  try simp only [Act.put, uA, u0, u1]
  refine uL 21 [21] hHeld ?_
  try simp only [Act.put, uA, u0, u1]
  refine uN 22 hHeld ?_
  try simp only [Act.put, uA, u0, u1]
  refine uL 23 [23] hHeld ?_
  try simp only [Act.put, uA, u0, u1]
  refine wpAnyU_one (i := 15) (by kernel_rfl) rfl (fun K hK => ?_)
  go_simp
  go_at_call 20
  refine HLI.out.mono ?_
  rintro en w2 ⟨v, rfl, hov, hb2⟩
  obtain ⟨AV, cV, rfl, -⟩ := Rd.of_own hov
  have hB3 := hB2.later hb2
  have hs3 := hs2.later hb2
  have r1 : w2.cell? ⟨gs, 1, none⟩ = some (.int .i64 e) := hs3.cell 1
  have r2 : w2.cell? ⟨gb, 1, none⟩ = some (.slice (some ⟨gS, 0, none⟩) S1.length cS) := hB3.row.cell 1
  have r3 : w2.cell? ⟨gb, 2, none⟩ = some (.slice (some ⟨gP, 0, none⟩) P.length cP) := hB3.row.cell 2
  have r4 := hB3.s_cell (e := e) (by omega)
  rw [c2] at r4
  have r5 := hB3.p_cell he2
  go_wp2_with fail
  refine hK.out _ _ ⟨r1, r2, r3, r4, r5⟩ (fun hNew => ?_)
  clear hK K hHeld
  have hHeld := hNew
  clear hNew
  try simp only [Act.put, uA, u0, u1]
  refine uN 24 hHeld ?_
  try simp only [Act.put, uA, u0, u1]
  refine wpAnyU_one (i := 25) (by kernel_rfl) rfl (fun K hK => ?_)
  go_simp
  go_at_call 19
  refine (add_any base gb _ _ _ L ⟨2, 0, AV, cV, lst x, pz P e, 0, 0, false⟩ w2 (Nat.le_trans hbs hb2.size) hB3.row hB3.nodes hl).mono ?_
  rintro en w3 ⟨rfl, AN', cN', hR4, hN4, ht4⟩
  have hFR : ∀ g, (vb ⟨2, 0, AV, cV, lst x, pz P e, 0, -1, false⟩).ownBlock = some g → g ≠ gP ∧ ∀ a ∈ L, (vb a).ownBlock ≠ some g := fun g hg => by
    have h1 := (hov.lt g hg).1
    have h1' : w1.heap.size ≤ g := h1
    have h2 := hB1.base_p.2
    refine ⟨by omega, fun a ha c => ?_⟩
    have h3 := ((hB1.vars a ha).lt g c).2
    omega
  have hB5 : BS base gb (L ++ [⟨2, 0, AV, cV, lst x, pz P e, 0, -1, false⟩]) S1 P AN' cN' gS cS gP cP w3 := hB3.add ⟨2, 0, AV, cV, lst x, pz P e, 0, -1, false⟩ ht4 hR4 hN4 (own_less hov hbs) hFR
  have hne : gs ≠ gb := fun c => by
    have h1 := hB3.row
    subst c
    unfold Row at h1 hs3
    rw [h1] at hs3
    injection hs3 with hs3
    injection hs3 with _ ht _
    exact absurd ht (by decide)
  have hs5 : Row w3 gs 84 [.int .i64 1, .int .i64 e, .int .i64 into, .int .u32 (uz cut)] := hs3.two ht4 hne (own_row_ne hB3.nodes hs3 (by decide))
  have z1 : w3.cell? ⟨gs, 1, none⟩ = some (.int .i64 e) := hs5.cell 1
  have z2 : w3.cell? ⟨gb, 1, none⟩ = some (.slice (some ⟨gS, 0, none⟩) S1.length cS) := hB5.row.cell 1
  have z3 : w3.cell? ⟨gb, 2, none⟩ = some (.slice (some ⟨gP, 0, none⟩) P.length cP) := hB5.row.cell 2
  have z4 := hB5.s_cell (e := e) (by omega)
  rw [c2] at z4
  have z5 := hB5.p_cell he2
  have z6 := own_frozen hB5.pres e
  go_wp2_with fail
  refine hK.out _ _ ⟨z1, z2, z3, z4, z5⟩ (fun hNew => ?_)
  clear hK K hHeld
  have hHeld := hNew
  clear hNew
  try simp only [Act.put, uA, u0, u1]
  refine uN 26 hHeld ?_
  try simp only [Act.put, uA, u0, u1]
  refine wpAnyU_last (i := 27) (by kernel_rfl) rfl (by kernel_rfl) (fun K hK => ?_)
  go_simp
  refine hK.out _ _ ?_
  clear hK K hHeld
  try simp only [Act.put]
  refine wpAnyU_done (by kernel_rfl) ?_ _
  have hbb : Below w1.heap.size w1 w2 := ⟨hb2.os, hb2.tape, hb2.output, hb2.size, hb2.block⟩
  have hk2 := hk1.later hbb
  have hb3 := hb1.trans (hbb.mono hbs)
  have hb4 := hb3.trans (ht4.below hbg (fun k hk => (hB3.nodes.lt k hk).1) (Nat.le_trans hbs hb2.size))
  have hk3 := hk2.two ht4 (show w2.heap[gb]? = some (.cells _ _ _) from hB3.row) (.inl rfl) (own_type hB3.nodes (.inr (.inl rfl)))
  have hB6 := hB5.setP e L.length
  have hk4 : KeptT w (w3.setCell ⟨gP, e, none⟩ (.int .i64 (L.length : Int))) := by
    obtain ⟨c, f, hh⟩ := hB5.near_p
    exact hk3.set_ hh (.inr (.inr (.inr rfl))) e _
  have hb5 := hb4.setCell (p := ⟨gP, e, none⟩) hB5.base_p.1 (.int .i64 (L.length : Int))
  rename_i hTail
  refine hTail _ _ ?_
  go_wp2_with fail
  refine bodyPost_ret (results_none rfl _ _ _) rfl ?_
  subst hS1 hx
  exact ⟨rfl, AN', cN', AV, cV, hB6, hb5, hk4⟩

set_option maxRecDepth 100000 in
set_option maxHeartbeats 8000000 in
/-- A Meet. -/
theorem step_meet (base gb : Nat) (L : List Nd) (S : List (BitVec 32)) (P : List Int) (AN : Option Addr) (cN gS cS gP cP e i : Nat) (k : Int) (cut : BitVec 32) (w : World) (hk1 : k ≠ 1) (hbase : base ≤ w.heap.size) (hT : Tab w)
    (h : BS base gb L S P AN cN gS cS gP cP w) (he : i < S.length) (he2 : i < P.length) (he3 : e < P.length) (hl : L.length ≤ 1000) (hbg : base ≤ gb) :
    Calls Tryd.prog 24 #[.pointer (some ⟨gb, 0, none⟩), .agg #[.int .i64 k, .int .i64 e, .int .i64 i, .int .u32 (uz cut)]] w fun en w' => en = .returned (.tuple #[]) ∧
      ∃ (AN' : Option Addr) (cN' : Nat) (adr : Option Addr) (cap : Nat), BS base gb (L ++ [⟨3, 0, adr, cap, lst (ed S i), pz P i, pz P e, -1, false⟩]) S (P.set i L.length) AN' cN' gS cS gP cP w' ∧ Below base w w' ∧ KeptT w w' := by
  have hkb : (k == 1) = false := by simpa using hk1
  have hkd : decide (k = 1) = false := by simpa using hk1
  go_enter Tryd.func24, Tryd.ntmps24
  go_upto_region 1 with fail
  have hs0 : Row (w.alloc (.cells #[.int .i64 k, .int .i64 e, .int .i64 i, .int .u32 (uz cut)] 84)) w.heap.size 84 [.int .i64 k, .int .i64 e, .int .i64 i, .int .u32 (uz cut)] := Row.new _ _ _
  have hb0 := below_alloc w (.cells #[.int .i64 k, .int .i64 e, .int .i64 i, .int .u32 (uz cut)] 84)
  have hB0 := h.later hb0
  have hT0 := hT.later hb0
  have hk0 := (KeptT.refl w).later hb0
  generalize w.heap.size = gs at hs0 ⊢
  generalize w.alloc _ = w0 at hs0 hB0 hT0 hk0 hb0 ⊢
  have s0 : w0.cell? ⟨gs, 0, none⟩ = some (.int .i64 k) := hs0.cell 0
  have a1 : (0 : Int) ≤ e := by omega
  have a2 : (e : Int) < P.length := by omega
  have a3 : (0 : Int) ≤ i := by omega
  have a4 : (i : Int) < S.length := by omega
  have a5 : (i : Int) < P.length := by omega
  go_upto_region 4 with fail
  clear s0
  have hB2 : BS base gb L S P AN cN gS cS gP cP w0.drew := hB0.drew
  have HLI := Lib.hid (list_any (ed S i) w0.drew hT0)
  have hs2 : Row w0.drew gs 84 [.int .i64 k, .int .i64 e, .int .i64 i, .int .u32 (uz cut)] := hs0
  have q1 : w0.drew.cell? ⟨gs, 1, none⟩ = some (.int .i64 e) := hs2.cell 1
  have q0 : w0.drew.cell? ⟨gs, 2, none⟩ = some (.int .i64 i) := hs2.cell 2
  have q2 : w0.drew.cell? ⟨gb, 1, none⟩ = some (.slice (some ⟨gS, 0, none⟩) S.length cS) := hB2.row.cell 1
  have q3 : w0.drew.cell? ⟨gb, 2, none⟩ = some (.slice (some ⟨gP, 0, none⟩) P.length cP) := hB2.row.cell 2
  have q4 := hB2.s_cell he
  have q5 := hB2.p_cell he2
  have q6 := hB2.p_cell he3
  have hb1 : Below base w w0 := hb0.mono hbase
  have hbs : base ≤ w0.heap.size := Nat.le_trans hbase hb1.size
  refine wp_region_until 35 (fun wx : World => wx.cell? ⟨gs, 1, none⟩ = some (.int .i64 e) ∧ wx.cell? ⟨gs, 2, none⟩ = some (.int .i64 i) ∧ wx.cell? ⟨gb, 1, none⟩ = some (.slice (some ⟨gS, 0, none⟩) S.length cS) ∧ wx.cell? ⟨gb, 2, none⟩ = some (.slice (some ⟨gP, 0, none⟩) P.length cP) ∧ wx.cell? ⟨gS, i, none⟩ = some (.int .u32 (uz (ed S i))) ∧ wx.cell? ⟨gP, i, none⟩ = some (.int .i64 (pz P i)) ∧ wx.cell? ⟨gP, e, none⟩ = some (.int .i64 (pz P e))) (by kernel_rfl) ⟨q1, q0, q2, q3, q4, q5, q6⟩ (fun hHeld => ?_)
  refine uN 0 hHeld ?_
  try simp only [Act.put, uA, u0, u1]
  refine uN 1 hHeld ?_
  try simp only [Act.put, uA, u0, u1]
  refine uN 2 hHeld ?_
  try simp only [Act.put, uA, u0, u1]
  refine uL 3 [3] hHeld ?_
  try simp only [Act.put, uA, u0, u1]
  refine uN 4 hHeld ?_
  try simp only [Act.put, uA, u0, u1]
  refine uL 5 [5] hHeld ?_
  try simp only [Act.put, uA, u0, u1]
  refine uN 6 hHeld ?_
  try simp only [Act.put, uA, u0, u1]
  refine uN 7 hHeld ?_
  try simp only [Act.put, uA, u0, u1]
  refine uN 8 hHeld ?_
  try simp only [Act.put, uA, u0, u1]
  refine uN 9 hHeld ?_
  try simp only [Act.put, uA, u0, u1]
  refine uL 10 [10] hHeld ?_
  try simp only [Act.put, uA, u0, u1]
  refine uN 11 hHeld ?_
  try simp only [Act.put, uA, u0, u1]
  refine uL 12 [12] hHeld ?_
  try simp only [Act.put, uA, u0, u1]
  refine uN 13 hHeld ?_
  try simp only [Act.put, uA, u0, u1]
  refine uL 14 [14] hHeld ?_
  try simp only [Act.put, uA, u0, u1]
  refine uN 16 hHeld ?_
  try simp only [Act.put, uA, u0, u1]
  refine uN 17 hHeld ?_
  try simp only [Act.put, uA, u0, u1]
  refine uN 18 hHeld ?_
  try simp only [Act.put, uA, u0, u1]
  refine uL 19 [19] hHeld ?_
  try simp only [Act.put, uA, u0, u1]
  refine uN 20 hHeld ?_
  try simp only [Act.put, uA, u0, u1]
  refine uL 21 [21] hHeld ?_
  try simp only [Act.put, uA, u0, u1]
  refine uN 22 hHeld ?_
  try simp only [Act.put, uA, u0, u1]
  refine uL 23 [23] hHeld ?_
  try simp only [Act.put, uA, u0, u1]
  refine uN 24 hHeld ?_
  try simp only [Act.put, uA, u0, u1]
  refine uN 25 hHeld ?_
  try simp only [Act.put, uA, u0, u1]
  refine uN 26 hHeld ?_
  try simp only [Act.put, uA, u0, u1]
  refine uL 27 [27] hHeld ?_
  try simp only [Act.put, uA, u0, u1]
  refine uN 28 hHeld ?_
  try simp only [Act.put, uA, u0, u1]
  refine uL 29 [29] hHeld ?_
  try simp only [Act.put, uA, u0, u1]
  refine uN 30 hHeld ?_
  try simp only [Act.put, uA, u0, u1]
  refine uL 31 [31] hHeld ?_
  try simp only [Act.put, uA, u0, u1]
  refine wpAnyU_one (i := 15) (by kernel_rfl) rfl (fun K hK => ?_)
  go_simp
  go_at_call 20
  refine HLI.out.mono ?_
  rintro en w2 ⟨v, rfl, hov, hb2⟩
  obtain ⟨AV, cV, rfl, -⟩ := Rd.of_own hov
  have hB3 := hB2.later hb2
  have hs3 := hs2.later hb2
  have r1 : w2.cell? ⟨gs, 1, none⟩ = some (.int .i64 e) := hs3.cell 1
  have r0 : w2.cell? ⟨gs, 2, none⟩ = some (.int .i64 i) := hs3.cell 2
  have r2 : w2.cell? ⟨gb, 1, none⟩ = some (.slice (some ⟨gS, 0, none⟩) S.length cS) := hB3.row.cell 1
  have r3 : w2.cell? ⟨gb, 2, none⟩ = some (.slice (some ⟨gP, 0, none⟩) P.length cP) := hB3.row.cell 2
  have r4 := hB3.s_cell he
  have r5 := hB3.p_cell he2
  have r6 := hB3.p_cell he3
  go_wp2_with fail
  refine hK.out _ _ ⟨r1, r0, r2, r3, r4, r5, r6⟩ (fun hNew => ?_)
  clear hK K hHeld
  have hHeld := hNew
  clear hNew
  try simp only [Act.put, uA, u0, u1]
  refine uN 32 hHeld ?_
  try simp only [Act.put, uA, u0, u1]
  refine wpAnyU_one (i := 33) (by kernel_rfl) rfl (fun K hK => ?_)
  go_simp
  go_at_call 19
  refine (add_any base gb _ _ _ L ⟨3, 0, AV, cV, lst (ed S i), pz P i, pz P e, 0, false⟩ w2 (Nat.le_trans hbs hb2.size) hB3.row hB3.nodes hl).mono ?_
  rintro en w3 ⟨rfl, AN', cN', hR4, hN4, ht4⟩
  have hFR : ∀ g, (vb ⟨3, 0, AV, cV, lst (ed S i), pz P i, pz P e, -1, false⟩).ownBlock = some g → g ≠ gP ∧ ∀ a ∈ L, (vb a).ownBlock ≠ some g := fun g hg => by
    have h1 := (hov.lt g hg).1
    have h1' : w0.heap.size ≤ g := h1
    have h2 := hB0.base_p.2
    refine ⟨by omega, fun a ha c => ?_⟩
    have h3 := ((hB0.vars a ha).lt g c).2
    omega
  have hB5 : BS base gb (L ++ [⟨3, 0, AV, cV, lst (ed S i), pz P i, pz P e, -1, false⟩]) S P AN' cN' gS cS gP cP w3 := hB3.add ⟨3, 0, AV, cV, lst (ed S i), pz P i, pz P e, -1, false⟩ ht4 hR4 hN4 (own_less hov hbs) hFR
  have hne : gs ≠ gb := fun c => by
    have h1 := hB3.row
    subst c
    unfold Row at h1 hs3
    rw [h1] at hs3
    injection hs3 with hs3
    injection hs3 with _ ht _
    exact absurd ht (by decide)
  have hs5 : Row w3 gs 84 [.int .i64 k, .int .i64 e, .int .i64 i, .int .u32 (uz cut)] := hs3.two ht4 hne (own_row_ne hB3.nodes hs3 (by decide))
  have z1 : w3.cell? ⟨gs, 1, none⟩ = some (.int .i64 e) := hs5.cell 1
  have z0 : w3.cell? ⟨gs, 2, none⟩ = some (.int .i64 i) := hs5.cell 2
  have z2 : w3.cell? ⟨gb, 1, none⟩ = some (.slice (some ⟨gS, 0, none⟩) S.length cS) := hB5.row.cell 1
  have z3 : w3.cell? ⟨gb, 2, none⟩ = some (.slice (some ⟨gP, 0, none⟩) P.length cP) := hB5.row.cell 2
  have z4 := hB5.s_cell he
  have z5 := hB5.p_cell he2
  have z7 := hB5.p_cell he3
  have z6 := own_frozen hB5.pres i
  go_wp2_with fail
  refine hK.out _ _ ⟨z1, z0, z2, z3, z4, z5, z7⟩ (fun hNew => ?_)
  clear hK K hHeld
  have hHeld := hNew
  clear hNew
  try simp only [Act.put, uA, u0, u1]
  refine uN 34 hHeld ?_
  try simp only [Act.put, uA, u0, u1]
  refine wpAnyU_last (i := 35) (by kernel_rfl) rfl (by kernel_rfl) (fun K hK => ?_)
  go_simp
  refine hK.out _ _ ?_
  clear hK K hHeld
  try simp only [Act.put]
  refine wpAnyU_done (by kernel_rfl) ?_ _
  have hbb : Below w0.heap.size w0 w2 := ⟨hb2.os, hb2.tape, hb2.output, hb2.size, hb2.block⟩
  have hk2 := hk0.later hbb
  have hb3 := hb1.trans (hbb.mono hbs)
  have hb4 := hb3.trans (ht4.below hbg (fun k hk => (hB3.nodes.lt k hk).1) (Nat.le_trans hbs hb2.size))
  have hk3 := hk2.two ht4 (show w2.heap[gb]? = some (.cells _ _ _) from hB3.row) (.inl rfl) (own_type hB3.nodes (.inr (.inl rfl)))
  have hB6 := hB5.setP i L.length
  have hk4 : KeptT w (w3.setCell ⟨gP, i, none⟩ (.int .i64 (L.length : Int))) := by
    obtain ⟨c, f, hh⟩ := hB5.near_p
    exact hk3.set_ hh (.inr (.inr (.inr rfl))) i _
  have hb5 := hb4.setCell (p := ⟨gP, i, none⟩) hB5.base_p.1 (.int .i64 (L.length : Int))
  go_wp2_with fail
  go_end0
  exact ⟨rfl, AN', cN', AV, cV, hB6, hb5, hk4⟩
end Go.Proofs.YtdemmjofggemhaaDoor
