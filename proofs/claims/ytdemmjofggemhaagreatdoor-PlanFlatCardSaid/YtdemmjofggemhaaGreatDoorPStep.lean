/- builder.step: a step of a removal as a node of the plan. -/
import Derived.Test.YtdemmjofggemhaaGreatDoorNdMem2
import Derived.Test.YtdemmjofggemhaaGreatDoorRegUntil
namespace Go.Proofs.YtdemmjofggemhaaGreatDoor
open Go.RowKit
attribute [local go_sem ↓] uz_and uz_or uz_andNot uz_beq_zero uz_bne_zero uz_beq uz_bne

section
variable {base gb : Nat} {L : List Nd} {S : List (BitVec 32)} {P : List Int} {AN : Option Addr} {cN gS cS gP cP : Nat} {w w' : World}
theorem BS.later (h : BS base gb L S P AN cN gS cS gP cP w) (hb : Below w.heap.size w w') : BS base gb L S P AN cN gS cS gP cP w' :=
  ⟨h.row.later hb, own_below h.nodes hb, own_below h.sets hb, own_below h.pres hb, fun n hn => own_below (h.vars n hn) hb, h.apart, h.dist⟩
theorem BS.drew (h : BS base gb L S P AN cN gS cS gP cP w) : BS base gb L S P AN cN gS cS gP cP w.drew := ⟨h.row, h.nodes, h.sets, h.pres, h.vars, h.apart, h.dist⟩
theorem BS.near_s (h : BS base gb L S P AN cN gS cS gP cP w) : ∃ c f, w.heap[gS]? = some (.cells c 37 f) := by
  rcases h.sets.2 with ⟨e, _⟩ | ⟨g, cap, cur, hv, _, hh, _⟩
  · cases e
  · injection hv with h1 _ _
    injection h1 with h1
    injection h1 with h1
    subst h1
    exact ⟨_, _, hh⟩
theorem BS.near_p (h : BS base gb L S P AN cN gS cS gP cP w) : ∃ c f, w.heap[gP]? = some (.cells c 3 f) := by
  rcases h.pres.2 with ⟨e, _⟩ | ⟨g, cap, cur, hv, _, hh, _⟩
  · cases e
  · injection hv with h1 _ _
    injection h1 with h1
    injection h1 with h1
    subst h1
    exact ⟨_, _, hh⟩
theorem BS.base_s (h : BS base gb L S P AN cN gS cS gP cP w) : base ≤ gS ∧ gS < w.heap.size := h.sets.lt gS rfl
theorem BS.base_p (h : BS base gb L S P AN cN gS cS gP cP w) : base ≤ gP ∧ gP < w.heap.size := h.pres.lt gP rfl
theorem Tab.kept (h : Tab w) (ht : 0 < base) (hb : Below base w w') : Tab w' := fun k hk => (hb.cell (p := ⟨0, k, none⟩) ht).trans (h k hk)
theorem BS.add (h : BS base gb L S P AN cN gS cS gP cP w) (n : Nd) {AN' : Option Addr} {cN' : Nat} (t : Two gb (Value.slice AN L.length cN).ownBlock w w')
    (hr : Row w' gb 65 [.slice AN' (L.length + 1) cN', .slice (some ⟨gS, 0, none⟩) S.length cS, .slice (some ⟨gP, 0, none⟩) P.length cP]) (ho : w'.ownsRow base 50 7 (.slice AN' (L.length + 1) cN') (L.length + 1) (nds (L ++ [n])))
    (hv : w.ownsRow base 3 1 (vb n) n.vars.length (is n.vars)) (hf : ∀ g, (vb n).ownBlock = some g → g ≠ gP ∧ ∀ a ∈ L, (vb a).ownBlock ≠ some g) : BS base gb (L ++ [n]) S P AN' cN' gS cS gP cP w' := by
  refine ⟨by rw [List.length_append]; exact hr, by rw [List.length_append]; exact ho, own_two h.sets t (own_row_ne h.sets h.row (by decide)) (fun g hg => own_own_ne h.nodes h.sets (by decide) g hg),
    own_two h.pres t (own_row_ne h.pres h.row (by decide)) (fun g hg => own_own_ne h.nodes h.pres (by decide) g hg), fun a ha => ?_, fun a ha => ?_, ?_⟩
  · rcases List.mem_append.1 ha with ha | ha
    · exact own_two (h.vars a ha) t (own_row_ne (h.vars a ha) h.row (by decide)) (fun g hg => own_own_ne h.nodes (h.vars a ha) (by decide) g hg)
    · obtain rfl := List.mem_singleton.1 ha
      exact own_two hv t (own_row_ne hv h.row (by decide)) (fun g hg => own_own_ne h.nodes hv (by decide) g hg)
  · rcases List.mem_append.1 ha with ha | ha
    · exact h.apart a ha
    · obtain rfl := List.mem_singleton.1 ha
      exact fun c => (hf gP c).1 rfl
  · rw [List.pairwise_append]
    refine ⟨h.dist, List.pairwise_singleton _ _, fun a ha b hb g hg c => ?_⟩
    obtain rfl := List.mem_singleton.1 hb
    exact (hf g c).2 a ha hg
theorem own_other {bs g sz n k : Nat} {e : TypeId} {v u : Value} {xs : List Value} (h : w.ownsRow bs e sz v n xs) (hne : v.ownBlock ≠ some g) : (w.setCell ⟨g, k, none⟩ u).ownsRow bs e sz v n xs := ownsRow_setCell_other h (a := ⟨g, k, none⟩) hne u
theorem BS.setS (h : BS base gb L S P AN cN gS cS gP cP w) (e : Nat) (x : BitVec 32) : BS base gb L (S.set e x) P AN cN gS cS gP cP (w.setCell ⟨gS, e, none⟩ (.int .u32 (uz x))) := by
  have hne : gb ≠ gS := fun c => own_row_ne h.sets h.row (by decide) (by rw [c]; rfl)
  refine ⟨?_, own_other h.nodes (own_own_ne h.nodes h.sets (by decide) _ · rfl), ?_, own_other h.pres (own_own_ne h.pres h.sets (by decide) _ · rfl), fun n hn => own_other (h.vars n hn) (own_own_ne (h.vars n hn) h.sets (by decide) _ · rfl), h.apart, h.dist⟩
  · rw [List.length_set]; exact h.row.far hne _
  · have := own_put h.sets (k := e) (.int .u32 (uz x))
    rw [List.length_set]
    rw [show us (S.set e x) = (us S).set e (.int .u32 (uz x)) by simp [us, List.map_set]]
    exact this
theorem BS.setP (h : BS base gb L S P AN cN gS cS gP cP w) (e : Nat) (x : Int) : BS base gb L S (P.set e x) AN cN gS cS gP cP (w.setCell ⟨gP, e, none⟩ (.int .i64 x)) := by
  have hne : gb ≠ gP := fun c => own_row_ne h.pres h.row (by decide) (by rw [c]; rfl)
  refine ⟨?_, own_other h.nodes (own_own_ne h.nodes h.pres (by decide) _ · rfl), own_other h.sets (own_own_ne h.sets h.pres (by decide) _ · rfl), ?_, fun n hn => own_other (h.vars n hn) (h.apart n hn), h.apart, h.dist⟩
  · rw [List.length_set]; exact h.row.far hne _
  · have := own_put h.pres (k := e) (.int .i64 x)
    rw [List.length_set]
    rw [show is (P.set e x) = (is P).set e (.int .i64 x) by simp [is, List.map_set]]
    exact this
theorem BS.s_cell (h : BS base gb L S P AN cN gS cS gP cP w) {e : Nat} (he : e < S.length) : w.cell? ⟨gS, e, none⟩ = some (.int .u32 (uz (ed S e))) := by
  rw [own_cell h.sets (k := e) (by simpa using he)]
  simp only [us, List.getElem_map]
  rw [ed_eq S e he]
theorem BS.p_cell (h : BS base gb L S P AN cN gS cS gP cP w) {e : Nat} (he : e < P.length) : w.cell? ⟨gP, e, none⟩ = some (.int .i64 (pz P e)) := by
  rw [own_cell h.pres (k := e) (by simpa using he)]
  simp only [is, List.getElem_map]
  rw [pz_eq P e he]
end

set_option maxRecDepth 100000 in
set_option maxHeartbeats 8000000 in
/-- A Trim. -/
theorem step_trim (base gb : Nat) (L : List Nd) (S : List (BitVec 32)) (P : List Int) (AN : Option Addr) (cN gS cS gP cP e : Nat) (into : Int) (cut : BitVec 32) (w : World) (hbase : base ≤ w.heap.size) (hT : Tab w)
    (h : BS base gb L S P AN cN gS cS gP cP w) (he : e < S.length) (he2 : e < P.length) (hl : L.length ≤ 1000) (hbg : base ≤ gb) (htb : 0 < base) :
    Calls Tryz.prog 26 #[.pointer (some ⟨gb, 0, none⟩), .agg #[.int .i64 1, .int .i64 e, .int .i64 into, .int .u32 (uz cut)]] w fun en w' => en = .returned (.tuple #[]) ∧
      ∃ (AN' : Option Addr) (cN' : Nat) (adr : Option Addr) (cap : Nat), BS base gb (L ++ [⟨2, 0, adr, cap, lst (ed S e &&& ~~~cut), pz P e, 0, -1, false⟩]) (S.set e (ed S e &&& ~~~cut)) (P.set e L.length) AN' cN' gS cS gP cP w' ∧ Below base w w' ∧ KeptT w w' := by
  go_enter Tryz.func26, Tryz.ntmps26
  go_upto_region 1 with fail
  have hs0 : Row (w.alloc (.cells #[.int .i64 1, .int .i64 e, .int .i64 into, .int .u32 (uz cut)] 80)) w.heap.size 80 [.int .i64 1, .int .i64 e, .int .i64 into, .int .u32 (uz cut)] := Row.new _ _ _
  have hb0 := below_alloc w (.cells #[.int .i64 1, .int .i64 e, .int .i64 into, .int .u32 (uz cut)] 80)
  have hB0 := h.later hb0
  have hT0 := hT.later hb0
  have hk0 := (KeptT.refl w).later hb0
  generalize w.heap.size = gs at hs0 ⊢
  generalize w.alloc _ = w0 at hs0 hB0 hT0 hk0 hb0 ⊢
  have s0 : w0.cell? ⟨gs, 0, none⟩ = some (.int .i64 1) := hs0.cell 0
  have s1 : w0.cell? ⟨gs, 1, none⟩ = some (.int .i64 e) := hs0.cell 1
  have s3 : w0.cell? ⟨gs, 3, none⟩ = some (.int .u32 (uz cut)) := hs0.cell 3
  have b1 : w0.cell? ⟨gb, 1, none⟩ = some (.slice (some ⟨gS, 0, none⟩) S.length cS) := hB0.row.cell 1
  have c1 := hB0.s_cell he
  have f1 := own_frozen hB0.sets e
  have a1 : (0 : Int) ≤ e := by omega
  have a2 : (e : Int) < S.length := by omega
  have a3 : (e : Int) < P.length := by omega
  go_upto_region 2 with fail
  have hB1 := hB0.setS e (ed S e &&& ~~~cut)
  have hs1 : Row (w0.setCell ⟨gS, e, none⟩ (.int .u32 (uz (ed S e &&& ~~~cut)))) gs 80 [.int .i64 1, .int .i64 e, .int .i64 into, .int .u32 (uz cut)] := hs0.far (p := ⟨gS, e, none⟩) (fun c => own_row_ne hB0.sets hs0 (by decide) (by rw [c]; rfl)) _
  have hk1 : KeptT w (w0.setCell ⟨gS, e, none⟩ (.int .u32 (uz (ed S e &&& ~~~cut)))) := by
    obtain ⟨c, f, hh⟩ := hB0.near_s
    exact hk0.set_ hh (.inr (.inr (.inl rfl))) e _
  have hT1 : Tab (w0.setCell ⟨gS, e, none⟩ (.int .u32 (uz (ed S e &&& ~~~cut)))) := hT0.kept htb ((Below.refl base w0).setCell hB0.base_s.1 _)
  have hb1 : Below base w (w0.setCell ⟨gS, e, none⟩ (.int .u32 (uz (ed S e &&& ~~~cut)))) := (hb0.mono hbase).setCell hB0.base_s.1 _
  refine wp_region_until 12 (fun wx : World => wx.cell? ⟨gs, 1, none⟩ = some (.int .i64 e) ∧ wx.cell? ⟨gs, 3, none⟩ = some (.int .u32 (uz cut)) ∧ wx.cell? ⟨gb, 1, none⟩ = some (.slice (some ⟨gS, 0, none⟩) S.length cS) ∧ wx.cell? ⟨gS, e, none⟩ = some (.int .u32 (uz (ed S e)))) (by kernel_rfl) ⟨s1, s3, b1, c1⟩ (fun hHeld => ?_)
  refine' wpAnyU_takeN (i := 0) (oi := ?o2_0) (v := ?v2_0) ?hi2_0 (by kernel_rfl) ?hQ2_0 ?hy2_0 hHeld ?rest2_0
  case hi2_0 => (simp only [List.getElem?_toArray, List.getElem?_cons_zero]; rfl)
  case hQ2_0 => exact fun _ _ _ h => h
  case hy2_0 => (refine Or.inl ⟨by rfl, ?_⟩; intro w hSw; (try dsimp only at hSw); go_simp; (try with_reducible rfl))
  (try simp only [Act.put]); (try simp only [List.setIfInBounds_toArray]); (try simp only [List.set_cons_zero, List.set_cons_succ])
  refine' wpAnyU_takeN (i := 1) (oi := ?o2_1) (v := ?v2_1) ?hi2_1 (by kernel_rfl) ?hQ2_1 ?hy2_1 hHeld ?rest2_1
  case hi2_1 => (simp only [List.getElem?_toArray, List.getElem?_cons_succ, List.getElem?_cons_zero]; rfl)
  case hQ2_1 => exact fun _ _ _ h => h
  case hy2_1 => (refine Or.inl ⟨by rfl, ?_⟩; intro w hSw; (try dsimp only at hSw); go_simp; (try with_reducible rfl))
  (try simp only [Act.put]); (try simp only [List.setIfInBounds_toArray]); (try simp only [List.set_cons_zero, List.set_cons_succ])
  refine' wpAnyU_takeN (i := 2) (oi := ?o2_2) (v := ?v2_2) ?hi2_2 (by kernel_rfl) ?hQ2_2 ?hy2_2 hHeld ?rest2_2
  case hi2_2 => (simp only [List.getElem?_toArray, List.getElem?_cons_succ, List.getElem?_cons_zero]; rfl)
  case hQ2_2 => exact fun _ _ _ h => h
  case hy2_2 => (refine Or.inl ⟨by rfl, ?_⟩; intro w hSw; (try dsimp only at hSw); go_simp; (try with_reducible rfl))
  (try simp only [Act.put]); (try simp only [List.setIfInBounds_toArray]); (try simp only [List.set_cons_zero, List.set_cons_succ])
  refine' wpAnyU_take [3] (i := 3) (oi := ?o2_3) (v := ?v2_3) ?hi2_3 (by kernel_rfl) ?hQ2_3 ?hy2_3 hHeld ?rest2_3
  case hi2_3 => (simp only [List.getElem?_toArray, List.getElem?_cons_succ, List.getElem?_cons_zero]; rfl)
  case hQ2_3 => exact fun _ _ _ h => h
  case hy2_3 => (refine Or.inl ⟨by rfl, ?_⟩; intro w hSw; (try dsimp only at hSw); go_simp; (try with_reducible rfl))
  (try simp only [Act.put]); (try simp only [List.setIfInBounds_toArray]); (try simp only [List.set_cons_zero, List.set_cons_succ])
  refine' wpAnyU_takeN (i := 4) (oi := ?o2_4) (v := ?v2_4) ?hi2_4 (by kernel_rfl) ?hQ2_4 ?hy2_4 hHeld ?rest2_4
  case hi2_4 => (simp only [List.getElem?_toArray, List.getElem?_cons_succ, List.getElem?_cons_zero]; rfl)
  case hQ2_4 => exact fun _ _ _ h => h
  case hy2_4 => (refine Or.inl ⟨by rfl, ?_⟩; intro w hSw; (try dsimp only at hSw); go_simp; (try with_reducible rfl))
  (try simp only [Act.put]); (try simp only [List.setIfInBounds_toArray]); (try simp only [List.set_cons_zero, List.set_cons_succ])
  refine' wpAnyU_take [5] (i := 5) (oi := ?o2_5) (v := ?v2_5) ?hi2_5 (by kernel_rfl) ?hQ2_5 ?hy2_5 hHeld ?rest2_5
  case hi2_5 => (simp only [List.getElem?_toArray, List.getElem?_cons_succ, List.getElem?_cons_zero]; rfl)
  case hQ2_5 => exact fun _ _ _ h => h
  case hy2_5 => (refine Or.inl ⟨by rfl, ?_⟩; intro w hSw; (try dsimp only at hSw); go_simp; (try with_reducible rfl))
  (try simp only [Act.put]); (try simp only [List.setIfInBounds_toArray]); (try simp only [List.set_cons_zero, List.set_cons_succ])
  refine' wpAnyU_takeN (i := 6) (oi := ?o2_6) (v := ?v2_6) ?hi2_6 (by kernel_rfl) ?hQ2_6 ?hy2_6 hHeld ?rest2_6
  case hi2_6 => (simp only [List.getElem?_toArray, List.getElem?_cons_succ, List.getElem?_cons_zero]; rfl)
  case hQ2_6 => exact fun _ _ _ h => h
  case hy2_6 => (refine Or.inl ⟨by rfl, ?_⟩; intro w hSw; (try dsimp only at hSw); go_simp; (try with_reducible rfl))
  (try simp only [Act.put]); (try simp only [List.setIfInBounds_toArray]); (try simp only [List.set_cons_zero, List.set_cons_succ])
  refine' wpAnyU_take [7] (i := 7) (oi := ?o2_7) (v := ?v2_7) ?hi2_7 (by kernel_rfl) ?hQ2_7 ?hy2_7 hHeld ?rest2_7
  case hi2_7 => (simp only [List.getElem?_toArray, List.getElem?_cons_succ, List.getElem?_cons_zero]; rfl)
  case hQ2_7 => exact fun _ _ _ h => h
  case hy2_7 => (refine Or.inl ⟨by rfl, ?_⟩; intro w hSw; (try dsimp only at hSw); go_simp; (try with_reducible rfl))
  (try simp only [Act.put]); (try simp only [List.setIfInBounds_toArray]); (try simp only [List.set_cons_zero, List.set_cons_succ])
  refine' wpAnyU_takeN (i := 8) (oi := ?o2_8) (v := ?v2_8) ?hi2_8 (by kernel_rfl) ?hQ2_8 ?hy2_8 hHeld ?rest2_8
  case hi2_8 => (simp only [List.getElem?_toArray, List.getElem?_cons_succ, List.getElem?_cons_zero]; rfl)
  case hQ2_8 => exact fun _ _ _ h => h
  case hy2_8 => (refine Or.inl ⟨by rfl, ?_⟩; intro w hSw; (try dsimp only at hSw); go_simp; (try with_reducible rfl))
  (try simp only [Act.put]); (try simp only [List.setIfInBounds_toArray]); (try simp only [List.set_cons_zero, List.set_cons_succ])
  refine' wpAnyU_take [9] (i := 9) (oi := ?o2_9) (v := ?v2_9) ?hi2_9 (by kernel_rfl) ?hQ2_9 ?hy2_9 hHeld ?rest2_9
  case hi2_9 => (simp only [List.getElem?_toArray, List.getElem?_cons_succ, List.getElem?_cons_zero]; rfl)
  case hQ2_9 => exact fun _ _ _ h => h
  case hy2_9 => (refine Or.inl ⟨by rfl, ?_⟩; intro w hSw; (try dsimp only at hSw); go_simp; (try with_reducible rfl))
  (try simp only [Act.put]); (try simp only [List.setIfInBounds_toArray]); (try simp only [List.set_cons_zero, List.set_cons_succ])
  refine' wpAnyU_takeN (i := 10) (oi := ?o2_10) (v := ?v2_10) ?hi2_10 (by kernel_rfl) ?hQ2_10 ?hy2_10 hHeld ?rest2_10
  case hi2_10 => (simp only [List.getElem?_toArray, List.getElem?_cons_succ, List.getElem?_cons_zero]; rfl)
  case hQ2_10 => exact fun _ _ _ h => h
  case hy2_10 => (refine Or.inl ⟨by rfl, ?_⟩; intro w hSw; (try dsimp only at hSw); go_simp; (try with_reducible rfl))
  (try simp only [Act.put]); (try simp only [List.setIfInBounds_toArray]); (try simp only [List.set_cons_zero, List.set_cons_succ])
  refine' wpAnyU_takeN (i := 11) (oi := ?o2_11) (v := ?v2_11) ?hi2_11 (by kernel_rfl) ?hQ2_11 ?hy2_11 hHeld ?rest2_11
  case hi2_11 => (simp only [List.getElem?_toArray, List.getElem?_cons_succ, List.getElem?_cons_zero]; rfl)
  case hQ2_11 => exact fun _ _ _ h => h
  case hy2_11 => (refine Or.inl ⟨by rfl, ?_⟩; intro w hSw; (try dsimp only at hSw); go_simp; (try with_reducible rfl))
  (try simp only [Act.put]); (try simp only [List.setIfInBounds_toArray]); (try simp only [List.set_cons_zero, List.set_cons_succ])
  refine wpAnyU_last (i := 12) (by kernel_rfl) rfl (by kernel_rfl) (fun K hK => ?_)
  go_simp
  refine hK.out _ _ ?_
  clear hK K hHeld
  try simp only [Act.put]
  refine wpAnyU_done (by kernel_rfl) ?_ _
  have c2 : ed (S.set e (ed S e &&& ~~~cut)) e = ed S e &&& ~~~cut := by simp [ed, he]
  clear s0 s1 s3 b1 c1 f1 hs0 hB0 hT0 hk0 hb0
  have hSl2 : (S.set e (ed S e &&& ~~~cut)).length = S.length := List.length_set ..
  generalize hx : ed S e &&& ~~~cut = x at hB1 hs1 hk1 hT1 hb1 c2 hSl2 ⊢
  generalize hS1 : S.set e x = S1 at hB1 c2 hSl2 ⊢
  generalize w0.setCell _ _ = w1 at hB1 hs1 hk1 hT1 hb1 ⊢
  go_upto_region 3 with fail
  have hB2 : BS base gb L S1 P AN cN gS cS gP cP w1.drew.drew := hB1.drew.drew
  have HLI := Lib.hid (list_any x w1.drew.drew hT1)
  have hs2 : Row w1.drew.drew gs 80 [.int .i64 1, .int .i64 e, .int .i64 into, .int .u32 (uz cut)] := hs1
  have q1 : w1.drew.drew.cell? ⟨gs, 1, none⟩ = some (.int .i64 e) := hs2.cell 1
  have q2 : w1.drew.drew.cell? ⟨gb, 1, none⟩ = some (.slice (some ⟨gS, 0, none⟩) S1.length cS) := hB2.row.cell 1
  have q3 : w1.drew.drew.cell? ⟨gb, 2, none⟩ = some (.slice (some ⟨gP, 0, none⟩) P.length cP) := hB2.row.cell 2
  have q4 := hB2.s_cell (e := e) (by omega)
  rw [c2] at q4
  have q5 := hB2.p_cell he2
  have a2' : (e : Int) < S1.length := by omega
  have hbs : base ≤ w1.heap.size := Nat.le_trans hbase hb1.size
  refine wp_region_until 27 (fun wx : World => wx.cell? ⟨gs, 1, none⟩ = some (.int .i64 e) ∧ wx.cell? ⟨gb, 1, none⟩ = some (.slice (some ⟨gS, 0, none⟩) S1.length cS) ∧ wx.cell? ⟨gb, 2, none⟩ = some (.slice (some ⟨gP, 0, none⟩) P.length cP) ∧ wx.cell? ⟨gS, e, none⟩ = some (.int .u32 (uz x)) ∧ wx.cell? ⟨gP, e, none⟩ = some (.int .i64 (pz P e))) (by kernel_rfl) ⟨q1, q2, q3, q4, q5⟩ (fun hHeld => ?_)
  refine' wpAnyU_takeN (i := 0) (oi := ?o3_0) (v := ?v3_0) ?hi3_0 (by kernel_rfl) ?hQ3_0 ?hy3_0 hHeld ?rest3_0
  case hi3_0 => (simp only [List.getElem?_toArray, List.getElem?_cons_zero]; rfl)
  case hQ3_0 => exact fun _ _ _ h => h
  case hy3_0 => (refine Or.inl ⟨by rfl, ?_⟩; intro w hSw; (try dsimp only at hSw); go_simp; (try with_reducible rfl))
  (try simp only [Act.put]); (try simp only [List.setIfInBounds_toArray]); (try simp only [List.set_cons_zero, List.set_cons_succ])
  refine' wpAnyU_takeN (i := 1) (oi := ?o3_1) (v := ?v3_1) ?hi3_1 (by kernel_rfl) ?hQ3_1 ?hy3_1 hHeld ?rest3_1
  case hi3_1 => (simp only [List.getElem?_toArray, List.getElem?_cons_succ, List.getElem?_cons_zero]; rfl)
  case hQ3_1 => exact fun _ _ _ h => h
  case hy3_1 => (refine Or.inl ⟨by rfl, ?_⟩; intro w hSw; (try dsimp only at hSw); go_simp; (try with_reducible rfl))
  (try simp only [Act.put]); (try simp only [List.setIfInBounds_toArray]); (try simp only [List.set_cons_zero, List.set_cons_succ])
  refine' wpAnyU_takeN (i := 2) (oi := ?o3_2) (v := ?v3_2) ?hi3_2 (by kernel_rfl) ?hQ3_2 ?hy3_2 hHeld ?rest3_2
  case hi3_2 => (simp only [List.getElem?_toArray, List.getElem?_cons_succ, List.getElem?_cons_zero]; rfl)
  case hQ3_2 => exact fun _ _ _ h => h
  case hy3_2 => (refine Or.inl ⟨by rfl, ?_⟩; intro w hSw; (try dsimp only at hSw); go_simp; (try with_reducible rfl))
  (try simp only [Act.put]); (try simp only [List.setIfInBounds_toArray]); (try simp only [List.set_cons_zero, List.set_cons_succ])
  refine' wpAnyU_take [3] (i := 3) (oi := ?o3_3) (v := ?v3_3) ?hi3_3 (by kernel_rfl) ?hQ3_3 ?hy3_3 hHeld ?rest3_3
  case hi3_3 => (simp only [List.getElem?_toArray, List.getElem?_cons_succ, List.getElem?_cons_zero]; rfl)
  case hQ3_3 => exact fun _ _ _ h => h
  case hy3_3 => (refine Or.inl ⟨by rfl, ?_⟩; intro w hSw; (try dsimp only at hSw); go_simp; (try with_reducible rfl))
  (try simp only [Act.put]); (try simp only [List.setIfInBounds_toArray]); (try simp only [List.set_cons_zero, List.set_cons_succ])
  refine' wpAnyU_takeN (i := 4) (oi := ?o3_4) (v := ?v3_4) ?hi3_4 (by kernel_rfl) ?hQ3_4 ?hy3_4 hHeld ?rest3_4
  case hi3_4 => (simp only [List.getElem?_toArray, List.getElem?_cons_succ, List.getElem?_cons_zero]; rfl)
  case hQ3_4 => exact fun _ _ _ h => h
  case hy3_4 => (refine Or.inl ⟨by rfl, ?_⟩; intro w hSw; (try dsimp only at hSw); go_simp; (try with_reducible rfl))
  (try simp only [Act.put]); (try simp only [List.setIfInBounds_toArray]); (try simp only [List.set_cons_zero, List.set_cons_succ])
  refine' wpAnyU_take [5] (i := 5) (oi := ?o3_5) (v := ?v3_5) ?hi3_5 (by kernel_rfl) ?hQ3_5 ?hy3_5 hHeld ?rest3_5
  case hi3_5 => (simp only [List.getElem?_toArray, List.getElem?_cons_succ, List.getElem?_cons_zero]; rfl)
  case hQ3_5 => exact fun _ _ _ h => h
  case hy3_5 => (refine Or.inl ⟨by rfl, ?_⟩; intro w hSw; (try dsimp only at hSw); go_simp; (try with_reducible rfl))
  (try simp only [Act.put]); (try simp only [List.setIfInBounds_toArray]); (try simp only [List.set_cons_zero, List.set_cons_succ])
  refine' wpAnyU_takeN (i := 6) (oi := ?o3_6) (v := ?v3_6) ?hi3_6 (by kernel_rfl) ?hQ3_6 ?hy3_6 hHeld ?rest3_6
  case hi3_6 => (simp only [List.getElem?_toArray, List.getElem?_cons_succ, List.getElem?_cons_zero]; rfl)
  case hQ3_6 => exact fun _ _ _ h => h
  case hy3_6 => (refine Or.inl ⟨by rfl, ?_⟩; intro w hSw; (try dsimp only at hSw); go_simp; (try with_reducible rfl))
  (try simp only [Act.put]); (try simp only [List.setIfInBounds_toArray]); (try simp only [List.set_cons_zero, List.set_cons_succ])
  refine' wpAnyU_takeN (i := 7) (oi := ?o3_7) (v := ?v3_7) ?hi3_7 (by kernel_rfl) ?hQ3_7 ?hy3_7 hHeld ?rest3_7
  case hi3_7 => (simp only [List.getElem?_toArray, List.getElem?_cons_succ, List.getElem?_cons_zero]; rfl)
  case hQ3_7 => exact fun _ _ _ h => h
  case hy3_7 => (refine Or.inl ⟨by rfl, ?_⟩; intro w hSw; (try dsimp only at hSw); go_simp; (try with_reducible rfl))
  (try simp only [Act.put]); (try simp only [List.setIfInBounds_toArray]); (try simp only [List.set_cons_zero, List.set_cons_succ])
  refine' wpAnyU_takeN (i := 8) (oi := ?o3_8) (v := ?v3_8) ?hi3_8 (by kernel_rfl) ?hQ3_8 ?hy3_8 hHeld ?rest3_8
  case hi3_8 => (simp only [List.getElem?_toArray, List.getElem?_cons_succ, List.getElem?_cons_zero]; rfl)
  case hQ3_8 => exact fun _ _ _ h => h
  case hy3_8 => (refine Or.inl ⟨by rfl, ?_⟩; intro w hSw; (try dsimp only at hSw); go_simp; (try with_reducible rfl))
  (try simp only [Act.put]); (try simp only [List.setIfInBounds_toArray]); (try simp only [List.set_cons_zero, List.set_cons_succ])
  refine' wpAnyU_takeN (i := 9) (oi := ?o3_9) (v := ?v3_9) ?hi3_9 (by kernel_rfl) ?hQ3_9 ?hy3_9 hHeld ?rest3_9
  case hi3_9 => (simp only [List.getElem?_toArray, List.getElem?_cons_succ, List.getElem?_cons_zero]; rfl)
  case hQ3_9 => exact fun _ _ _ h => h
  case hy3_9 => (refine Or.inl ⟨by rfl, ?_⟩; intro w hSw; (try dsimp only at hSw); go_simp; (try with_reducible rfl))
  (try simp only [Act.put]); (try simp only [List.setIfInBounds_toArray]); (try simp only [List.set_cons_zero, List.set_cons_succ])
  refine' wpAnyU_take [10] (i := 10) (oi := ?o3_10) (v := ?v3_10) ?hi3_10 (by kernel_rfl) ?hQ3_10 ?hy3_10 hHeld ?rest3_10
  case hi3_10 => (simp only [List.getElem?_toArray, List.getElem?_cons_succ, List.getElem?_cons_zero]; rfl)
  case hQ3_10 => exact fun _ _ _ h => h
  case hy3_10 => (refine Or.inl ⟨by rfl, ?_⟩; intro w hSw; (try dsimp only at hSw); go_simp; (try with_reducible rfl))
  (try simp only [Act.put]); (try simp only [List.setIfInBounds_toArray]); (try simp only [List.set_cons_zero, List.set_cons_succ])
  refine' wpAnyU_takeN (i := 11) (oi := ?o3_11) (v := ?v3_11) ?hi3_11 (by kernel_rfl) ?hQ3_11 ?hy3_11 hHeld ?rest3_11
  case hi3_11 => (simp only [List.getElem?_toArray, List.getElem?_cons_succ, List.getElem?_cons_zero]; rfl)
  case hQ3_11 => exact fun _ _ _ h => h
  case hy3_11 => (refine Or.inl ⟨by rfl, ?_⟩; intro w hSw; (try dsimp only at hSw); go_simp; (try with_reducible rfl))
  (try simp only [Act.put]); (try simp only [List.setIfInBounds_toArray]); (try simp only [List.set_cons_zero, List.set_cons_succ])
  refine' wpAnyU_take [12] (i := 12) (oi := ?o3_12) (v := ?v3_12) ?hi3_12 (by kernel_rfl) ?hQ3_12 ?hy3_12 hHeld ?rest3_12
  case hi3_12 => (simp only [List.getElem?_toArray, List.getElem?_cons_succ, List.getElem?_cons_zero]; rfl)
  case hQ3_12 => exact fun _ _ _ h => h
  case hy3_12 => (refine Or.inl ⟨by rfl, ?_⟩; intro w hSw; (try dsimp only at hSw); go_simp; (try with_reducible rfl))
  (try simp only [Act.put]); (try simp only [List.setIfInBounds_toArray]); (try simp only [List.set_cons_zero, List.set_cons_succ])
  refine' wpAnyU_takeN (i := 13) (oi := ?o3_13) (v := ?v3_13) ?hi3_13 (by kernel_rfl) ?hQ3_13 ?hy3_13 hHeld ?rest3_13
  case hi3_13 => (simp only [List.getElem?_toArray, List.getElem?_cons_succ, List.getElem?_cons_zero]; rfl)
  case hQ3_13 => exact fun _ _ _ h => h
  case hy3_13 => (refine Or.inl ⟨by rfl, ?_⟩; intro w hSw; (try dsimp only at hSw); go_simp; (try with_reducible rfl))
  (try simp only [Act.put]); (try simp only [List.setIfInBounds_toArray]); (try simp only [List.set_cons_zero, List.set_cons_succ])
  refine' wpAnyU_take [14] (i := 14) (oi := ?o3_14) (v := ?v3_14) ?hi3_14 (by kernel_rfl) ?hQ3_14 ?hy3_14 hHeld ?rest3_14
  case hi3_14 => (simp only [List.getElem?_toArray, List.getElem?_cons_succ, List.getElem?_cons_zero]; rfl)
  case hQ3_14 => exact fun _ _ _ h => h
  case hy3_14 => (refine Or.inl ⟨by rfl, ?_⟩; intro w hSw; (try dsimp only at hSw); go_simp; (try with_reducible rfl))
  (try simp only [Act.put]); (try simp only [List.setIfInBounds_toArray]); (try simp only [List.set_cons_zero, List.set_cons_succ])
  refine' wpAnyU_takeN (i := 16) (oi := ?o3_16) (v := ?v3_16) ?hi3_16 (by kernel_rfl) ?hQ3_16 ?hy3_16 hHeld ?rest3_16
  case hi3_16 => (simp only [List.getElem?_toArray, List.getElem?_cons_succ, List.getElem?_cons_zero]; rfl)
  case hQ3_16 => exact fun _ _ _ h => h
  case hy3_16 => (refine Or.inl ⟨by rfl, ?_⟩; intro w hSw; (try dsimp only at hSw); go_simp; (try with_reducible rfl))
  (try simp only [Act.put]); (try simp only [List.setIfInBounds_toArray]); (try simp only [List.set_cons_zero, List.set_cons_succ])
  refine' wpAnyU_takeN (i := 17) (oi := ?o3_17) (v := ?v3_17) ?hi3_17 (by kernel_rfl) ?hQ3_17 ?hy3_17 hHeld ?rest3_17
  case hi3_17 => (simp only [List.getElem?_toArray, List.getElem?_cons_succ, List.getElem?_cons_zero]; rfl)
  case hQ3_17 => exact fun _ _ _ h => h
  case hy3_17 => (refine Or.inl ⟨by rfl, ?_⟩; intro w hSw; (try dsimp only at hSw); go_simp; (try with_reducible rfl))
  (try simp only [Act.put]); (try simp only [List.setIfInBounds_toArray]); (try simp only [List.set_cons_zero, List.set_cons_succ])
  refine' wpAnyU_takeN (i := 18) (oi := ?o3_18) (v := ?v3_18) ?hi3_18 (by kernel_rfl) ?hQ3_18 ?hy3_18 hHeld ?rest3_18
  case hi3_18 => (simp only [List.getElem?_toArray, List.getElem?_cons_succ, List.getElem?_cons_zero]; rfl)
  case hQ3_18 => exact fun _ _ _ h => h
  case hy3_18 => (refine Or.inl ⟨by rfl, ?_⟩; intro w hSw; (try dsimp only at hSw); go_simp; (try with_reducible rfl))
  (try simp only [Act.put]); (try simp only [List.setIfInBounds_toArray]); (try simp only [List.set_cons_zero, List.set_cons_succ])
  refine' wpAnyU_take [19] (i := 19) (oi := ?o3_19) (v := ?v3_19) ?hi3_19 (by kernel_rfl) ?hQ3_19 ?hy3_19 hHeld ?rest3_19
  case hi3_19 => (simp only [List.getElem?_toArray, List.getElem?_cons_succ, List.getElem?_cons_zero]; rfl)
  case hQ3_19 => exact fun _ _ _ h => h
  case hy3_19 => (refine Or.inl ⟨by rfl, ?_⟩; intro w hSw; (try dsimp only at hSw); go_simp; (try with_reducible rfl))
  (try simp only [Act.put]); (try simp only [List.setIfInBounds_toArray]); (try simp only [List.set_cons_zero, List.set_cons_succ])
  refine' wpAnyU_takeN (i := 20) (oi := ?o3_20) (v := ?v3_20) ?hi3_20 (by kernel_rfl) ?hQ3_20 ?hy3_20 hHeld ?rest3_20
  case hi3_20 => (simp only [List.getElem?_toArray, List.getElem?_cons_succ, List.getElem?_cons_zero]; rfl)
  case hQ3_20 => exact fun _ _ _ h => h
  case hy3_20 => (refine Or.inl ⟨by rfl, ?_⟩; intro w hSw; (try dsimp only at hSw); go_simp; (try with_reducible rfl))
  (try simp only [Act.put]); (try simp only [List.setIfInBounds_toArray]); (try simp only [List.set_cons_zero, List.set_cons_succ])
  refine' wpAnyU_take [21] (i := 21) (oi := ?o3_21) (v := ?v3_21) ?hi3_21 (by kernel_rfl) ?hQ3_21 ?hy3_21 hHeld ?rest3_21
  case hi3_21 => (simp only [List.getElem?_toArray, List.getElem?_cons_succ, List.getElem?_cons_zero]; rfl)
  case hQ3_21 => exact fun _ _ _ h => h
  case hy3_21 => (refine Or.inl ⟨by rfl, ?_⟩; intro w hSw; (try dsimp only at hSw); go_simp; (try with_reducible rfl))
  (try simp only [Act.put]); (try simp only [List.setIfInBounds_toArray]); (try simp only [List.set_cons_zero, List.set_cons_succ])
  refine' wpAnyU_takeN (i := 22) (oi := ?o3_22) (v := ?v3_22) ?hi3_22 (by kernel_rfl) ?hQ3_22 ?hy3_22 hHeld ?rest3_22
  case hi3_22 => (simp only [List.getElem?_toArray, List.getElem?_cons_succ, List.getElem?_cons_zero]; rfl)
  case hQ3_22 => exact fun _ _ _ h => h
  case hy3_22 => (refine Or.inl ⟨by rfl, ?_⟩; intro w hSw; (try dsimp only at hSw); go_simp; (try with_reducible rfl))
  (try simp only [Act.put]); (try simp only [List.setIfInBounds_toArray]); (try simp only [List.set_cons_zero, List.set_cons_succ])
  refine' wpAnyU_take [23] (i := 23) (oi := ?o3_23) (v := ?v3_23) ?hi3_23 (by kernel_rfl) ?hQ3_23 ?hy3_23 hHeld ?rest3_23
  case hi3_23 => (simp only [List.getElem?_toArray, List.getElem?_cons_succ, List.getElem?_cons_zero]; rfl)
  case hQ3_23 => exact fun _ _ _ h => h
  case hy3_23 => (refine Or.inl ⟨by rfl, ?_⟩; intro w hSw; (try dsimp only at hSw); go_simp; (try with_reducible rfl))
  (try simp only [Act.put]); (try simp only [List.setIfInBounds_toArray]); (try simp only [List.set_cons_zero, List.set_cons_succ])
  refine wpAnyU_one (i := 15) (by kernel_rfl) rfl (fun K hK => ?_)
  go_simp
  go_at_call 22
  refine HLI.out.mono ?_
  rintro en w2 ⟨v, rfl, hov, hb2⟩
  obtain ⟨AV, cV, rfl, -⟩ := Rd.of_own hov
  have hB3 := hB2.later hb2
  have hs3 := hs2.later hb2
  have r1 : w2.cell? ⟨gs, 1, none⟩ = some (.int .i64 e) := hs3.cell 1
  have r2 : w2.cell? ⟨gb, 1, none⟩ = some (.slice (some ⟨gS, 0, none⟩) S1.length cS) := hB3.row.cell 1
  have r3 : w2.cell? ⟨gb, 2, none⟩ = some (.slice (some ⟨gP, 0, none⟩) P.length cP) := hB3.row.cell 2
  have r4 := hB3.s_cell (e := e) (by omega)
  rw [c2] at r4
  have r5 := hB3.p_cell he2
  go_wp2_with fail
  refine hK.out _ _ ⟨r1, r2, r3, r4, r5⟩ (fun hNew => ?_)
  clear hK K hHeld
  have hHeld := hNew
  clear hNew
  (try simp only [Act.put]); (try simp only [List.setIfInBounds_toArray]); (try simp only [List.set_cons_zero, List.set_cons_succ])
  refine' wpAnyU_takeN (i := 24) (oi := ?o3_24) (v := ?v3_24) ?hi3_24 (by kernel_rfl) ?hQ3_24 ?hy3_24 hHeld ?rest3_24
  case hi3_24 => (simp only [List.getElem?_toArray, List.getElem?_cons_succ, List.getElem?_cons_zero]; rfl)
  case hQ3_24 => exact fun _ _ _ h => h
  case hy3_24 => (refine Or.inl ⟨by rfl, ?_⟩; intro w hSw; (try dsimp only at hSw); go_simp; (try with_reducible rfl))
  (try simp only [Act.put]); (try simp only [List.setIfInBounds_toArray]); (try simp only [List.set_cons_zero, List.set_cons_succ])
  refine wpAnyU_one (i := 25) (by kernel_rfl) rfl (fun K hK => ?_)
  go_simp
  go_at_call 21
  refine (add_any base gb _ _ _ L ⟨2, 0, AV, cV, lst x, pz P e, 0, 0, false⟩ w2 (Nat.le_trans hbs hb2.size) hB3.row hB3.nodes hl).mono ?_
  rintro en w3 ⟨rfl, AN', cN', hR4, hN4, ht4⟩
  have hFR : ∀ g, (vb ⟨2, 0, AV, cV, lst x, pz P e, 0, -1, false⟩).ownBlock = some g → g ≠ gP ∧ ∀ a ∈ L, (vb a).ownBlock ≠ some g := fun g hg => by
    have h1 := (hov.lt g hg).1
    have h1' : w1.heap.size ≤ g := h1
    have h2 := hB1.base_p.2
    refine ⟨by omega, fun a ha c => ?_⟩
    have h3 := ((hB1.vars a ha).lt g c).2
    omega
  have hB5 : BS base gb (L ++ [⟨2, 0, AV, cV, lst x, pz P e, 0, -1, false⟩]) S1 P AN' cN' gS cS gP cP w3 := hB3.add ⟨2, 0, AV, cV, lst x, pz P e, 0, -1, false⟩ ht4 hR4 hN4 (own_less hov hbs) hFR
  have hne : gs ≠ gb := fun c => by
    have h1 := hB3.row
    subst c
    unfold Row at h1 hs3
    rw [h1] at hs3
    injection hs3 with hs3
    injection hs3 with _ ht _
    exact absurd ht (by decide)
  have hs5 : Row w3 gs 80 [.int .i64 1, .int .i64 e, .int .i64 into, .int .u32 (uz cut)] := hs3.two ht4 hne (own_row_ne hB3.nodes hs3 (by decide))
  have z1 : w3.cell? ⟨gs, 1, none⟩ = some (.int .i64 e) := hs5.cell 1
  have z2 : w3.cell? ⟨gb, 1, none⟩ = some (.slice (some ⟨gS, 0, none⟩) S1.length cS) := hB5.row.cell 1
  have z3 : w3.cell? ⟨gb, 2, none⟩ = some (.slice (some ⟨gP, 0, none⟩) P.length cP) := hB5.row.cell 2
  have z4 := hB5.s_cell (e := e) (by omega)
  rw [c2] at z4
  have z5 := hB5.p_cell he2
  have z6 := own_frozen hB5.pres e
  go_wp2_with fail
  refine hK.out _ _ ⟨z1, z2, z3, z4, z5⟩ (fun hNew => ?_)
  clear hK K hHeld
  have hHeld := hNew
  clear hNew
  (try simp only [Act.put]); (try simp only [List.setIfInBounds_toArray]); (try simp only [List.set_cons_zero, List.set_cons_succ])
  refine' wpAnyU_takeN (i := 26) (oi := ?o3_26) (v := ?v3_26) ?hi3_26 (by kernel_rfl) ?hQ3_26 ?hy3_26 hHeld ?rest3_26
  case hi3_26 => (simp only [List.getElem?_toArray, List.getElem?_cons_succ, List.getElem?_cons_zero]; rfl)
  case hQ3_26 => exact fun _ _ _ h => h
  case hy3_26 => (refine Or.inl ⟨by rfl, ?_⟩; intro w hSw; (try dsimp only at hSw); go_simp; (try with_reducible rfl))
  (try simp only [Act.put]); (try simp only [List.setIfInBounds_toArray]); (try simp only [List.set_cons_zero, List.set_cons_succ])
  refine wpAnyU_last (i := 27) (by kernel_rfl) rfl (by kernel_rfl) (fun K hK => ?_)
  go_simp
  refine hK.out _ _ ?_
  clear hK K hHeld
  try simp only [Act.put]
  refine wpAnyU_done (by kernel_rfl) ?_ _
  have hbb : Below w1.heap.size w1 w2 := ⟨hb2.os, hb2.tape, hb2.output, hb2.size, hb2.block⟩
  have hk2 := hk1.later hbb
  have hb3 := hb1.trans (hbb.mono hbs)
  have hb4 := hb3.trans (ht4.below hbg (fun k hk => (hB3.nodes.lt k hk).1) (Nat.le_trans hbs hb2.size))
  have hk3 := hk2.two ht4 (show w2.heap[gb]? = some (.cells _ _ _) from hB3.row) (.inl rfl) (own_type hB3.nodes (.inr (.inl rfl)))
  have hB6 := hB5.setP e L.length
  have hk4 : KeptT w (w3.setCell ⟨gP, e, none⟩ (.int .i64 (L.length : Int))) := by
    obtain ⟨c, f, hh⟩ := hB5.near_p
    exact hk3.set_ hh (.inr (.inr (.inr rfl))) e _
  have hb5 := hb4.setCell (p := ⟨gP, e, none⟩) hB5.base_p.1 (.int .i64 (L.length : Int))
  rename_i hTail
  refine hTail _ _ ?_
  go_wp2_with fail
  refine bodyPost_ret (results_none rfl _ _ _) rfl ?_
  subst hS1 hx
  exact ⟨rfl, AN', cN', AV, cV, hB6, hb5, hk4⟩

set_option maxRecDepth 100000 in
set_option maxHeartbeats 8000000 in
/-- A Meet. -/
theorem step_meet (base gb : Nat) (L : List Nd) (S : List (BitVec 32)) (P : List Int) (AN : Option Addr) (cN gS cS gP cP e i : Nat) (k : Int) (cut : BitVec 32) (w : World) (hk1 : k ≠ 1) (hbase : base ≤ w.heap.size) (hT : Tab w)
    (h : BS base gb L S P AN cN gS cS gP cP w) (he : i < S.length) (he2 : i < P.length) (he3 : e < P.length) (hl : L.length ≤ 1000) (hbg : base ≤ gb) :
    Calls Tryz.prog 26 #[.pointer (some ⟨gb, 0, none⟩), .agg #[.int .i64 k, .int .i64 e, .int .i64 i, .int .u32 (uz cut)]] w fun en w' => en = .returned (.tuple #[]) ∧
      ∃ (AN' : Option Addr) (cN' : Nat) (adr : Option Addr) (cap : Nat), BS base gb (L ++ [⟨3, 0, adr, cap, lst (ed S i), pz P i, pz P e, -1, false⟩]) S (P.set i L.length) AN' cN' gS cS gP cP w' ∧ Below base w w' ∧ KeptT w w' := by
  have hkb : (k == 1) = false := by simpa using hk1
  have hkd : decide (k = 1) = false := by simpa using hk1
  go_enter Tryz.func26, Tryz.ntmps26
  go_upto_region 1 with fail
  have hs0 : Row (w.alloc (.cells #[.int .i64 k, .int .i64 e, .int .i64 i, .int .u32 (uz cut)] 80)) w.heap.size 80 [.int .i64 k, .int .i64 e, .int .i64 i, .int .u32 (uz cut)] := Row.new _ _ _
  have hb0 := below_alloc w (.cells #[.int .i64 k, .int .i64 e, .int .i64 i, .int .u32 (uz cut)] 80)
  have hB0 := h.later hb0
  have hT0 := hT.later hb0
  have hk0 := (KeptT.refl w).later hb0
  generalize w.heap.size = gs at hs0 ⊢
  generalize w.alloc _ = w0 at hs0 hB0 hT0 hk0 hb0 ⊢
  have s0 : w0.cell? ⟨gs, 0, none⟩ = some (.int .i64 k) := hs0.cell 0
  have a1 : (0 : Int) ≤ e := by omega
  have a2 : (e : Int) < P.length := by omega
  have a3 : (0 : Int) ≤ i := by omega
  have a4 : (i : Int) < S.length := by omega
  have a5 : (i : Int) < P.length := by omega
  go_upto_region 4 with fail
  clear s0
  have hB2 : BS base gb L S P AN cN gS cS gP cP w0.drew := hB0.drew
  have HLI := Lib.hid (list_any (ed S i) w0.drew hT0)
  have hs2 : Row w0.drew gs 80 [.int .i64 k, .int .i64 e, .int .i64 i, .int .u32 (uz cut)] := hs0
  have q1 : w0.drew.cell? ⟨gs, 1, none⟩ = some (.int .i64 e) := hs2.cell 1
  have q0 : w0.drew.cell? ⟨gs, 2, none⟩ = some (.int .i64 i) := hs2.cell 2
  have q2 : w0.drew.cell? ⟨gb, 1, none⟩ = some (.slice (some ⟨gS, 0, none⟩) S.length cS) := hB2.row.cell 1
  have q3 : w0.drew.cell? ⟨gb, 2, none⟩ = some (.slice (some ⟨gP, 0, none⟩) P.length cP) := hB2.row.cell 2
  have q4 := hB2.s_cell he
  have q5 := hB2.p_cell he2
  have q6 := hB2.p_cell he3
  have hb1 : Below base w w0 := hb0.mono hbase
  have hbs : base ≤ w0.heap.size := Nat.le_trans hbase hb1.size
  refine wp_region_until 35 (fun wx : World => wx.cell? ⟨gs, 1, none⟩ = some (.int .i64 e) ∧ wx.cell? ⟨gs, 2, none⟩ = some (.int .i64 i) ∧ wx.cell? ⟨gb, 1, none⟩ = some (.slice (some ⟨gS, 0, none⟩) S.length cS) ∧ wx.cell? ⟨gb, 2, none⟩ = some (.slice (some ⟨gP, 0, none⟩) P.length cP) ∧ wx.cell? ⟨gS, i, none⟩ = some (.int .u32 (uz (ed S i))) ∧ wx.cell? ⟨gP, i, none⟩ = some (.int .i64 (pz P i)) ∧ wx.cell? ⟨gP, e, none⟩ = some (.int .i64 (pz P e))) (by kernel_rfl) ⟨q1, q0, q2, q3, q4, q5, q6⟩ (fun hHeld => ?_)
  refine' wpAnyU_takeN (i := 0) (oi := ?o4_0) (v := ?v4_0) ?hi4_0 (by kernel_rfl) ?hQ4_0 ?hy4_0 hHeld ?rest4_0
  case hi4_0 => (simp only [List.getElem?_toArray, List.getElem?_cons_zero]; rfl)
  case hQ4_0 => exact fun _ _ _ h => h
  case hy4_0 => (refine Or.inl ⟨by rfl, ?_⟩; intro w hSw; (try dsimp only at hSw); go_simp; (try with_reducible rfl))
  (try simp only [Act.put]); (try simp only [List.setIfInBounds_toArray]); (try simp only [List.set_cons_zero, List.set_cons_succ])
  refine' wpAnyU_takeN (i := 1) (oi := ?o4_1) (v := ?v4_1) ?hi4_1 (by kernel_rfl) ?hQ4_1 ?hy4_1 hHeld ?rest4_1
  case hi4_1 => (simp only [List.getElem?_toArray, List.getElem?_cons_succ, List.getElem?_cons_zero]; rfl)
  case hQ4_1 => exact fun _ _ _ h => h
  case hy4_1 => (refine Or.inl ⟨by rfl, ?_⟩; intro w hSw; (try dsimp only at hSw); go_simp; (try with_reducible rfl))
  (try simp only [Act.put]); (try simp only [List.setIfInBounds_toArray]); (try simp only [List.set_cons_zero, List.set_cons_succ])
  refine' wpAnyU_takeN (i := 2) (oi := ?o4_2) (v := ?v4_2) ?hi4_2 (by kernel_rfl) ?hQ4_2 ?hy4_2 hHeld ?rest4_2
  case hi4_2 => (simp only [List.getElem?_toArray, List.getElem?_cons_succ, List.getElem?_cons_zero]; rfl)
  case hQ4_2 => exact fun _ _ _ h => h
  case hy4_2 => (refine Or.inl ⟨by rfl, ?_⟩; intro w hSw; (try dsimp only at hSw); go_simp; (try with_reducible rfl))
  (try simp only [Act.put]); (try simp only [List.setIfInBounds_toArray]); (try simp only [List.set_cons_zero, List.set_cons_succ])
  refine' wpAnyU_take [3] (i := 3) (oi := ?o4_3) (v := ?v4_3) ?hi4_3 (by kernel_rfl) ?hQ4_3 ?hy4_3 hHeld ?rest4_3
  case hi4_3 => (simp only [List.getElem?_toArray, List.getElem?_cons_succ, List.getElem?_cons_zero]; rfl)
  case hQ4_3 => exact fun _ _ _ h => h
  case hy4_3 => (refine Or.inl ⟨by rfl, ?_⟩; intro w hSw; (try dsimp only at hSw); go_simp; (try with_reducible rfl))
  (try simp only [Act.put]); (try simp only [List.setIfInBounds_toArray]); (try simp only [List.set_cons_zero, List.set_cons_succ])
  refine' wpAnyU_takeN (i := 4) (oi := ?o4_4) (v := ?v4_4) ?hi4_4 (by kernel_rfl) ?hQ4_4 ?hy4_4 hHeld ?rest4_4
  case hi4_4 => (simp only [List.getElem?_toArray, List.getElem?_cons_succ, List.getElem?_cons_zero]; rfl)
  case hQ4_4 => exact fun _ _ _ h => h
  case hy4_4 => (refine Or.inl ⟨by rfl, ?_⟩; intro w hSw; (try dsimp only at hSw); go_simp; (try with_reducible rfl))
  (try simp only [Act.put]); (try simp only [List.setIfInBounds_toArray]); (try simp only [List.set_cons_zero, List.set_cons_succ])
  refine' wpAnyU_take [5] (i := 5) (oi := ?o4_5) (v := ?v4_5) ?hi4_5 (by kernel_rfl) ?hQ4_5 ?hy4_5 hHeld ?rest4_5
  case hi4_5 => (simp only [List.getElem?_toArray, List.getElem?_cons_succ, List.getElem?_cons_zero]; rfl)
  case hQ4_5 => exact fun _ _ _ h => h
  case hy4_5 => (refine Or.inl ⟨by rfl, ?_⟩; intro w hSw; (try dsimp only at hSw); go_simp; (try with_reducible rfl))
  (try simp only [Act.put]); (try simp only [List.setIfInBounds_toArray]); (try simp only [List.set_cons_zero, List.set_cons_succ])
  refine' wpAnyU_takeN (i := 6) (oi := ?o4_6) (v := ?v4_6) ?hi4_6 (by kernel_rfl) ?hQ4_6 ?hy4_6 hHeld ?rest4_6
  case hi4_6 => (simp only [List.getElem?_toArray, List.getElem?_cons_succ, List.getElem?_cons_zero]; rfl)
  case hQ4_6 => exact fun _ _ _ h => h
  case hy4_6 => (refine Or.inl ⟨by rfl, ?_⟩; intro w hSw; (try dsimp only at hSw); go_simp; (try with_reducible rfl))
  (try simp only [Act.put]); (try simp only [List.setIfInBounds_toArray]); (try simp only [List.set_cons_zero, List.set_cons_succ])
  refine' wpAnyU_takeN (i := 7) (oi := ?o4_7) (v := ?v4_7) ?hi4_7 (by kernel_rfl) ?hQ4_7 ?hy4_7 hHeld ?rest4_7
  case hi4_7 => (simp only [List.getElem?_toArray, List.getElem?_cons_succ, List.getElem?_cons_zero]; rfl)
  case hQ4_7 => exact fun _ _ _ h => h
  case hy4_7 => (refine Or.inl ⟨by rfl, ?_⟩; intro w hSw; (try dsimp only at hSw); go_simp; (try with_reducible rfl))
  (try simp only [Act.put]); (try simp only [List.setIfInBounds_toArray]); (try simp only [List.set_cons_zero, List.set_cons_succ])
  refine' wpAnyU_takeN (i := 8) (oi := ?o4_8) (v := ?v4_8) ?hi4_8 (by kernel_rfl) ?hQ4_8 ?hy4_8 hHeld ?rest4_8
  case hi4_8 => (simp only [List.getElem?_toArray, List.getElem?_cons_succ, List.getElem?_cons_zero]; rfl)
  case hQ4_8 => exact fun _ _ _ h => h
  case hy4_8 => (refine Or.inl ⟨by rfl, ?_⟩; intro w hSw; (try dsimp only at hSw); go_simp; (try with_reducible rfl))
  (try simp only [Act.put]); (try simp only [List.setIfInBounds_toArray]); (try simp only [List.set_cons_zero, List.set_cons_succ])
  refine' wpAnyU_takeN (i := 9) (oi := ?o4_9) (v := ?v4_9) ?hi4_9 (by kernel_rfl) ?hQ4_9 ?hy4_9 hHeld ?rest4_9
  case hi4_9 => (simp only [List.getElem?_toArray, List.getElem?_cons_succ, List.getElem?_cons_zero]; rfl)
  case hQ4_9 => exact fun _ _ _ h => h
  case hy4_9 => (refine Or.inl ⟨by rfl, ?_⟩; intro w hSw; (try dsimp only at hSw); go_simp; (try with_reducible rfl))
  (try simp only [Act.put]); (try simp only [List.setIfInBounds_toArray]); (try simp only [List.set_cons_zero, List.set_cons_succ])
  refine' wpAnyU_take [10] (i := 10) (oi := ?o4_10) (v := ?v4_10) ?hi4_10 (by kernel_rfl) ?hQ4_10 ?hy4_10 hHeld ?rest4_10
  case hi4_10 => (simp only [List.getElem?_toArray, List.getElem?_cons_succ, List.getElem?_cons_zero]; rfl)
  case hQ4_10 => exact fun _ _ _ h => h
  case hy4_10 => (refine Or.inl ⟨by rfl, ?_⟩; intro w hSw; (try dsimp only at hSw); go_simp; (try with_reducible rfl))
  (try simp only [Act.put]); (try simp only [List.setIfInBounds_toArray]); (try simp only [List.set_cons_zero, List.set_cons_succ])
  refine' wpAnyU_takeN (i := 11) (oi := ?o4_11) (v := ?v4_11) ?hi4_11 (by kernel_rfl) ?hQ4_11 ?hy4_11 hHeld ?rest4_11
  case hi4_11 => (simp only [List.getElem?_toArray, List.getElem?_cons_succ, List.getElem?_cons_zero]; rfl)
  case hQ4_11 => exact fun _ _ _ h => h
  case hy4_11 => (refine Or.inl ⟨by rfl, ?_⟩; intro w hSw; (try dsimp only at hSw); go_simp; (try with_reducible rfl))
  (try simp only [Act.put]); (try simp only [List.setIfInBounds_toArray]); (try simp only [List.set_cons_zero, List.set_cons_succ])
  refine' wpAnyU_take [12] (i := 12) (oi := ?o4_12) (v := ?v4_12) ?hi4_12 (by kernel_rfl) ?hQ4_12 ?hy4_12 hHeld ?rest4_12
  case hi4_12 => (simp only [List.getElem?_toArray, List.getElem?_cons_succ, List.getElem?_cons_zero]; rfl)
  case hQ4_12 => exact fun _ _ _ h => h
  case hy4_12 => (refine Or.inl ⟨by rfl, ?_⟩; intro w hSw; (try dsimp only at hSw); go_simp; (try with_reducible rfl))
  (try simp only [Act.put]); (try simp only [List.setIfInBounds_toArray]); (try simp only [List.set_cons_zero, List.set_cons_succ])
  refine' wpAnyU_takeN (i := 13) (oi := ?o4_13) (v := ?v4_13) ?hi4_13 (by kernel_rfl) ?hQ4_13 ?hy4_13 hHeld ?rest4_13
  case hi4_13 => (simp only [List.getElem?_toArray, List.getElem?_cons_succ, List.getElem?_cons_zero]; rfl)
  case hQ4_13 => exact fun _ _ _ h => h
  case hy4_13 => (refine Or.inl ⟨by rfl, ?_⟩; intro w hSw; (try dsimp only at hSw); go_simp; (try with_reducible rfl))
  (try simp only [Act.put]); (try simp only [List.setIfInBounds_toArray]); (try simp only [List.set_cons_zero, List.set_cons_succ])
  refine' wpAnyU_take [14] (i := 14) (oi := ?o4_14) (v := ?v4_14) ?hi4_14 (by kernel_rfl) ?hQ4_14 ?hy4_14 hHeld ?rest4_14
  case hi4_14 => (simp only [List.getElem?_toArray, List.getElem?_cons_succ, List.getElem?_cons_zero]; rfl)
  case hQ4_14 => exact fun _ _ _ h => h
  case hy4_14 => (refine Or.inl ⟨by rfl, ?_⟩; intro w hSw; (try dsimp only at hSw); go_simp; (try with_reducible rfl))
  (try simp only [Act.put]); (try simp only [List.setIfInBounds_toArray]); (try simp only [List.set_cons_zero, List.set_cons_succ])
  refine' wpAnyU_takeN (i := 16) (oi := ?o4_16) (v := ?v4_16) ?hi4_16 (by kernel_rfl) ?hQ4_16 ?hy4_16 hHeld ?rest4_16
  case hi4_16 => (simp only [List.getElem?_toArray, List.getElem?_cons_succ, List.getElem?_cons_zero]; rfl)
  case hQ4_16 => exact fun _ _ _ h => h
  case hy4_16 => (refine Or.inl ⟨by rfl, ?_⟩; intro w hSw; (try dsimp only at hSw); go_simp; (try with_reducible rfl))
  (try simp only [Act.put]); (try simp only [List.setIfInBounds_toArray]); (try simp only [List.set_cons_zero, List.set_cons_succ])
  refine' wpAnyU_takeN (i := 17) (oi := ?o4_17) (v := ?v4_17) ?hi4_17 (by kernel_rfl) ?hQ4_17 ?hy4_17 hHeld ?rest4_17
  case hi4_17 => (simp only [List.getElem?_toArray, List.getElem?_cons_succ, List.getElem?_cons_zero]; rfl)
  case hQ4_17 => exact fun _ _ _ h => h
  case hy4_17 => (refine Or.inl ⟨by rfl, ?_⟩; intro w hSw; (try dsimp only at hSw); go_simp; (try with_reducible rfl))
  (try simp only [Act.put]); (try simp only [List.setIfInBounds_toArray]); (try simp only [List.set_cons_zero, List.set_cons_succ])
  refine' wpAnyU_takeN (i := 18) (oi := ?o4_18) (v := ?v4_18) ?hi4_18 (by kernel_rfl) ?hQ4_18 ?hy4_18 hHeld ?rest4_18
  case hi4_18 => (simp only [List.getElem?_toArray, List.getElem?_cons_succ, List.getElem?_cons_zero]; rfl)
  case hQ4_18 => exact fun _ _ _ h => h
  case hy4_18 => (refine Or.inl ⟨by rfl, ?_⟩; intro w hSw; (try dsimp only at hSw); go_simp; (try with_reducible rfl))
  (try simp only [Act.put]); (try simp only [List.setIfInBounds_toArray]); (try simp only [List.set_cons_zero, List.set_cons_succ])
  refine' wpAnyU_take [19] (i := 19) (oi := ?o4_19) (v := ?v4_19) ?hi4_19 (by kernel_rfl) ?hQ4_19 ?hy4_19 hHeld ?rest4_19
  case hi4_19 => (simp only [List.getElem?_toArray, List.getElem?_cons_succ, List.getElem?_cons_zero]; rfl)
  case hQ4_19 => exact fun _ _ _ h => h
  case hy4_19 => (refine Or.inl ⟨by rfl, ?_⟩; intro w hSw; (try dsimp only at hSw); go_simp; (try with_reducible rfl))
  (try simp only [Act.put]); (try simp only [List.setIfInBounds_toArray]); (try simp only [List.set_cons_zero, List.set_cons_succ])
  refine' wpAnyU_takeN (i := 20) (oi := ?o4_20) (v := ?v4_20) ?hi4_20 (by kernel_rfl) ?hQ4_20 ?hy4_20 hHeld ?rest4_20
  case hi4_20 => (simp only [List.getElem?_toArray, List.getElem?_cons_succ, List.getElem?_cons_zero]; rfl)
  case hQ4_20 => exact fun _ _ _ h => h
  case hy4_20 => (refine Or.inl ⟨by rfl, ?_⟩; intro w hSw; (try dsimp only at hSw); go_simp; (try with_reducible rfl))
  (try simp only [Act.put]); (try simp only [List.setIfInBounds_toArray]); (try simp only [List.set_cons_zero, List.set_cons_succ])
  refine' wpAnyU_take [21] (i := 21) (oi := ?o4_21) (v := ?v4_21) ?hi4_21 (by kernel_rfl) ?hQ4_21 ?hy4_21 hHeld ?rest4_21
  case hi4_21 => (simp only [List.getElem?_toArray, List.getElem?_cons_succ, List.getElem?_cons_zero]; rfl)
  case hQ4_21 => exact fun _ _ _ h => h
  case hy4_21 => (refine Or.inl ⟨by rfl, ?_⟩; intro w hSw; (try dsimp only at hSw); go_simp; (try with_reducible rfl))
  (try simp only [Act.put]); (try simp only [List.setIfInBounds_toArray]); (try simp only [List.set_cons_zero, List.set_cons_succ])
  refine' wpAnyU_takeN (i := 22) (oi := ?o4_22) (v := ?v4_22) ?hi4_22 (by kernel_rfl) ?hQ4_22 ?hy4_22 hHeld ?rest4_22
  case hi4_22 => (simp only [List.getElem?_toArray, List.getElem?_cons_succ, List.getElem?_cons_zero]; rfl)
  case hQ4_22 => exact fun _ _ _ h => h
  case hy4_22 => (refine Or.inl ⟨by rfl, ?_⟩; intro w hSw; (try dsimp only at hSw); go_simp; (try with_reducible rfl))
  (try simp only [Act.put]); (try simp only [List.setIfInBounds_toArray]); (try simp only [List.set_cons_zero, List.set_cons_succ])
  refine' wpAnyU_take [23] (i := 23) (oi := ?o4_23) (v := ?v4_23) ?hi4_23 (by kernel_rfl) ?hQ4_23 ?hy4_23 hHeld ?rest4_23
  case hi4_23 => (simp only [List.getElem?_toArray, List.getElem?_cons_succ, List.getElem?_cons_zero]; rfl)
  case hQ4_23 => exact fun _ _ _ h => h
  case hy4_23 => (refine Or.inl ⟨by rfl, ?_⟩; intro w hSw; (try dsimp only at hSw); go_simp; (try with_reducible rfl))
  (try simp only [Act.put]); (try simp only [List.setIfInBounds_toArray]); (try simp only [List.set_cons_zero, List.set_cons_succ])
  refine' wpAnyU_takeN (i := 24) (oi := ?o4_24) (v := ?v4_24) ?hi4_24 (by kernel_rfl) ?hQ4_24 ?hy4_24 hHeld ?rest4_24
  case hi4_24 => (simp only [List.getElem?_toArray, List.getElem?_cons_succ, List.getElem?_cons_zero]; rfl)
  case hQ4_24 => exact fun _ _ _ h => h
  case hy4_24 => (refine Or.inl ⟨by rfl, ?_⟩; intro w hSw; (try dsimp only at hSw); go_simp; (try with_reducible rfl))
  (try simp only [Act.put]); (try simp only [List.setIfInBounds_toArray]); (try simp only [List.set_cons_zero, List.set_cons_succ])
  refine' wpAnyU_takeN (i := 25) (oi := ?o4_25) (v := ?v4_25) ?hi4_25 (by kernel_rfl) ?hQ4_25 ?hy4_25 hHeld ?rest4_25
  case hi4_25 => (simp only [List.getElem?_toArray, List.getElem?_cons_succ, List.getElem?_cons_zero]; rfl)
  case hQ4_25 => exact fun _ _ _ h => h
  case hy4_25 => (refine Or.inl ⟨by rfl, ?_⟩; intro w hSw; (try dsimp only at hSw); go_simp; (try with_reducible rfl))
  (try simp only [Act.put]); (try simp only [List.setIfInBounds_toArray]); (try simp only [List.set_cons_zero, List.set_cons_succ])
  refine' wpAnyU_takeN (i := 26) (oi := ?o4_26) (v := ?v4_26) ?hi4_26 (by kernel_rfl) ?hQ4_26 ?hy4_26 hHeld ?rest4_26
  case hi4_26 => (simp only [List.getElem?_toArray, List.getElem?_cons_succ, List.getElem?_cons_zero]; rfl)
  case hQ4_26 => exact fun _ _ _ h => h
  case hy4_26 => (refine Or.inl ⟨by rfl, ?_⟩; intro w hSw; (try dsimp only at hSw); go_simp; (try with_reducible rfl))
  (try simp only [Act.put]); (try simp only [List.setIfInBounds_toArray]); (try simp only [List.set_cons_zero, List.set_cons_succ])
  refine' wpAnyU_take [27] (i := 27) (oi := ?o4_27) (v := ?v4_27) ?hi4_27 (by kernel_rfl) ?hQ4_27 ?hy4_27 hHeld ?rest4_27
  case hi4_27 => (simp only [List.getElem?_toArray, List.getElem?_cons_succ, List.getElem?_cons_zero]; rfl)
  case hQ4_27 => exact fun _ _ _ h => h
  case hy4_27 => (refine Or.inl ⟨by rfl, ?_⟩; intro w hSw; (try dsimp only at hSw); go_simp; (try with_reducible rfl))
  (try simp only [Act.put]); (try simp only [List.setIfInBounds_toArray]); (try simp only [List.set_cons_zero, List.set_cons_succ])
  refine' wpAnyU_takeN (i := 28) (oi := ?o4_28) (v := ?v4_28) ?hi4_28 (by kernel_rfl) ?hQ4_28 ?hy4_28 hHeld ?rest4_28
  case hi4_28 => (simp only [List.getElem?_toArray, List.getElem?_cons_succ, List.getElem?_cons_zero]; rfl)
  case hQ4_28 => exact fun _ _ _ h => h
  case hy4_28 => (refine Or.inl ⟨by rfl, ?_⟩; intro w hSw; (try dsimp only at hSw); go_simp; (try with_reducible rfl))
  (try simp only [Act.put]); (try simp only [List.setIfInBounds_toArray]); (try simp only [List.set_cons_zero, List.set_cons_succ])
  refine' wpAnyU_take [29] (i := 29) (oi := ?o4_29) (v := ?v4_29) ?hi4_29 (by kernel_rfl) ?hQ4_29 ?hy4_29 hHeld ?rest4_29
  case hi4_29 => (simp only [List.getElem?_toArray, List.getElem?_cons_succ, List.getElem?_cons_zero]; rfl)
  case hQ4_29 => exact fun _ _ _ h => h
  case hy4_29 => (refine Or.inl ⟨by rfl, ?_⟩; intro w hSw; (try dsimp only at hSw); go_simp; (try with_reducible rfl))
  (try simp only [Act.put]); (try simp only [List.setIfInBounds_toArray]); (try simp only [List.set_cons_zero, List.set_cons_succ])
  refine' wpAnyU_takeN (i := 30) (oi := ?o4_30) (v := ?v4_30) ?hi4_30 (by kernel_rfl) ?hQ4_30 ?hy4_30 hHeld ?rest4_30
  case hi4_30 => (simp only [List.getElem?_toArray, List.getElem?_cons_succ, List.getElem?_cons_zero]; rfl)
  case hQ4_30 => exact fun _ _ _ h => h
  case hy4_30 => (refine Or.inl ⟨by rfl, ?_⟩; intro w hSw; (try dsimp only at hSw); go_simp; (try with_reducible rfl))
  (try simp only [Act.put]); (try simp only [List.setIfInBounds_toArray]); (try simp only [List.set_cons_zero, List.set_cons_succ])
  refine' wpAnyU_take [31] (i := 31) (oi := ?o4_31) (v := ?v4_31) ?hi4_31 (by kernel_rfl) ?hQ4_31 ?hy4_31 hHeld ?rest4_31
  case hi4_31 => (simp only [List.getElem?_toArray, List.getElem?_cons_succ, List.getElem?_cons_zero]; rfl)
  case hQ4_31 => exact fun _ _ _ h => h
  case hy4_31 => (refine Or.inl ⟨by rfl, ?_⟩; intro w hSw; (try dsimp only at hSw); go_simp; (try with_reducible rfl))
  (try simp only [Act.put]); (try simp only [List.setIfInBounds_toArray]); (try simp only [List.set_cons_zero, List.set_cons_succ])
  refine wpAnyU_one (i := 15) (by kernel_rfl) rfl (fun K hK => ?_)
  go_simp
  go_at_call 22
  refine HLI.out.mono ?_
  rintro en w2 ⟨v, rfl, hov, hb2⟩
  obtain ⟨AV, cV, rfl, -⟩ := Rd.of_own hov
  have hB3 := hB2.later hb2
  have hs3 := hs2.later hb2
  have r1 : w2.cell? ⟨gs, 1, none⟩ = some (.int .i64 e) := hs3.cell 1
  have r0 : w2.cell? ⟨gs, 2, none⟩ = some (.int .i64 i) := hs3.cell 2
  have r2 : w2.cell? ⟨gb, 1, none⟩ = some (.slice (some ⟨gS, 0, none⟩) S.length cS) := hB3.row.cell 1
  have r3 : w2.cell? ⟨gb, 2, none⟩ = some (.slice (some ⟨gP, 0, none⟩) P.length cP) := hB3.row.cell 2
  have r4 := hB3.s_cell he
  have r5 := hB3.p_cell he2
  have r6 := hB3.p_cell he3
  go_wp2_with fail
  refine hK.out _ _ ⟨r1, r0, r2, r3, r4, r5, r6⟩ (fun hNew => ?_)
  clear hK K hHeld
  have hHeld := hNew
  clear hNew
  (try simp only [Act.put]); (try simp only [List.setIfInBounds_toArray]); (try simp only [List.set_cons_zero, List.set_cons_succ])
  refine' wpAnyU_takeN (i := 32) (oi := ?o4_32) (v := ?v4_32) ?hi4_32 (by kernel_rfl) ?hQ4_32 ?hy4_32 hHeld ?rest4_32
  case hi4_32 => (simp only [List.getElem?_toArray, List.getElem?_cons_succ, List.getElem?_cons_zero]; rfl)
  case hQ4_32 => exact fun _ _ _ h => h
  case hy4_32 => (refine Or.inl ⟨by rfl, ?_⟩; intro w hSw; (try dsimp only at hSw); go_simp; (try with_reducible rfl))
  (try simp only [Act.put]); (try simp only [List.setIfInBounds_toArray]); (try simp only [List.set_cons_zero, List.set_cons_succ])
  refine wpAnyU_one (i := 33) (by kernel_rfl) rfl (fun K hK => ?_)
  go_simp
  go_at_call 21
  refine (add_any base gb _ _ _ L ⟨3, 0, AV, cV, lst (ed S i), pz P i, pz P e, 0, false⟩ w2 (Nat.le_trans hbs hb2.size) hB3.row hB3.nodes hl).mono ?_
  rintro en w3 ⟨rfl, AN', cN', hR4, hN4, ht4⟩
  have hFR : ∀ g, (vb ⟨3, 0, AV, cV, lst (ed S i), pz P i, pz P e, -1, false⟩).ownBlock = some g → g ≠ gP ∧ ∀ a ∈ L, (vb a).ownBlock ≠ some g := fun g hg => by
    have h1 := (hov.lt g hg).1
    have h1' : w0.heap.size ≤ g := h1
    have h2 := hB0.base_p.2
    refine ⟨by omega, fun a ha c => ?_⟩
    have h3 := ((hB0.vars a ha).lt g c).2
    omega
  have hB5 : BS base gb (L ++ [⟨3, 0, AV, cV, lst (ed S i), pz P i, pz P e, -1, false⟩]) S P AN' cN' gS cS gP cP w3 := hB3.add ⟨3, 0, AV, cV, lst (ed S i), pz P i, pz P e, -1, false⟩ ht4 hR4 hN4 (own_less hov hbs) hFR
  have hne : gs ≠ gb := fun c => by
    have h1 := hB3.row
    subst c
    unfold Row at h1 hs3
    rw [h1] at hs3
    injection hs3 with hs3
    injection hs3 with _ ht _
    exact absurd ht (by decide)
  have hs5 : Row w3 gs 80 [.int .i64 k, .int .i64 e, .int .i64 i, .int .u32 (uz cut)] := hs3.two ht4 hne (own_row_ne hB3.nodes hs3 (by decide))
  have z1 : w3.cell? ⟨gs, 1, none⟩ = some (.int .i64 e) := hs5.cell 1
  have z0 : w3.cell? ⟨gs, 2, none⟩ = some (.int .i64 i) := hs5.cell 2
  have z2 : w3.cell? ⟨gb, 1, none⟩ = some (.slice (some ⟨gS, 0, none⟩) S.length cS) := hB5.row.cell 1
  have z3 : w3.cell? ⟨gb, 2, none⟩ = some (.slice (some ⟨gP, 0, none⟩) P.length cP) := hB5.row.cell 2
  have z4 := hB5.s_cell he
  have z5 := hB5.p_cell he2
  have z7 := hB5.p_cell he3
  have z6 := own_frozen hB5.pres i
  go_wp2_with fail
  refine hK.out _ _ ⟨z1, z0, z2, z3, z4, z5, z7⟩ (fun hNew => ?_)
  clear hK K hHeld
  have hHeld := hNew
  clear hNew
  (try simp only [Act.put]); (try simp only [List.setIfInBounds_toArray]); (try simp only [List.set_cons_zero, List.set_cons_succ])
  refine' wpAnyU_takeN (i := 34) (oi := ?o4_34) (v := ?v4_34) ?hi4_34 (by kernel_rfl) ?hQ4_34 ?hy4_34 hHeld ?rest4_34
  case hi4_34 => (simp only [List.getElem?_toArray, List.getElem?_cons_succ, List.getElem?_cons_zero]; rfl)
  case hQ4_34 => exact fun _ _ _ h => h
  case hy4_34 => (refine Or.inl ⟨by rfl, ?_⟩; intro w hSw; (try dsimp only at hSw); go_simp; (try with_reducible rfl))
  (try simp only [Act.put]); (try simp only [List.setIfInBounds_toArray]); (try simp only [List.set_cons_zero, List.set_cons_succ])
  refine wpAnyU_last (i := 35) (by kernel_rfl) rfl (by kernel_rfl) (fun K hK => ?_)
  go_simp
  refine hK.out _ _ ?_
  clear hK K hHeld
  try simp only [Act.put]
  refine wpAnyU_done (by kernel_rfl) ?_ _
  have hbb : Below w0.heap.size w0 w2 := ⟨hb2.os, hb2.tape, hb2.output, hb2.size, hb2.block⟩
  have hk2 := hk0.later hbb
  have hb3 := hb1.trans (hbb.mono hbs)
  have hb4 := hb3.trans (ht4.below hbg (fun k hk => (hB3.nodes.lt k hk).1) (Nat.le_trans hbs hb2.size))
  have hk3 := hk2.two ht4 (show w2.heap[gb]? = some (.cells _ _ _) from hB3.row) (.inl rfl) (own_type hB3.nodes (.inr (.inl rfl)))
  have hB6 := hB5.setP i L.length
  have hk4 : KeptT w (w3.setCell ⟨gP, i, none⟩ (.int .i64 (L.length : Int))) := by
    obtain ⟨c, f, hh⟩ := hB5.near_p
    exact hk3.set_ hh (.inr (.inr (.inr rfl))) i _
  have hb5 := hb4.setCell (p := ⟨gP, i, none⟩) hB5.base_p.1 (.int .i64 (L.length : Int))
  go_wp2_with fail
  go_end0
  exact ⟨rfl, AN', cN', AV, cV, hB6, hb5, hk4⟩
end Go.Proofs.YtdemmjofggemhaaGreatDoor
