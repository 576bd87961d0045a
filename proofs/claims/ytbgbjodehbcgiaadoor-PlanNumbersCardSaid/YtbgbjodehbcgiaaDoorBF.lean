/- Several texts in one: Rep JtW2 JtW3 LJBuilt Cover Parts15 ClassLaw JtRoot R15c R15d. -/
import Derived.Test.YtbgbjodehbcgiaaDoorBA
import Derived.Deep.RegionLaw
import Derived.IntWalk
import Derived.Test.YtbgbjodehbcgiaaDoorBD
import Derived.Test.YtbgbjodehbcgiaaDoorBB
import Derived.Test.YtbgbjodehbcgiaaDoorBC
import Derived.Test.YtbgbjodehbcgiaaDoorBE
import Derived.StillTailTactics
import Derived.Laws.Cover3
/- slices.Repeat of one number, for few. -/
namespace Go.Proofs.YtbgbjodehbcgiaaDoor
open Go.RowKit

/-- The first k are -1, the others 0. -/
def fill (k : Nat) : Nat → Int := fun i => if i < k then -1 else 0
theorem fill_splice (n k m : Nat) (h : k + m ≤ n) : splice (is (rowOf n (fill k))) k (List.replicate m (.int .i64 (-1))) = is (rowOf n (fill (k + m))) := by
  apply List.ext_getElem?
  intro i
  unfold splice
  have hlen : (is (rowOf n (fill k))).length = n := by simp
  rcases Nat.lt_or_ge i k with c | c
  · rw [List.getElem?_append_left (by rw [List.length_take, hlen]; omega), List.getElem?_take_of_lt c, rowOf_at _ _ _ (by omega), rowOf_at _ _ _ (by omega)]
    unfold fill; rw [if_pos c, if_pos (by omega)]
  · rcases Nat.lt_or_ge i (k + m) with d | d
    · rw [List.getElem?_append_right (by rw [List.length_take, hlen]; omega), List.getElem?_append_left (by rw [List.length_take, hlen, List.length_replicate]; omega), rowOf_at _ _ _ (by omega)]
      rw [List.getElem?_replicate, if_pos (by rw [List.length_take, hlen]; omega)]
      unfold fill; rw [if_pos d]
    · rw [List.getElem?_append_right (by rw [List.length_take, hlen]; omega), List.getElem?_append_right (by rw [List.length_take, hlen, List.length_replicate]; omega), List.getElem?_drop, List.length_take, hlen, List.length_replicate, show k + m + (i - min k n - m) = i by omega]
      rcases Nat.lt_or_ge i n with f | f
      · rw [rowOf_at _ _ _ f, rowOf_at _ _ _ f]
        unfold fill; rw [if_neg (by omega), if_neg (by omega)]
      · rw [List.getElem?_eq_none (by simp; omega), List.getElem?_eq_none (by simp; omega)]
theorem fill_zero (n : Nat) : is (rowOf n (fill 0)) = zeros (.int .i64 0) n := by
  rw [rowOf_zeros]
  congr 1

/-- Copying the cells that are filled behind themselves, as a step of a region that draws. -/
theorem step_fill {ops : Array Oper} {o : Oper} {a : Act} {wr W0 : World} {K : Act → World → Prop} {Q : Exit → Act → World → Prop} {F : Prop} {g n k m : Nat} (d s : Operand)
    (hR : Row wr g 3 (is (rowOf n (fill k)))) (hb : Below g W0 wr) (hm : m = min k (n - k)) (hk : k < n)
    (hgd : o.guard = none) (ho : o.op = .call { callee := .builtin .copy, args := #[d, s], argTypes := #[39, 39] })
    (hd : a.eval d = .slice (some ⟨g, k, none⟩) (n - k) (n - k)) (hs : a.eval s = .slice (some ⟨g, 0, none⟩) k n)
    (h : ∀ w', Row w' g 3 (is (rowOf n (fill (k + m)))) → Below g W0 w' → K (a.put o.dst (.int .i64 (m : Nat))) w') :
    if Region.wanted o (yielded ops a.tmps) = true then Oper.wp Tryd.prog o a wr K Q else F := by
  have hnews : ∀ j v, (List.replicate m (Value.int .i64 (-1)))[j]? = some v → wr.cell? ((⟨g, 0, none⟩ : Addr).add j) = some v := fun j v hj => by
    rw [List.getElem?_replicate] at hj
    split at hj
    · next hj2 =>
      rw [Addr.add_lit, Nat.zero_add, hR.cell, rowOf_at _ _ _ (by omega)]
      rw [← hj]; unfold fill; rw [if_pos (by omega)]
    · cases hj
  refine step_copy_splice hgd d s 39 39 ho 3 Tryd.underlying39 Tryd.size_int _ _ _ _ _ _ hd hs g k _ 3 hR (List.replicate m (.int .i64 (-1))) (by rw [List.length_replicate]; exact hm) (fun _ => ⟨rfl, _, rfl, hnews⟩) (by rw [List.length_replicate]; simp; omega) (fun v hv => by rw [List.eq_of_mem_replicate hv]; rfl) g W0 hb (Nat.le_refl _) ?_
  intro w4 hw hb4
  have := hw.out
  rw [fill_splice n k m (by omega)] at this
  have h5 := h w4 this hb4
  rw [List.length_replicate]
  exact h5

end Go.Proofs.YtbgbjodehbcgiaaDoor

/- The contract of jointree.Build. -/
namespace Go.Proofs.YtbgbjodehbcgiaaDoor
open Go.RowKit

attribute [local go_sem ↓] uz_and uz_or uz_andNot uz_and_one uz_shr uz_shl_one uz_shl uz_sub uz_sub_one uz_add uz_beq_zero uz_bne_zero uz_beq uz_bne uz_beq_one

theorem parOf_snoc (s : Stp) (h : s.into ≠ -1) (i : Nat) : ∀ ss : List Stp, parOf (ss ++ [s]) i = if s.kind ≠ 1 ∧ s.edge = i then s.into else parOf ss i
  | [] => by
    show (if (-1 : Int) ≠ -1 then _ else _) = _
    rw [if_neg (by simp)]; rfl
  | a :: ss => by
    show (if parOf (ss ++ [s]) i ≠ -1 then parOf (ss ++ [s]) i else _) = _
    rw [parOf_snoc s h i ss]
    by_cases c : s.kind ≠ 1 ∧ s.edge = i
    · rw [if_pos c, if_pos h, if_pos c]
    · rw [if_neg c, if_neg c]
      rfl
theorem steps_in {keep : BitVec 32} {L M : Lt} {ss : List Stp} {n : Nat} (r : Rch keep L ss M) (hs : Srt L) (hn : ∀ x ∈ L, x.1 < n) : ∀ s ∈ ss, ∃ i j : Nat, s.edge = i ∧ s.into = j ∧ i < n ∧ j < n := by
  induction r with
  | nil => intro s h; cases h
  | @cons L M s ss h r ih =>
    intro t ht
    rcases List.mem_cons.1 ht with rfl | ht
    · rcases h.cases hs with ⟨x, hx, _, rfl⟩ | ⟨x, hx, y, hy, k, _, _, _, rfl⟩
      · exact ⟨x.1, 0, rfl, rfl, hn x hx, by have := hn x hx; omega⟩
      · exact ⟨x.1, y.1, rfl, rfl, hn x hx, hn y hy⟩
    · exact ih hs.make (fun y hy => by obtain ⟨x, hx, e⟩ := make_key hy; rw [← e]; exact hn x hx) t ht
/-- What Build answers. -/
def BuildIs (V : Int) (E : List (BitVec 32)) (Z : List Int) (code : Int) : Prop :=
  (validB V E = false ∧ Z = [] ∧ code = 140) ∨ (validB V E = true ∧ 1 < (runE E 0#32).2.length ∧ Z = [] ∧ code = 161) ∨
  (validB V E = true ∧ (runE E 0#32).2.length ≤ 1 ∧ Z = rowOf E.length (parOf (runE E 0#32).1) ∧ code = 0)
theorem buildIs_uniq {V : Int} {E : List (BitVec 32)} {Z Y : List Int} {a b : Int} (h : BuildIs V E Z a) (k : BuildIs V E Y b) : Z = Y ∧ a = b := by
  rcases h with ⟨a1, a2, a3⟩ | ⟨a1, a2, a3, a4⟩ | ⟨a1, a2, a3, a4⟩ <;> rcases k with ⟨b1, b2, b3⟩ | ⟨b1, b2, b3, b4⟩ | ⟨b1, b2, b3, b4⟩ <;>
  first
    | (rw [a1] at b1; cases b1; done)
    | omega
    | exact ⟨a2.trans b2.symm, a3.trans b3.symm⟩
    | exact ⟨a3.trans b3.symm, a4.trans b4.symm⟩
theorem buildIs_len {V : Int} {E : List (BitVec 32)} {Z : List Int} {a : Int} (h : BuildIs V E Z a) : Z.length ≤ 7 := by
  rcases h with ⟨_, rfl, _⟩ | ⟨_, _, rfl, _⟩ | ⟨a1, _, rfl, _⟩
  · simp
  · simp
  · simp; exact (validB_of a1).2.2.1
/-- What Build tells is a join tree, and where it tells none there is none. -/
theorem buildIs_jt {V : Int} {E : List (BitVec 32)} {Z : List Int} {a : Int} (h : BuildIs V E Z a) : (a = 0 → Z.length = E.length ∧ validB V E = true ∧ JT E (pz Z)) ∧ (a ≠ 0 → Z = [] ∧ ((validB V E = false ∧ a = 140) ∨ (validB V E = true ∧ a = 161 ∧ ¬ ∃ p, JT E p))) := by
  rcases h with ⟨a1, a2, a3⟩ | ⟨a1, a2, a3, a4⟩ | ⟨a1, a2, a3, a4⟩
  · exact ⟨fun e => by omega, fun _ => ⟨a2, .inl ⟨a1, a3⟩⟩⟩
  · refine ⟨fun e => by omega, fun _ => ⟨a3, .inr ⟨a1, a4, fun hp => ?_⟩⟩⟩
    have := (left_iff (runE_rch E 0#32) (runE_Stuck 0#32 (validB_of a1).2.2.1)).2 hp
    omega
  · refine ⟨fun _ => ⟨by rw [a3]; simp, a1, ?_⟩, fun e => absurd a4 e⟩
    have h1 := jt_of_reach (runE_rch E 0#32) a2
    have e : ∀ i, i < E.length → pz Z i = parOf (runE E 0#32).1 i := fun i hi => by
      rw [a3, ← pz_eq _ i (by simpa using hi)]; simp [rowOf]
    obtain ⟨⟨t1, ⟨d, t2⟩, t3⟩, t4⟩ := h1
    refine ⟨⟨fun i hi => by rw [e i hi]; exact t1 i hi, ⟨d, fun i hi h0 => by rw [e i hi] at h0 ⊢; exact t2 i hi h0⟩, fun i j hi hj x y => t3 i j hi hj (by rw [← e i hi]; exact x) (by rw [← e j hj]; exact y)⟩, fun v i j hi hj x y => ?_⟩
    have tp : ∀ i, i < E.length → Top E (pz Z) v i → Top E (parOf (runE E 0#32).1) v i := fun i hi x => by unfold Top at x ⊢; rw [e i hi] at x; exact x
    exact t4 v i j hi hj (tp i hi x) (tp j hj y)

end Go.Proofs.YtbgbjodehbcgiaaDoor

/- The contract of osierlaw16.awake. -/
namespace Go.Proofs.YtbgbjodehbcgiaaDoor
open Go.RowKit

attribute [local go_sem ↓] uz_and uz_or uz_andNot uz_and_one uz_shr uz_shl_one uz_shl uz_sub uz_sub_one uz_add uz_beq_zero uz_bne_zero uz_beq uz_bne uz_beq_one

theorem awake_build {Z : List Int} {code : Int} (h : BuildIs 3 [3#32, 6#32, 4#32] Z code) : Z.length = 3 ∧ code = 0 := by
  have hv : validB 3 [3#32, 6#32, 4#32] = true := by decide
  have hjt : ∃ p, JT [3#32, 6#32, 4#32] p := ⟨_, ((checkB_iff 3 _ [1, -1, 1]).1 (by decide)).2.2⟩
  have h2 := buildIs_jt h
  by_cases c : code = 0
  · exact ⟨(h2.1 c).1, c⟩
  · rcases (h2.2 c).2 with ⟨a, _⟩ | ⟨_, _, a⟩
    · rw [hv] at a; cases a
    · exact absurd hjt a
end Go.Proofs.YtbgbjodehbcgiaaDoor

/- The walk of osierlaw16.JointreeBuilt. -/
namespace Go.Proofs.YtbgbjodehbcgiaaDoor
open Go.RowKit

theorem ed_lt {V : Int} {E : List (BitVec 32)} (h : validB V E = true) : ∀ i v, i < E.length → hv (ed E i) v → v < V.toNat := by
  obtain ⟨h0, h1, _, h2⟩ := validB_of h
  intro i v hi hh
  apply Classical.byContradiction
  intro hc
  have h3 := outB_true_of (x := ed E i) h0 h1 (k := v) (by omega) (by rw [inB_nat]; exact hh)
  have h4 : outB V (ed E i) = false := by
    rw [List.any_eq_false] at h2
    have := h2 E[i] (List.getElem_mem hi)
    rw [show E[i] = ed E i by simp [ed, hi]] at this
    simpa using this
  rw [h4] at h3; cases h3

theorem bool_case {V : Int} {E : List (BitVec 32)} {Z : List Int} {a : Int} (h : BuildIs V E Z a) :
    (validB V E = false ∧ a = 140) ∨ (validB V E = true ∧ a = 0 ∧ checkB V E Z = true) ∨ (validB V E = true ∧ a = 161 ∧ Z = [] ∧ existsB V.toNat E = false) := by
  obtain ⟨h1, h2⟩ := buildIs_jt h
  by_cases h0 : a = 0
  · obtain ⟨a1, a2, a3⟩ := h1 h0
    exact .inr (.inl ⟨a2, h0, (checkB_iff V E Z).2 ⟨a2, a1, a3⟩⟩)
  · obtain ⟨a1, a2 | a2⟩ := h2 h0
    · exact .inl ⟨a2.1, a2.2⟩
    · refine .inr (.inr ⟨a2.1, a2.2.1, a1, ?_⟩)
      cases hx : existsB V.toNat E
      · rfl
      · exact absurd ((existsB_iff (ed_lt a2.1)).1 hx) a2.2.2

end Go.Proofs.YtbgbjodehbcgiaaDoor

/- The contract of osierref14.All; a graph with an edge that has all vertices is acyclic. -/
namespace Go.Proofs.YtbgbjodehbcgiaaDoor
open Go.RowKit

attribute [local go_sem ↓] uz_and uz_or uz_andNot uz_and_one uz_shr uz_shl_one uz_shl uz_sub uz_sub_one uz_add uz_beq_zero uz_bne_zero uz_beq uz_bne uz_beq_one

theorem allOf_next {k : Nat} (h : k < 30) : allOf (k : Int) + 1#32 <<< k = allOf ((k + 1 : Nat) : Int) := by
  have : ∀ k : Fin 30, allOf ((k : Nat) : Int) + 1#32 <<< (k : Nat) = allOf (((k : Nat) + 1 : Nat) : Int) := by decide
  exact this ⟨k, h⟩

set_option maxHeartbeats 2000000 in
set_option maxRecDepth 100000 in
theorem r14all_any (V : Nat) (A : Option Addr) (n c : Nat) (w : World) (hV : V ≤ 30) :
    Calls Tryd.prog 58 #[.agg #[.int .i64 V, .slice A n c]] w fun e w' => e = .returned (.int .u32 (uz (allOf V))) ∧ Below w.heap.size w w' := by
  go_enter Tryd.func58, Tryd.ntmps58
  go_upto_region 1 with fail
  have hb0 := below_alloc w (.cells #[.int .i64 V, .slice A n c] 28)
  have hG0 : Row (w.alloc (.cells #[.int .i64 V, .slice A n c] 28)) w.heap.size 28 [.int .i64 V, .slice A n c] := Row.new _ _ _
  generalize w.alloc _ = W0 at hb0 hG0 ⊢
  have d0 : W0.cell? ⟨w.heap.size, 0, none⟩ = some (.int .i64 V) := hG0.cell 0
  go_wp2_with fail
  go_loop [3, 4] (fun s i => ∃ k : Nat, k ≤ V ∧ i = .int .i64 k ∧ s = .int .u32 (uz (allOf k))) (fun _ i => V - (intOf i).toNat)
  case atStart => exact ⟨0, Nat.zero_le _, rfl, rfl⟩
  case round =>
    obtain ⟨k, hk, rfl, rfl⟩ := hrel
    by_cases hlt : k < V
    · have HN := Lib.hid (allOf_next (show k < 30 by omega))
      have b1 : (k : Int) < V := by omega
      have b2 : (k : Int) < 32 := by omega
      have b3 : (0 : Int) ≤ k := by omega
      generalize allOf (k : Int) = x at HN ⊢
      go_wp2_with fail
      go_round
      case rel => exact ⟨k + 1, by omega, by go_num, by rw [← HN.out]⟩
      case measure => simp [intOf]; omega
    · obtain rfl : k = V := by omega
      go_wp2_with fail
      go_ret
      exact ⟨rfl, hb0⟩

/-! ### One edge that has all vertices -/
theorem ed_app (E : List (BitVec 32)) (x : BitVec 32) (i : Nat) : ed (E ++ [x]) i = if i < E.length then ed E i else if i = E.length then x else 0#32 := by
  unfold ed
  by_cases h : i < E.length
  · rw [if_pos h]; simp [List.getD, List.getElem?_append_left h]
  · rw [if_neg h]
    by_cases h2 : i = E.length
    · subst h2; simp [List.getD]
    · rw [if_neg h2]
      simp only [List.getD]
      rw [List.getElem?_eq_none (by simp; omega)]; rfl
theorem cover_valid {V : Int} {E : List (BitVec 32)} (h : validB V E = true) (h6 : E.length ≤ 6) : validB V (E ++ [allOf V]) = true := by
  obtain ⟨h0, h1, _, h2⟩ := validB_of h
  unfold validB
  have h3 : outB V (allOf V) = false := by unfold outB; simp
  rw [List.any_append, h2]
  simp [h0, h1, h3]; omega
theorem cover_jt {V : Int} {E : List (BitVec 32)} (h : validB V E = true) (h6 : E.length ≤ 6) : ∃ p, JT (E ++ [allOf V]) p := by
  have hl : (E ++ [allOf V]).length = E.length + 1 := by simp
  have hlt := ed_lt h
  have h30 := (validB_of h).2.1
  refine ⟨fun i => if i < E.length then (E.length : Int) else -1, ⟨fun i hi => ?_, ⟨fun i => if i < E.length then 1 else 0, fun i hi h0 => ?_⟩, fun i j hi hj a b => ?_⟩, fun v i j hi hj a b => ?_⟩
  · rw [hl] at hi ⊢
    show -1 ≤ (if i < E.length then (E.length : Int) else -1) ∧ (if i < E.length then (E.length : Int) else -1) < _
    split <;> omega
  · rw [hl] at hi
    by_cases c : i < E.length
    · simp [c]
    · simp [c] at h0
  · rw [hl] at hi hj
    by_cases c : i < E.length
    · simp [c] at a
    · by_cases d : j < E.length
      · simp [d] at b
      · omega
  · rw [hl] at hi hj
    have key : ∀ i, i < E.length + 1 → Top (E ++ [allOf V]) (fun i => if i < E.length then (E.length : Int) else -1) v i → i = E.length := by
      intro i hi a
      by_cases c : i < E.length
      · exfalso
        obtain ⟨a1, a2⟩ := a
        rw [ed_app, if_pos c] at a1
        have hvv := hlt i v c a1
        simp only [c, if_true] at a2
        rcases a2 with a2 | a2
        · omega
        · apply a2
          rw [Int.toNat_natCast, ed_app, if_neg (by omega), if_pos rfl]
          show (allOf V).getLsbD v = true
          rw [getLsbD_allOf V (by omega)]
          simpa using hvv
      · omega
    rw [key i hi a, key j hj b]
theorem cover_acy {V : Int} {E : List (BitVec 32)} (h : validB V E = true) (h6 : E.length ≤ 6) : acyB V (E ++ [allOf V]) = true ∧ codeB V (E ++ [allOf V]) = 0 := by
  have h2 := cover_valid h h6
  exact ⟨(acyB_iff h2).2 (cover_jt h h6), by unfold codeB; rw [h2]; rfl⟩
end Go.Proofs.YtbgbjodehbcgiaaDoor

/- A join tree stays one where vertices are taken out, or a part of an edge comes to it: the plain law of EarsParts. No program in sight. -/
namespace Go.Proofs.YtbgbjodehbcgiaaDoor

def cutAll (E : List (BitVec 32)) (s : BitVec 32) : List (BitVec 32) := E.map (· &&& s)
theorem cutAll_length (E : List (BitVec 32)) (s : BitVec 32) : (cutAll E s).length = E.length := by simp [cutAll]
theorem ed_cutAll (E : List (BitVec 32)) (s : BitVec 32) (i : Nat) : ed (cutAll E s) i = ed E i &&& s := by
  unfold ed cutAll
  simp only [List.getD_eq_getElem?_getD, List.getElem?_map]
  cases E[i]? <;> simp
theorem jt_cut {E : List (BitVec 32)} {p : Nat → Int} (s : BitVec 32) (h : JT E p) : JT (cutAll E s) p := by
  refine ⟨by rw [cutAll_length]; exact h.1, fun v i j hi hj a b => ?_⟩
  rw [cutAll_length] at hi hj
  have key : ∀ i, Top (cutAll E s) p v i → Top E p v i := by
    rintro i ⟨a1, a2⟩
    rw [ed_cutAll, hv_and] at a1
    refine ⟨a1.1, a2.imp id fun c d => c ?_⟩
    rw [ed_cutAll, hv_and]; exact ⟨d, a1.2⟩
  exact h.2 v i j hi hj (key i a) (key j b)
theorem jt_part {E : List (BitVec 32)} {p : Nat → Int} {k : Nat} {x : BitVec 32} (h : JT E p) (hk : k < E.length) (hx : ∀ v, hv x v → hv (ed E k) v) : JT (E ++ [x]) (fun i => if i < E.length then p i else (k : Int)) := by
  have hl : (E ++ [x]).length = E.length + 1 := by simp
  obtain ⟨⟨t1, ⟨d, t2⟩, t3⟩, t4⟩ := h
  refine ⟨⟨fun i hi => ?_, ⟨fun i => if i < E.length then d i else d k + 1, fun i hi h0 => ?_⟩, fun i j hi hj a b => ?_⟩, fun v i j hi hj a b => ?_⟩
  · rw [hl] at hi ⊢
    by_cases c : i < E.length
    · have := t1 i c
      simp only [if_pos c]; omega
    · simp only [if_neg c]; omega
  · rw [hl] at hi
    by_cases c : i < E.length
    · simp only [if_pos c] at h0 ⊢
      have h1 := t1 i c
      rw [if_pos (by omega)]
      exact t2 i c h0
    · simp only [if_neg c] at h0 ⊢
      rw [Int.toNat_natCast, if_pos hk]
      omega
  · rw [hl] at hi hj
    by_cases c : i < E.length
    · by_cases c2 : j < E.length
      · simp only [if_pos c] at a
        simp only [if_pos c2] at b
        exact t3 i j c c2 a b
      · simp only [if_neg c2] at b; omega
    · simp only [if_neg c] at a; omega
  · rw [hl] at hi hj
    have key : ∀ i, i < E.length + 1 → Top (E ++ [x]) (fun i => if i < E.length then p i else (k : Int)) v i → i < E.length ∧ Top E p v i := by
      rintro i hi ⟨a1, a2⟩
      by_cases c : i < E.length
      · refine ⟨c, ?_⟩
        rw [ed_app, if_pos c] at a1
        simp only [if_pos c] at a2
        refine ⟨a1, a2.imp id fun e f => e ?_⟩
        have := t1 i c
        rw [ed_app]
        by_cases c3 : (p i).toNat < E.length
        · rw [if_pos c3]; exact f
        · exfalso; unfold ed at f; rw [List.getD_eq_getElem?_getD, List.getElem?_eq_none (by omega)] at f; exact hv_zero v f
      · exfalso
        obtain rfl : i = E.length := by omega
        rw [ed_app, if_neg (Nat.lt_irrefl _), if_pos rfl] at a1
        simp only [if_neg (Nat.lt_irrefl _)] at a2
        rcases a2 with e | e
        · omega
        · rw [Int.toNat_natCast, ed_app, if_pos hk] at e
          exact e (hx v a1)
    obtain ⟨i1, i2⟩ := key i hi a
    obtain ⟨j1, j2⟩ := key j hj b
    exact t4 v i j i1 j1 i2 j2
theorem outB_and {V : Int} {e : BitVec 32} (s : BitVec 32) (h : outB V e = false) : outB V (e &&& s) = false := by
  unfold outB at h ⊢
  rw [bne_eq_false_iff_eq] at h ⊢
  rw [eq_zero_iff] at h ⊢
  intro v hh
  rw [hv_andNot, hv_and] at hh
  exact h v ((hv_andNot _ _ _).2 ⟨hh.1.1, hh.2⟩)
theorem outB_andl {V : Int} {e : BitVec 32} (s : BitVec 32) (h : outB V e = false) : outB V (s &&& e) = false := by
  rw [BitVec.and_comm]; exact outB_and s h
theorem validB_mk {V : Int} {E : List (BitVec 32)} (h0 : 0 ≤ V) (h1 : V ≤ 30) (h2 : E.length ≤ 7) (h3 : ∀ e ∈ E, outB V e = false) : validB V E = true := by
  unfold validB
  have : E.any (outB V) = false := by
    rw [List.any_eq_false]; intro e he; rw [h3 e he]; simp
  rw [this]; simp [h0, h1, h2]
theorem validB_out {V : Int} {E : List (BitVec 32)} (h : validB V E = true) : ∀ e ∈ E, outB V e = false := fun e he => by
  simpa using List.any_eq_false.1 (validB_of h).2.2.2 e he
theorem cut_valid {V : Int} {E : List (BitVec 32)} (s : BitVec 32) (h : validB V E = true) : validB V (cutAll E s) = true := by
  obtain ⟨h0, h1, h2, _⟩ := validB_of h
  refine validB_mk h0 h1 (by rw [cutAll_length]; exact h2) fun e he => ?_
  obtain ⟨a, ha, rfl⟩ := List.mem_map.1 he
  exact outB_and s (validB_out h a ha)
theorem acyB_valid {V : Int} {E : List (BitVec 32)} (h : acyB V E = true) : validB V E = true := by
  unfold acyB at h; rw [Bool.and_eq_true] at h; exact h.1
theorem cut_acy {V : Int} {E : List (BitVec 32)} (s : BitVec 32) (h : acyB V E = true) : acyB V (cutAll E s) = true ∧ codeB V (cutAll E s) = 0 := by
  have hv := acyB_valid h
  have h2 := cut_valid s hv
  obtain ⟨p, hp⟩ := (acyB_iff hv).1 h
  exact ⟨(acyB_iff h2).2 ⟨p, jt_cut s hp⟩, by unfold codeB; rw [h2]; rfl⟩
theorem part_acy {V : Int} {E : List (BitVec 32)} {k : Nat} {s : BitVec 32} (h : acyB V E = true) (h6 : E.length ≤ 6) (hk : k < E.length) : acyB V (E ++ [s &&& ed E k]) = true ∧ codeB V (E ++ [s &&& ed E k]) = 0 := by
  have hv := acyB_valid h
  obtain ⟨h0, h1, _, _⟩ := validB_of hv
  have h2 : validB V (E ++ [s &&& ed E k]) = true := validB_mk h0 h1 (by simp; omega) fun e he => by
    rcases List.mem_append.1 he with he | he
    · exact validB_out hv e he
    · rw [List.mem_singleton.1 he]; exact outB_andl s (validB_out hv _ (ed_mem E k hk))
  obtain ⟨p, hp⟩ := (acyB_iff hv).1 h
  exact ⟨(acyB_iff h2).2 ⟨_, jt_part hp hk fun v hh => ((hv_and _ _ _).1 hh).2⟩, by unfold codeB; rw [h2]; rfl⟩
end Go.Proofs.YtbgbjodehbcgiaaDoor

/- The plain law of classes: hierarchical graphs have no knot; a graph has a join tree just if it has no knot; what doesn't hang on the edges' order. No program in sight. -/
namespace Go.Proofs.YtbgbjodehbcgiaaDoor

/-! ### Knots -/
theorem jt_iff {E : List (BitVec 32)} (h7 : E.length ≤ 7) : (∃ p, JT E p) ↔ ¬ ∃ R, Knot E R := by
  constructor
  · rintro h ⟨R, k⟩; exact knot_no_jt k h
  · intro h
    have hst := runE_Stuck (E := E) 0#32 h7
    have hr := runE_rch E 0#32
    refine (left_iff hr hst).1 ?_
    rcases Nat.lt_or_ge 1 (runE E 0#32).2.length with c | c
    · exact absurd ⟨_, stuck_knot (hr.inv (inv_begin E)) hst c⟩ h
    · exact c
theorem Knot.mem {E F R : List (BitVec 32)} (k : Knot E R) (h : ∀ a, a ∈ E ↔ a ∈ F) : Knot F R := by
  refine ⟨k.ne, k.anti, k.twice, fun a ha => ?_, fun j hj => ?_⟩
  · obtain ⟨j, hj, e⟩ := k.edge a ha
    obtain ⟨i, hi, e2⟩ := mem_ed ((h _).1 (ed_mem E j hj))
    exact ⟨i, hi, by rw [e2]; exact e⟩
  · obtain ⟨i, hi, e2⟩ := mem_ed ((h _).2 (ed_mem F j hj))
    obtain ⟨m, hm, e⟩ := k.part i hi
    exact ⟨m, hm, by rw [e2] at e; exact e⟩
theorem jt_mem {E F : List (BitVec 32)} (h7 : E.length ≤ 7) (k7 : F.length ≤ 7) (h : ∀ a, a ∈ E ↔ a ∈ F) : (∃ p, JT E p) ↔ ∃ p, JT F p := by
  rw [jt_iff h7, jt_iff k7]
  exact ⟨fun c ⟨R, k⟩ => c ⟨R, k.mem fun a => (h a).symm⟩, fun c ⟨R, k⟩ => c ⟨R, k.mem h⟩⟩
/-- A part of the knot's own that comes to the graph leaves the knot. -/
theorem Knot.more {E R : List (BitVec 32)} (k : Knot E R) (x : BitVec 32) (h : ∃ i, i < R.length ∧ ∀ v, hv x v → inR R v → hv (ed R i) v) : Knot (E ++ [x]) R := by
  have hl : (E ++ [x]).length = E.length + 1 := by simp
  refine ⟨k.ne, k.anti, k.twice, fun a ha => ?_, fun j hj => ?_⟩
  · obtain ⟨j, hj, e⟩ := k.edge a ha
    exact ⟨j, by omega, by rw [ed_app, if_pos hj]; exact e⟩
  · rw [hl] at hj
    by_cases c : j < E.length
    · rw [ed_app, if_pos c]; exact k.part j c
    · rw [ed_app, if_neg c, if_pos (by omega)]; exact h
theorem jt_less {E : List (BitVec 32)} (h6 : E.length ≤ 6) (h : ∃ p, JT (E ++ [0#32]) p) : ∃ p, JT E p := by
  rw [jt_iff (by simp; omega)] at h
  rw [jt_iff (by omega)]
  rintro ⟨R, k⟩
  refine h ⟨R, k.more _ ?_⟩
  obtain ⟨v, a, ha, _⟩ := k.ne
  obtain ⟨i, hi, _⟩ := mem_ed ha
  exact ⟨i, hi, fun u hu => absurd hu (hv_zero u)⟩

/-! ### What hierarchical means -/
structure HierP (E : List (BitVec 32)) (head : BitVec 32) : Prop where
  cmp : ∀ x y, (∃ e ∈ E, hv e x ∧ hv e y) → (∀ e ∈ E, hv e x → hv e y) ∨ ∀ e ∈ E, hv e y → hv e x
  up : ∀ x y, (∃ e ∈ E, hv e x) → (∀ e ∈ E, hv e x → hv e y) → ¬ (∀ e ∈ E, hv e y → hv e x) → hv head x → hv head y
def bothX (E : List (BitVec 32)) (x y : Nat) : Bool := E.any fun e => e.getLsbD x && e.getLsbD y
def onlyX (E : List (BitVec 32)) (x y : Nat) : Bool := E.any fun e => e.getLsbD x && !e.getLsbD y
/-- By these two vertices, in this order, the graph is not hierarchical. -/
def clashB (E : List (BitVec 32)) (head : BitVec 32) (x y : Nat) : Bool :=
  (bothX E x y && onlyX E x y && onlyX E y x && decide (x < y)) || (bothX E x y && !onlyX E x y && onlyX E y x && head.getLsbD x && !head.getLsbD y)
def hierB (V : Nat) (E : List (BitVec 32)) (head : BitVec 32) : Bool := (List.range V).all fun a => (List.range V).all fun b => !clashB E head a b
theorem bothX_iff {E : List (BitVec 32)} {x y : Nat} : bothX E x y = true ↔ ∃ e ∈ E, hv e x ∧ hv e y := by
  unfold bothX hv
  simp only [List.any_eq_true, Bool.and_eq_true]
theorem onlyX_iff {E : List (BitVec 32)} {x y : Nat} : onlyX E x y = true ↔ ¬ ∀ e ∈ E, hv e x → hv e y := by
  unfold onlyX hv
  simp only [List.any_eq_true, Bool.and_eq_true, Bool.not_eq_true']
  constructor
  · rintro ⟨e, he, a, b⟩ h
    rw [h e he a] at b; cases b
  · intro h
    apply Classical.byContradiction
    intro c
    refine h fun e he a => ?_
    cases d : e.getLsbD y
    · exact absurd ⟨e, he, a, d⟩ c
    · rfl
theorem onlyX_false {E : List (BitVec 32)} {x y : Nat} : onlyX E x y = false ↔ ∀ e ∈ E, hv e x → hv e y := by
  rw [← Bool.not_eq_true, onlyX_iff, Classical.not_not]
theorem hierB_iff {V : Nat} {E : List (BitVec 32)} {head : BitVec 32} : hierB V E head = true ↔ ∀ a b, a < V → b < V → clashB E head a b = false := by
  unfold hierB
  simp only [List.all_eq_true, List.mem_range, Bool.not_eq_true']
  exact ⟨fun h a b ha hb => h a ha b hb, fun h a ha b hb => h a b ha hb⟩
theorem hierP_iff {V : Nat} {E : List (BitVec 32)} {head : BitVec 32} (hV : ∀ e ∈ E, ∀ v, hv e v → v < V) : hierB V E head = true ↔ HierP E head := by
  rw [hierB_iff]
  constructor
  · intro h
    refine ⟨fun x y hxy => ?_, fun x y hx h1 h2 hh => ?_⟩
    · obtain ⟨e, he, a, b⟩ := hxy
      apply Classical.byContradiction
      intro c
      have c1 : onlyX E x y = true := onlyX_iff.2 fun d => c (.inl d)
      have c2 : onlyX E y x = true := onlyX_iff.2 fun d => c (.inr d)
      have c3 : bothX E x y = true := bothX_iff.2 ⟨e, he, a, b⟩
      have c4 : bothX E y x = true := bothX_iff.2 ⟨e, he, b, a⟩
      rcases Nat.lt_trichotomy x y with d | d | d
      · have := h x y (hV e he x a) (hV e he y b)
        unfold clashB at this
        rw [c1, c2, c3, decide_eq_true d] at this
        cases this
      · subst d; exact c (.inl fun _ _ z => z)
      · have := h y x (hV e he y b) (hV e he x a)
        unfold clashB at this
        rw [c1, c2, c4, decide_eq_true d] at this
        cases this
    · obtain ⟨e, he, a⟩ := hx
      have b := h1 e he a
      apply Classical.byContradiction
      intro c
      have d := h x y (hV e he x a) (hV e he y b)
      unfold clashB at d
      have c0 : head.getLsbD y = false := by
        cases z : head.getLsbD y
        · rfl
        · exact absurd z c
      have c9 : head.getLsbD x = true := hh
      rw [bothX_iff.2 ⟨e, he, a, b⟩, onlyX_false.2 h1, onlyX_iff.2 h2, c9, c0] at d
      cases d
  · intro h a b _ _
    cases c : clashB E head a b
    · rfl
    · exfalso
      unfold clashB at c
      simp only [Bool.or_eq_true, Bool.and_eq_true, Bool.not_eq_true', decide_eq_true_eq] at c
      rcases c with ⟨⟨⟨c1, c2⟩, c3⟩, _⟩ | ⟨⟨⟨⟨c1, c2⟩, c3⟩, c4⟩, c5⟩
      · rcases h.cmp a b (bothX_iff.1 c1) with d | d
        · exact onlyX_iff.1 c2 d
        · exact onlyX_iff.1 c3 d
      · obtain ⟨e, he, x, _⟩ := bothX_iff.1 c1
        have := h.up a b ⟨e, he, x⟩ (onlyX_false.1 c2) (onlyX_iff.1 c3) c4
        unfold hv at this
        rw [this] at c5; cases c5
theorem HierP.mem {E F : List (BitVec 32)} {head head2 : BitVec 32} (h : HierP E head) (hm : ∀ a, a ∈ E ↔ a ∈ F) (hh : ∀ v, (∃ e ∈ E, hv e v) → (hv head v ↔ hv head2 v)) : HierP F head2 := by
  have s : ∀ x y, (∀ e ∈ F, hv e x → hv e y) ↔ ∀ e ∈ E, hv e x → hv e y := fun x y =>
    ⟨fun k e he => k e ((hm e).1 he), fun k e he => k e ((hm e).2 he)⟩
  refine ⟨fun x y ⟨e, he, a⟩ => ?_, fun x y ⟨e, he, a⟩ h1 h2 h3 => ?_⟩
  · rw [s, s]; exact h.cmp x y ⟨e, (hm e).2 he, a⟩
  · rw [s] at h1 h2
    have he2 := (hm e).2 he
    exact (hh y ⟨e, he2, h1 e he2 a⟩).1 (h.up x y ⟨e, he2, a⟩ h1 h2 ((hh x ⟨e, he2, a⟩).2 h3))
theorem HierP.none {E : List (BitVec 32)} {head : BitVec 32} (h : HierP E head) : HierP E 0#32 := ⟨h.cmp, fun x _ _ _ _ h3 => absurd h3 (hv_zero x)⟩
theorem HierP.full {E : List (BitVec 32)} {head : BitVec 32} (h : HierP E 0#32) (hf : ∀ v, (∃ e ∈ E, hv e v) → hv head v) : HierP E head := ⟨h.cmp, fun _ y ⟨e, he, a⟩ h1 _ _ => hf y ⟨e, he, h1 e he a⟩⟩

/-! ### The vertices that stand in edges, the extended graph -/
def covB (E : List (BitVec 32)) : BitVec 32 := orTo E E.length
theorem hv_cov (E : List (BitVec 32)) (v : Nat) : hv (covB E) v ↔ ∃ e ∈ E, hv e v := by
  unfold covB
  rw [hv_orTo]
  constructor
  · rintro ⟨i, hi, h⟩; exact ⟨_, ed_mem E i hi, h⟩
  · rintro ⟨e, he, h⟩
    obtain ⟨i, hi, rfl⟩ := mem_ed he
    exact ⟨i, hi, h⟩
def extE (E : List (BitVec 32)) (head : BitVec 32) : List (BitVec 32) := E ++ [head &&& covB E]
theorem extE_length (E : List (BitVec 32)) (head : BitVec 32) : (extE E head).length = E.length + 1 := by simp [extE]
theorem mem_ext {E : List (BitVec 32)} {head a : BitVec 32} : a ∈ extE E head ↔ a ∈ E ∨ a = head &&& covB E := by simp [extE]
theorem ext_mem {E F : List (BitVec 32)} {head head2 : BitVec 32} (hm : ∀ a, a ∈ E ↔ a ∈ F) (hh : ∀ v, (∃ e ∈ E, hv e v) → (hv head v ↔ hv head2 v)) : ∀ a, a ∈ extE E head ↔ a ∈ extE F head2 := by
  have e : head &&& covB E = head2 &&& covB F := hv_ext fun v => by
    rw [hv_and, hv_and, hv_cov, hv_cov]
    constructor
    · rintro ⟨a, e, he, b⟩; exact ⟨(hh v ⟨e, he, b⟩).1 a, e, (hm e).1 he, b⟩
    · rintro ⟨a, e, he, b⟩; exact ⟨(hh v ⟨e, (hm e).2 he, b⟩).2 a, e, (hm e).2 he, b⟩
  intro a
  rw [mem_ext, mem_ext, hm a, e]

/-! ### What is hierarchical is connex -/
theorem hier_noknot {E : List (BitVec 32)} {head : BitVec 32} (hh : HierP E head) : ¬ ∃ R, Knot (extE E head) R := by
  rintro ⟨R, k⟩
  let F := extE E head
  let c : Nat → Nat := fun u => cntB (fun j => (ed F j).getLsbD u) F.length
  have hl : F.length = E.length + 1 := extE_length E head
  have hF : ∀ j, j < E.length → ed F j = ed E j := fun j hj => by show ed (E ++ [_]) j = _; rw [ed_app, if_pos hj]
  have hH : ed F E.length = head &&& covB E := by show ed (E ++ [_]) _ = _; rw [ed_app, if_neg (Nat.lt_irrefl _), if_pos rfl]
  have hcl : ∀ u, c u ≤ F.length := fun u => cntB_le _ _
  obtain ⟨v0, h0⟩ := k.ne
  obtain ⟨u, hu, huR, hmin⟩ := exists_max (fun u => inR R u) (fun u => F.length - c u) 32 ⟨v0, by obtain ⟨a, _, h⟩ := h0; exact hv_lt h, h0⟩
  have hmin2 : ∀ w, inR R w → ¬ c w < c u := fun w hw hlt => by
    have h1 := hmin w (by obtain ⟨a, _, h⟩ := hw; exact hv_lt h) hw
    have h2 := hcl u
    have h3 : F.length - c w ≤ F.length - c u := h1
    omega
  obtain ⟨a, b, ha, hb, hab, hua, hub⟩ := k.twice u huR
  obtain ⟨i, hi, ei⟩ := k.edge _ (ed_mem R a ha)
  obtain ⟨j, hj, ej⟩ := k.edge _ (ed_mem R b hb)
  have diff : ∀ a b, a < R.length → b < R.length → a ≠ b → ∃ w, hv (ed R a) w ∧ ¬ hv (ed R b) w := fun a b ha hb hab => by
    apply Classical.byContradiction
    intro d
    exact hab (k.anti a b ha hb fun v hv1 => Classical.byContradiction fun hv2 => d ⟨v, hv1, hv2⟩)
  have less : ∀ w m, (∀ e ∈ E, hv e w → hv e u) → (hv (head &&& covB E) w → hv (head &&& covB E) u) → m < F.length → hv (ed F m) u → ¬ hv (ed F m) w → c w < c u := by
    intro w m h1 h2 hm h3 h4
    have h5 : (ed F m).getLsbD w = false := by
      cases d : (ed F m).getLsbD w
      · rfl
      · exact absurd d h4
    refine cntB_strict (p := fun j => (ed F j).getLsbD w) (q := fun j => (ed F j).getLsbD u) (j := m) h3 h5 (fun q hq hw => ?_) hm
    replace hw : hv (ed F q) w := hw
    show hv (ed F q) u
    by_cases d : q < E.length
    · rw [hF q d] at hw ⊢
      exact h1 _ (ed_mem E q d) hw
    · obtain rfl : q = E.length := by omega
      rw [hH] at hw ⊢
      exact h2 hw
  -- two edges of the graph itself
  have two : ∀ a b i j, a < R.length → b < R.length → a ≠ b → i < E.length → j < E.length → (∀ v, hv (ed R a) v ↔ hv (ed F i) v ∧ inR R v) → (∀ v, hv (ed R b) v ↔ hv (ed F j) v ∧ inR R v) → hv (ed R a) u → hv (ed R b) u → False := by
    intro a b i j ha hb hab hi hj ei ej hua hub
    obtain ⟨w, hwa, hwb⟩ := diff a b ha hb hab
    obtain ⟨hwi, hwR⟩ := (ei w).1 hwa
    have hui := ((ei u).1 hua).1
    have huj := ((ej u).1 hub).1
    have hwj : ¬ hv (ed F j) w := fun d => hwb ((ej w).2 ⟨d, hwR⟩)
    have hFj := hF j hj
    have hFi := hF i hi
    have hsub : ∀ e ∈ E, hv e w → hv e u := by
      rcases hh.cmp w u ⟨_, ed_mem E i hi, by rw [← hFi]; exact hwi, by rw [← hFi]; exact hui⟩ with d | d
      · exact d
      · exfalso
        apply hwj
        rw [hFj] at huj ⊢
        exact d _ (ed_mem E j hj) huj
    have hnot : ¬ ∀ e ∈ E, hv e u → hv e w := fun d => hwj (by rw [hFj] at huj ⊢; exact d _ (ed_mem E j hj) huj)
    refine hmin2 w hwR (less w j hsub (fun d => ?_) (by omega) huj hwj)
    rw [hv_and] at d ⊢
    refine ⟨hh.up w u ⟨_, ed_mem E i hi, by rw [← hFi]; exact hwi⟩ hsub hnot d.1, (hv_cov E u).2 ⟨_, ed_mem E i hi, by rw [← hFi]; exact hui⟩⟩
  -- one of them is the head
  have one : ∀ a b j, a < R.length → b < R.length → a ≠ b → j < E.length → (∀ v, hv (ed R a) v ↔ hv (ed F E.length) v ∧ inR R v) → (∀ v, hv (ed R b) v ↔ hv (ed F j) v ∧ inR R v) → hv (ed R a) u → hv (ed R b) u → False := by
    intro a b j ha hb hab hj ei ej hua hub
    obtain ⟨w, hwb, hwa⟩ := diff b a hb ha (Ne.symm hab)
    obtain ⟨hwj, hwR⟩ := (ej w).1 hwb
    have huj := ((ej u).1 hub).1
    have huh := ((ei u).1 hua).1
    have hwh : ¬ hv (ed F E.length) w := fun d => hwa ((ei w).2 ⟨d, hwR⟩)
    rw [hF j hj] at hwj huj
    rcases Classical.em (∀ e ∈ E, hv e w → hv e u) with d | d
    · exact hmin2 w hwR (less w E.length d (fun z => absurd (by rw [hH]; exact z) hwh) (by omega) huh hwh)
    · rcases hh.cmp u w ⟨_, ed_mem E j hj, huj, hwj⟩ with z | z
      · apply hwh
        rw [hH, hv_and] at huh ⊢
        exact ⟨hh.up u w ⟨_, ed_mem E j hj, huj⟩ z d huh.1, (hv_cov E w).2 ⟨_, ed_mem E j hj, hwj⟩⟩
      · exact d z
  have hi' : i < E.length + 1 := by rw [← hl]; exact hi
  have hj' : j < E.length + 1 := by rw [← hl]; exact hj
  rcases Nat.lt_or_ge i E.length with c1 | c1
  · rcases Nat.lt_or_ge j E.length with c2 | c2
    · exact two a b i j ha hb hab c1 c2 ei ej hua hub
    · obtain rfl : j = E.length := by omega
      exact one b a i hb ha (Ne.symm hab) c1 ej ei hub hua
  · obtain rfl : i = E.length := by omega
    rcases Nat.lt_or_ge j E.length with c2 | c2
    · exact one a b j ha hb hab c2 ei ej hua hub
    · obtain rfl : j = E.length := by omega
      refine hab (k.anti a b ha hb fun v hh => ?_)
      rw [ej, ← ei]; exact hh
theorem hier_connex {E : List (BitVec 32)} {head : BitVec 32} (h6 : E.length ≤ 6) (hh : HierP E head) : (∃ p, JT (extE E head) p) ∧ ∃ p, JT E p := by
  refine ⟨(jt_iff (by rw [extE_length]; omega)).2 (hier_noknot hh), jt_less h6 ?_⟩
  have := (jt_iff (E := extE E 0#32) (by rw [extE_length]; omega)).2 (hier_noknot hh.none)
  unfold extE at this
  rwa [BitVec.zero_and] at this
end Go.Proofs.YtbgbjodehbcgiaaDoor

/- The contracts of slices.Clone over numbers and words, of jointree.Reroot and of osierref16.Reroot. -/
namespace Go.Proofs.YtbgbjodehbcgiaaDoor
open Go.RowKit

attribute [local go_sem ↓] uz_and uz_or uz_andNot uz_and_one uz_shr uz_shl_one uz_shl uz_sub uz_sub_one uz_add uz_beq_zero uz_bne_zero uz_beq uz_bne uz_beq_one

theorem own_of_row {w : World} {base g n cap : Nat} {e : TypeId} {xs R : List Value} (h : Row w g e (xs ++ R)) (hb : base ≤ g) (hn : xs.length = n) (hc : (xs ++ R).length = cap) (hm : cap ≤ maxLen) : w.ownsRow base e 1 (.slice (some ⟨g, 0, none⟩) n cap) n xs := by
  subst hn hc
  refine ⟨by simp, .inr ⟨g, _, _, rfl, hb, h, by simp, hm, by simp, by simp⟩⟩
theorem row_of_own {w : World} {base n : Nat} {e : TypeId} {v : Value} {xs : List Value} (h : w.ownsRow base e 1 v n xs) (hn : 0 < n) : ∃ g cap R, v = .slice (some ⟨g, 0, none⟩) n cap ∧ base ≤ g ∧ Row w g e (xs ++ R) ∧ (xs ++ R).length = cap ∧ cap ≤ maxLen ∧ n ≤ cap := by
  rcases h.2 with ⟨_, h0⟩ | ⟨g, cap, cur, hv, hb, hh, hnc, hm, hsz, htk⟩
  · omega
  · have e1 : xs ++ cur.toList.drop n = cur.toList := by rw [← htk, Nat.mul_one, List.take_append_drop]
    refine ⟨g, cap, cur.toList.drop n, hv, hb, ?_, ?_, hm, hnc⟩
    · unfold Row; rw [e1]; simpa using hh
    · rw [e1]; simpa using hsz
theorem empty_own (w : World) (e : TypeId) : (w.alloc (.cells #[] e)).ownsRow w.heap.size e 1 (.slice (some ⟨w.heap.size, 0, none⟩) 0 0) 0 [] :=
  ⟨rfl, .inr ⟨w.heap.size, 0, #[], rfl, Nat.le_refl _, heap_alloc_new w _, Nat.le_refl _, by unfold maxLen; omega, rfl, rfl⟩⟩
theorem Rd.news {w : World} {B : Nat} {ad : Addr} {xs : List Value} (h : Rd w B (some ad) xs) : ∀ j u, xs[j]? = some u → w.cell? (ad.add j) = some u := by
  intro j u hj
  obtain ⟨hj', rfl⟩ := List.getElem?_eq_some_iff.1 hj
  obtain ⟨ad', e, _, hc⟩ := h j hj'
  injection e with e
  subst e
  exact hc
theorem is_row_set (n : Nat) (f : Nat → Int) (R : List Value) (k : Nat) (x : Int) (h : k < n) : (is (rowOf n f) ++ R).set k (.int .i64 x) = is (rowOf n (updI f k x)) ++ R := by
  rw [List.set_append_left _ _ (by simp; omega), rowOf_set]; rfl
theorem is_row_at (n : Nat) (f : Nat → Int) (R : List Value) (k : Nat) (h : k < n) : (is (rowOf n f) ++ R)[k]? = some (.int .i64 (f k)) := by
  rw [List.getElem?_append_left (by simp; omega)]; exact rowOf_at n f k h

theorem zed_drop {Z : List Nat} {k : Nat} (h : k < Z.length) : Z.drop k = zed Z k :: Z.drop (k + 1) := by
  rw [← zed_eq Z k h]; exact List.drop_eq_getElem_cons h
end Go.Proofs.YtbgbjodehbcgiaaDoor

/- The contracts of osierref15.Run, Sets, Rest. -/
namespace Go.Proofs.YtbgbjodehbcgiaaDoor
open Go.RowKit

attribute [local go_sem ↓] uz_and uz_or uz_andNot uz_and_one uz_shr uz_shl_one uz_shl uz_sub uz_sub_one uz_add uz_beq_zero uz_bne_zero uz_beq uz_bne uz_beq_one

/-- Rows of two kinds lie apart. -/
theorem own_ne {w : World} {base base' size size' n n' x : Nat} {e t : TypeId} {v v' : Value} {xs xs' : List Value} (h : w.ownsRow base e size v n xs) (k : w.ownsRow base' t size' v' n' xs') (hne : e ≠ t) (h1 : v.ownBlock = some x) : v'.ownBlock ≠ some x := by
  intro h2
  rcases h.2 with ⟨rfl, _⟩ | ⟨g, cap, cur, rfl, _, hh, _⟩
  · simp [Value.ownBlock] at h1
  · rcases k.2 with ⟨rfl, _⟩ | ⟨g', cap', cur', rfl, _, hh', _⟩
    · simp [Value.ownBlock] at h2
    · simp only [Value.ownBlock, Option.some.injEq] at h1 h2
      subst h1 h2
      rw [hh] at hh'
      injection hh' with hh'
      injection hh' with _ ht
      exact hne ht
theorem head_at {ss : List Stp} (h : 0 < ss.length) : ss.head? = some (stp ss 0) := by
  cases ss with
  | nil => simp at h
  | cons a l => rfl
theorem runN_left (E : List (BitVec 32)) (keep : BitVec 32) (k : Nat) : (runN keep (beginE E) k).2.length ≤ E.length := by
  have := (runN_rch keep (beginE E) k).len
  rw [begin_len] at this; exact this
theorem runN_srt (E : List (BitVec 32)) (keep : BitVec 32) (k : Nat) : Srt (runN keep (beginE E) k).2 := (runN_rch keep (beginE E) k).srt (srt_begin E)

set_option maxHeartbeats 8000000 in
set_option maxRecDepth 100000 in
theorem r15run_any (V : Int) (A : Option Addr) (E : List (BitVec 32)) (c : Nat) (keep : BitVec 32) (w : World) (hl : E.length ≤ 35184372087808) (hE : Rd w w.heap.size A (us E)) :
    Calls Tryd.prog 105 #[.agg #[.int .i64 V, .slice A E.length c], .int .u32 (uz keep)] w fun e w' =>
      ∃ v1 v2 ss L code, e = .returned (.tuple #[v1, v2, .int .i64 code]) ∧ w'.ownsRow w.heap.size 190 4 v1 ss.length (sts ss) ∧ w'.ownsRow w.heap.size 191 2 v2 L.length (lfs L) ∧ Hid (RunIs V E keep ss L code) ∧ Below w.heap.size w w' := by
  go_enter Tryd.func105, Tryd.ntmps105
  go_wp2_with fail
  have hb0 := below_alloc w (.cells #[.int .i64 V, .slice A E.length c] 28)
  have hG0 : Row (w.alloc (.cells #[.int .i64 V, .slice A E.length c] 28)) w.heap.size 28 [.int .i64 V, .slice A E.length c] := Row.new _ _ _
  generalize w.alloc _ = w0 at hb0 hG0 ⊢
  refine (r14valid_any V A E c _ hl (hE.later hb0)).mono ?_
  rintro e w1 ⟨rfl, hb1⟩
  have hB1 := bthen hb0 hb1
  have hG1 := hG0.later hb1
  cases hv : validB V E
  · have HP : Hid (RunIs V E keep [] [] 140) := Lib.hid (.inl ⟨hv, rfl, rfl, rfl⟩)
    go_wp2_with fail
    refine bodyPost_ret (v := .tuple #[.slice none 0 0, .slice none 0 0, .int .i64 140]) (by simp [results, Tryd.results105, go_sem]) rfl ?_
    exact ⟨_, _, [], [], _, rfl, ⟨rfl, .inl ⟨rfl, rfl⟩⟩, ⟨rfl, .inl ⟨rfl, rfl⟩⟩, HP, hB1⟩
  · have h7 := (validB_of hv).2.2.1
    have HV := Lib.hid hv
    have d0 : w1.cell? ⟨w.heap.size, 0, none⟩ = some (.int .i64 V) := hG1.cell 0
    have d1 : w1.cell? ⟨w.heap.size, 1, none⟩ = some (.slice A E.length c) := hG1.cell 1
    clear hv
    go_wp2_with fail
    refine (r15begin_any V A E c w1 h7 (hE.later hB1)).mono ?_
    rintro e w2 ⟨v0, rfl, hown0, hb2⟩
    have hB2 := bthen hB1 hb2
    have hown0' := own_less hown0 hB1.size
    clear hown0 hb2 hb1 hG0 hb0 d0 d1
    go_wp2_with fail
    go_loopg [7, 8, 9] 400 (fun gk v vs _ wr => ∃ (k : Nat), gk = 400 - k ∧ k < 400 ∧
      wr.ownsRow w.heap.size 191 2 v (runN keep (beginE E) k).2.length (lfs (runN keep (beginE E) k).2) ∧
      wr.ownsRow w.heap.size 190 4 vs (runN keep (beginE E) k).1.length (sts (runN keep (beginE E) k).1) ∧ Below w.heap.size w wr)
    case atStart => exact ⟨0, rfl, by omega, hown0', ⟨rfl, .inl ⟨rfl, rfl⟩⟩, hB2⟩
    case round =>
      obtain ⟨k, rfl, hk4, hown, howns, hb⟩ := hrel
      obtain ⟨wr, ewr, hb⟩ : ∃ wr : World, wr = _ ∧ Below w.heap.size w wr := ⟨_, rfl, hb⟩
      subst ewr
      have hll := runN_left E keep k
      have hsl := runN_len keep (beginE E) k
      have hsr := Lib.hid (runN_srt E keep k)
      have HN := Lib.hid (fun (s : Stp) h => runN_some (keep := keep) (L := beginE E) (k := k) (s := s) h)
      have HE := Lib.hid (fun h => runE_eq (keep := keep) h7 (k := k) h)
      have HC := Lib.hid (fun (s : Stp) h => runN_count (keep := keep) (E := E) (k := k) (s := s) h7 h)
      generalize hr : runN keep (beginE E) k = r at hown howns hll hsl hsr HN HE HC
      obtain ⟨ss, L⟩ := r
      have HRR := Lib.hid hr
      clear hr hown0' hB2
      simp only at hown howns hll hsl hsr HN HE HC
      obtain ⟨A1, c1, rfl, _, _, hL, _⟩ := Rd.of_ownS hown
      go_wp2_with fail
      refine (r15steps_any A1 L c1 keep wr (by omega) hsr.out hL).mono ?_
      rintro e w3 ⟨vst, rfl, hownst, hst200, hb3⟩
      have hB3 := bthen hb hb3
      have hown3 := own_below hown hb3
      have howns3 := own_below howns hb3
      obtain ⟨A2, c2, rfl, _, _, hS, _⟩ := Rd.of_ownS hownst
      generalize stepsE L keep = all at HN HE HC hst200 hS hownst
      have hL3 := hL.later hb3
      clear hownst hL hown howns hb hb3
      by_cases h0 : all.length = 0
      · have hnil : all = [] := List.eq_nil_of_length_eq_zero h0
        have HP : Hid (RunIs V E keep ss L 0) := Lib.hid (by
          have e := HE.out (by rw [hnil]; rfl)
          exact .inr ⟨HV.out, by rw [← e], by rw [← e], rfl⟩)
        have e0 : ((all.length : Int) == 0) = true := by rw [beq_iff_eq]; omega
        obtain ⟨v, ev, howns3⟩ : ∃ v, v = _ ∧ w3.ownsRow w.heap.size 190 4 v ss.length (sts ss) := ⟨_, rfl, howns3⟩
        subst ev
        clear HN HE HC hnil h0
        go_wp2_with fail
        refine bodyPost_ret (v := .tuple #[v, .slice A1 L.length c1, .int .i64 0]) (by simp [results, Tryd.results105, go_sem]) rfl ?_
        exact ⟨_, _, ss, L, _, rfl, howns3, hown3, HP, hB3⟩
      · have hpos : 0 < all.length := by omega
        have e0 : ((all.length : Int) == 0) = false := by rw [beq_eq_false_iff_ne]; omega
        have hh := head_at hpos
        have hcount := HC.out _ hh
        have HN2 := Lib.hid (HN.out _ hh)
        obtain ⟨ad, hA2, hbl, q0, q1, q2, q3⟩ := hS.st_cells hpos
        subst hA2
        rw [Nat.zero_mul, add_none ad] at q0 q1 q2 q3
        have hb0 : (0 : Int) < all.length := by omega
        have hmk := Lib.hid (fun s => r15make_any A1 L c1 s w3 (by omega) hL3)
        obtain ⟨s, hs⟩ : ∃ s, s = stp all 0 := ⟨_, rfl⟩
        rw [← hs] at q0 q1 q2 q3 HN2
        have HSS := Lib.hid hs
        clear HN HE HC hh h0 hs
        go_wp2_with fail
        refine (hmk.out s).mono ?_
        rintro e w4 ⟨vm, rfl, hownm, hb4⟩
        have hB4 := bthen hB3 hb4
        have hown4 := own_less hownm hB3.size
        have howns4 := own_below howns3 hb4
        obtain ⟨ad2, hA2, hbl2, p0, p1, p2, p3⟩ := (hS.later hb4).st_cells hpos
        obtain rfl : ad = ad2 := by injection hA2
        rw [Nat.zero_mul, add_none ad, ← HSS.out] at p0 p1 p2 p3
        clear hmk hownm howns3 hA2 q0 q1 q2 q3 hb4 hL3 hown3 hS
        go_wp2_with ((with_reducible show wpList _ _ _ _ _ _); refine app_rstep rfl (.tmp 28) (.tmp 32) rfl w.heap.size _ ss s rfl rfl howns4 (by omega) hB4.size ?_)
        intro v' w5 hown5 hgr5 hb5
        have hL5 := own_grown hown4 hgr5 fun x hx => own_ne howns4 hown4 (by decide) hx
        go_wp2_with fail
        go_roundg (400 - (k + 1))
        case measure => omega
        case rel => exact ⟨k + 1, rfl, by omega, by rw [HN2.out]; exact hL5, by rw [HN2.out]; show w5.ownsRow w.heap.size 190 4 v' (ss ++ [s]).length (sts (ss ++ [s])); rw [List.length_append]; exact hown5, hB4.trans hb5⟩

/-! ### Sets -/
theorem swp_upd2 (f : Nat → BitVec 32) (d : Nat) : updS (updS f d (f (d + 1))) (d + 1) (f d) = swp f (d + 1) := by
  funext k
  unfold updS swp
  by_cases h1 : k = d + 1
  · simp [h1]
  · by_cases h2 : k = d
    · simp [h2]
    · simp [h1, h2]
theorem wrow_list (L : List (BitVec 32)) : wrow L.length (fun i => L.getD i 0#32) = L := by
  unfold wrow
  apply List.ext_getElem?
  intro i
  by_cases h : i < L.length
  · simp [h]
  · simp [h]
theorem srtd_of {M : List (BitVec 32)} (h : risesB M) (x : BitVec 32) : Srtd (fun i => (M ++ [x]).getD i 0#32) M.length := by
  intro a b h1 h2
  have := List.pairwise_iff_getElem.1 h a b (by omega) h2 h1
  simp only [List.getD_eq_getElem?_getD, List.getElem?_append_left (show a < M.length by omega), List.getElem?_append_left h2, List.getElem?_eq_getElem h2, List.getElem?_eq_getElem (show a < M.length by omega), Option.getD_some]
  exact this
set_option maxHeartbeats 8000000 in
set_option maxRecDepth 100000 in
theorem r15sets_any (A : Option Addr) (L : Lt) (c : Nat) (w : World) (hl : L.length ≤ 7) (hL : Rd w w.heap.size A (lfs L)) :
    Calls Tryd.prog 106 #[.slice A L.length c] w fun e w' => ∃ v Z, e = .returned v ∧ w'.ownsRow w.heap.size 29 1 v Z.length (us Z) ∧ Hid (risesB Z) ∧ Hid (Z.Perm (setsOf L)) ∧ Below w.heap.size w w' := by
  go_enter Tryd.func106, Tryd.ntmps106
  go_wp2_with fail
  go_loopw [3, 4, 5] (fun v i _ wr => ∃ (k : Nat) (M : List (BitVec 32)), k ≤ L.length ∧ i = .int .i64 k ∧ M.length ≤ k ∧ Hid (risesB M) ∧ Hid (M.Perm (setsOf (L.take k))) ∧ wr.ownsRow w.heap.size 29 1 v M.length (us M) ∧ Below w.heap.size w wr) (fun _ i _ _ => L.length - (intOf i).toNat)
  case atStart => exact ⟨0, [], Nat.zero_le _, rfl, Nat.le_refl _, Lib.hid List.Pairwise.nil, Lib.hid (List.Perm.refl _), ⟨rfl, .inl ⟨rfl, rfl⟩⟩, Below.refl _ _⟩
  case round =>
    obtain ⟨k, M, hk, rfl, hml, HR, HP, hown, hb⟩ := hrel
    by_cases hlt : k < L.length
    · obtain ⟨ad, hA, hbl, q0, q1⟩ := (hL.later hb).lf_cells hlt
      have HS := Lib.hid (take_snoc L k hlt)
      rw [lft_eq L k hlt] at HS
      have HN := Lib.hid (setsOf_snoc (L.take k) (lft L k))
      rw [← HS.out] at HN
      subst hA
      generalize lft L k = s at q0 q1 HN
      obtain ⟨i, x⟩ := s
      simp only at q0 q1 HN
      have a1 : (0 : Int) ≤ k := by omega
      have a2 : (k : Int) < L.length := by omega
      by_cases hx : x = 0#32
      · have hxb : (x == 0#32) = true := by simp [hx]
        have hxn : (x != 0#32) = false := by simp [hx]
        have HN2 : Hid (setsOf (L.take (k + 1)) = setsOf (L.take k)) := Lib.hid (by rw [HN.out, hxn]; simp)
        clear hx
        go_wp2_with fail
        go_roundw
        case rel => exact ⟨k + 1, M, by omega, by go_num, by omega, HR, Lib.hid (by rw [HN2.out]; exact HP.out), hown, hb⟩
        case measure => simp [intOf]; omega
      · have hxb : (x == 0#32) = false := by simp [hx]
        have hxn : (x != 0#32) = true := by simp [hx]
        have HN2 : Hid (setsOf (L.take (k + 1)) = setsOf (L.take k) ++ [x]) := Lib.hid (by rw [HN.out, hxn]; simp)
        clear hx
        go_wp2_with ((with_reducible show wpList _ _ _ _ _ _); refine app_u32 rfl (.tmp 18) (.tmp 24) rfl w.heap.size _ _ M x rfl (by go_simp) hown (by omega) hb.size ?_)
        intro v' w3 hown3 hb3
        obtain ⟨g, cap, R, rfl, hg, hRow, hRl, hcm, hnc⟩ := row_of_own hown3 (by omega)
        have hB3 := hb.trans hb3
        have HPM : Hid ((wrow (M.length + 1) (fun i => (M ++ [x]).getD i 0#32)).Perm (setsOf (L.take (k + 1)))) := Lib.hid (by
          have e := wrow_list (M ++ [x])
          rw [List.length_append, List.length_singleton] at e
          rw [e, HN2.out]; exact HP.out.append_right _)
        have hRow2 : Row w3 g 29 (srow (M.length + 1) (fun i => (M ++ [x]).getD i 0#32) R) := by
          unfold srow
          have e := wrow_list (M ++ [x])
          rw [List.length_append, List.length_singleton] at e
          rw [e]; exact hRow
        have HI := Lib.hid (srtd_of HR.out x).start
        have hRl2 : M.length + 1 + R.length = cap := by rw [← hRl, List.length_append, us_length, List.length_append]; rfl
        clear hown3 hown hRow q0 q1 hbl hb hb3 HN HP hRl
        generalize (fun i => (M ++ [x]).getD i 0#32) = f0 at HPM hRow2 HI
        have hw0 : IntKind.i64.wrap (M.length : Int) = M.length := IntWalk.i64_in _ (by omega)
        go_wp2_with fail
        go_loopw [5] (fun i wr => ∃ (j : Nat) (f : Nat → BitVec 32), j ≤ M.length ∧ i = .int .i64 j ∧ Row wr g 29 (srow (M.length + 1) f R) ∧ Hid (Insd f M.length j) ∧ Hid ((wrow (M.length + 1) f).Perm (setsOf (L.take (k + 1)))) ∧ w3.grownBy wr (some g)) (fun i _ => (intOf i).toNat)
        case atStart => exact ⟨M.length, f0, Nat.le_refl _, by first | rfl | go_num, hRow2, HI, HPM, World.grownBy.refl _ _⟩
        case round =>
          obtain ⟨j, f, hj, rfl, hRj, HJ, HPJ, hgj⟩ := hrel
          have HSTOP := Lib.hid (fun h => HJ.out.stop hj h)
          have hfin : ∀ (f : Nat → BitVec 32) (w5 : World), Hid (Srtd f (M.length + 1)) → Row w5 g 29 (srow (M.length + 1) f R) → (wrow (M.length + 1) f).length = M.length + 1 ∧ risesB (wrow (M.length + 1) f) ∧ w5.ownsRow w.heap.size 29 1 (.slice (some ⟨g, 0, none⟩) (M.length + 1) cap) (M.length + 1) (us (wrow (M.length + 1) f)) := fun f w5 hs hr => by
            refine ⟨by simp [wrow], rises_wrow hs.out, own_of_row hr hg (by simp [wrow]) (by rw [List.length_append, us_length]; simp [wrow]; omega) hcm⟩
          rcases Nat.eq_zero_or_pos j with h0 | h0
          · subst h0
            have HS2 := Lib.hid (HSTOP.out (.inl rfl))
            obtain ⟨n1, n2, n3⟩ := hfin f (wr.drewN 1) HS2 (hRj.drewN 1)
            have hB4 := hB3.trans (grown_to_below hgj hg hB3.size)
            go_wp2_with fail
            go_quiet (fail)
            go_wp2_with fail
            go_roundw
            case rel => exact ⟨k + 1, _, by omega, by go_num, by rw [n1]; omega, Lib.hid n2, HPJ, by rw [n1]; exact own_drewN (hfin f wr HS2 hRj).2.2 _, below_drewN hB4 _⟩
            case measure => simp [intOf]; omega
          · obtain ⟨d, rfl⟩ : ∃ d, j = d + 1 := ⟨j - 1, by omega⟩
            have c1 : World.cell? wr ⟨g, d + 1, none⟩ = some (.int .u32 (uz (f (d + 1)))) := (hRj.cell _).trans (srow_at (by omega))
            have c2 : World.cell? wr ⟨g, d, none⟩ = some (.int .u32 (uz (f d))) := (hRj.cell _).trans (srow_at (by omega))
            have z1 := hRj.frozen (d + 1)
            have z2 := hRj.frozen d
            have b1 : (0 : Int) < (d : Int) + 1 := by omega
            have b2 : (d : Int) + 1 < (M.length : Int) + 1 := by omega
            have b3 : (0 : Int) ≤ d := by omega
            have b4 : (d : Int) < (M.length : Int) + 1 := by omega
            have b5 : (0 : Int) ≤ (d : Int) + 1 := by omega
            have hw : IntKind.i64.wrap (d : Int) = d := IntWalk.i64_in _ (by omega)
            have ht : ((d : Int) + 1).toNat = d + 1 := by omega
            by_cases hlt2 : (f (d + 1)).toNat < (f d).toNat
            · have hz : uz (f (d + 1)) < uz (f d) := (lt_uz _ _).2 hlt2
              have hzd : decide (uz (f (d + 1)) < uz (f d)) = true := by simpa using hz
              have HJ2 := Lib.hid (HJ.out.step h0 hj hlt2)
              have HP2 : Hid ((wrow (M.length + 1) (swp f (d + 1))).Perm (setsOf (L.take (k + 1)))) := Lib.hid ((swp_perm h0 (by omega)).trans HPJ.out)
              clear HSTOP hlt2 hfin
              go_wp2_with fail
              go_quiet (fail)
              go_upto_region 10 with fail
              have hRq := hRj.drewN nq
              have hgq := grown_drewN hgj nq
              replace c1 : (wr.drewN nq).cell? ⟨g, d + 1, none⟩ = some (.int .u32 (uz (f (d + 1)))) := c1
              replace c2 : (wr.drewN nq).cell? ⟨g, d, none⟩ = some (.int .u32 (uz (f d))) := c2
              replace z1 : (wr.drewN nq).frozen? ⟨g, d + 1, none⟩ = false := z1
              replace z2 : (wr.drewN nq).frozen? ⟨g, d, none⟩ = false := z2
              have hg1 : g < (wr.drewN nq).heap.size := hRq.lt
              clear hRj hgj
              generalize wr.drewN nq = W2 at hRq hgq c1 c2 z1 z2 hg1 ⊢
              have hR3 := hRq.set_ d (.int .u32 (uz (f (d + 1))))
              rw [srow_set (by omega)] at hR3
              have c3 : (W2.setCell ⟨g, d, none⟩ (.int .u32 (uz (f (d + 1))))).cell? ⟨g, d + 1, none⟩ = some (.int .u32 (uz (updS f d (f (d + 1)) (d + 1)))) := (hR3.cell _).trans (srow_at (by omega))
              have z3 := hR3.frozen (d + 1)
              have hg3 := hR3.lt
              have hR4 := hR3.set_ (d + 1) (.int .u32 (uz (f d)))
              rw [srow_set (by omega)] at hR4
              have HQ : Hid (updS (updS f d (f (d + 1))) (d + 1) (f d) = swp f (d + 1)) := Lib.hid (swp_upd2 f d)
              clear hRq hR3 hz hzd
              go_region_law (fail)
              all_goals
                go_wp2_with fail
                go_roundw
                case rel => exact ⟨d, swp f (d + 1), by omega, by go_num, by rw [← HQ.out]; exact hR4, HJ2, HP2, by first | exact grown_drewN (grown_set (grown_set hgq _ _) _ _) 1 | exact grown_set (grown_set hgq _ _) _ _⟩
                case measure => first | (simp [intOf]; done) | (simp [intOf]; omega)
            · have hz : ¬ uz (f (d + 1)) < uz (f d) := fun h => hlt2 ((lt_uz _ _).1 h)
              have hzd : decide (uz (f (d + 1)) < uz (f d)) = false := by simpa using hz
              have HS2 := Lib.hid (HSTOP.out (.inr hlt2))
              have hB4 := hB3.trans (grown_to_below hgj hg hB3.size)
              obtain ⟨n1, n2, n3⟩ := hfin f wr HS2 hRj
              clear HSTOP hlt2 hfin
              go_wp2_with fail
              go_quiet (fail)
              go_wp2_with fail
              go_roundw
              case rel => exact ⟨k + 1, _, by omega, by go_num, by rw [n1]; omega, Lib.hid n2, HPJ, by rw [n1]; exact own_drewN n3 _, below_drewN hB4 _⟩
              case measure => simp [intOf]; omega
    · obtain rfl : k = L.length := by omega
      have HP2 : Hid (M.Perm (setsOf L)) := Lib.hid (by have := HP.out; rwa [List.take_length] at this)
      go_wp2_with fail
      go_ret
      exact ⟨_, M, rfl, hown, HR, HP2, hb⟩
end Go.Proofs.YtbgbjodehbcgiaaDoor

/- The contracts of osierref15.Rest and osierref16.Build. -/
namespace Go.Proofs.YtbgbjodehbcgiaaDoor
open Go.RowKit

attribute [local go_sem ↓] uz_and uz_or uz_andNot uz_and_one uz_shr uz_shl_one uz_shl uz_sub uz_sub_one uz_add uz_beq_zero uz_bne_zero uz_beq uz_bne uz_beq_one

theorem rises_uniq : ∀ {Z Y : List (BitVec 32)}, risesB Z → risesB Y → Z.Perm Y → Z = Y
  | [], Y, _, _, h => (List.nil_perm.1 h).symm
  | a :: Z, [], _, _, h => by cases List.perm_nil.1 h
  | a :: Z, b :: Y, hz, hy, h => by
    have hz' := List.pairwise_cons.1 hz
    have hy' := List.pairwise_cons.1 hy
    have hab : a = b := by
      apply BitVec.eq_of_toNat_eq
      have h1 : b.toNat ≤ a.toNat := by
        rcases List.mem_cons.1 (h.mem_iff.1 List.mem_cons_self) with e | e
        · rw [e]; exact Nat.le_refl _
        · exact hy'.1 a e
      have h2 : a.toNat ≤ b.toNat := by
        rcases List.mem_cons.1 (h.mem_iff.2 List.mem_cons_self) with e | e
        · rw [e]; exact Nat.le_refl _
        · exact hz'.1 b e
      omega
    subst hab
    rw [rises_uniq hz'.2 hy'.2 h.cons_inv]
theorem restIs_uniq {V : Int} {E : List (BitVec 32)} {keep : BitVec 32} {Z Y : List (BitVec 32)} {a b : Int} (h : RestIs V E keep Z a) (k : RestIs V E keep Y b) : Z = Y ∧ a = b := by
  rcases h with ⟨a1, a2, a3⟩ | ⟨a1, a2, a3, a4⟩ <;> rcases k with ⟨b1, b2, b3⟩ | ⟨b1, b2, b3, b4⟩
  · exact ⟨a2.trans b2.symm, a3.trans b3.symm⟩
  · rw [a1] at b1; cases b1
  · rw [a1] at b1; cases b1
  · exact ⟨rises_uniq a3 b3 (a4.trans b4.symm), a2.trans b2.symm⟩
theorem restIs_len {V : Int} {E : List (BitVec 32)} {keep : BitVec 32} {Z : List (BitVec 32)} {a : Int} (h : RestIs V E keep Z a) : Z.length ≤ 7 := by
  rcases h with ⟨_, rfl, _⟩ | ⟨hv, _, _, hp⟩
  · exact Nat.zero_le _
  · rw [hp.length_eq]
    have h1 := (runE_rch E keep).len
    rw [begin_len] at h1
    exact Nat.le_trans (setsOf_len _) (Nat.le_trans h1 (validB_of hv).2.2.1)

set_option maxHeartbeats 4000000 in
set_option maxRecDepth 100000 in
theorem r15rest_any (V : Int) (A : Option Addr) (E : List (BitVec 32)) (c : Nat) (keep : BitVec 32) (w : World) (hl : E.length ≤ 35184372087808) (hE : Rd w w.heap.size A (us E)) :
    Calls Tryd.prog 67 #[.agg #[.int .i64 V, .slice A E.length c], .int .u32 (uz keep)] w fun e w' => ∃ v Z code, e = .returned (.tuple #[v, .int .i64 code]) ∧ w'.ownsRow w.heap.size 29 1 v Z.length (us Z) ∧ Hid (RestIs V E keep Z code) ∧ Below w.heap.size w w' := by
  go_enter Tryd.func67, Tryd.ntmps67
  go_wp2_with fail
  have hb0 := below_alloc w (.cells #[.int .i64 V, .slice A E.length c] 28)
  generalize w.alloc _ = W0 at hb0 ⊢
  refine (r15run_any V A E c keep W0 hl (hE.later hb0)).mono ?_
  rintro e w1 ⟨v1, v2, ss, L, code, rfl, hown1, hown2, hRI, hb1⟩
  have hB1 := bthen hb0 hb1
  have h7 := runIs_len hRI.out
  obtain ⟨A1, c1, rfl, _, _, _, _⟩ := Rd.of_ownS hown1
  obtain ⟨A2, c2, rfl, _, _, hS, _⟩ := Rd.of_ownS hown2
  clear hown1 hown2 hb0 hb1 hE
  go_wp2_with fail
  refine (r15sets_any A2 L c2 w1 h7 hS).mono ?_
  rintro e w2 ⟨v, Z, rfl, hown, HZ, HP, hb2⟩
  have HR := Lib.hid (restIs_of hRI.out HZ.out HP.out)
  go_wp2_with fail
  go_ret2
  exact ⟨_, Z, code, rfl, own_less hown hB1.size, HR, bthen hB1 hb2⟩

theorem sets_pos {L : Lt} {keep : BitVec 32} {Z : List (BitVec 32)} (hs : Srt L) (st : Stuck L 0#32) (hp : Z.Perm (setsOf L)) (_ : keep = keep) : 0 < Z.length ↔ 1 < L.length := by
  have h1 := left_empty hs st
  rw [← setsOf_nil] at h1
  have h2 := hp.length_eq
  constructor
  · intro h
    rcases Nat.lt_or_ge 1 L.length with c | c
    · exact c
    · rw [h1.1 c, List.length_nil] at h2; omega
  · intro h
    rcases Nat.eq_zero_or_pos Z.length with c | c
    · rw [c] at h2
      have := h1.2 (List.eq_nil_of_length_eq_zero h2.symm)
      omega
    · exact c
def parTo (_n : Nat) (ss : List Stp) (k : Nat) : Nat → Int := fun i => if i < k then parOf ss i else 0
theorem updI_updI (f : Nat → Int) (k : Nat) (x y : Int) : updI (updI f k x) k y = updI f k y := by
  funext i; unfold updI; split <;> rfl
theorem parTo_next (n : Nat) (ss : List Stp) (k : Nat) : updI (parTo n ss k) k (parOf ss k) = parTo n ss (k + 1) := by
  funext i
  unfold updI parTo
  by_cases e : i = k
  · subst e; simp
  · rw [if_neg e]
    by_cases c : i < k
    · rw [if_pos c, if_pos (by omega)]
    · rw [if_neg c, if_neg (by omega)]

end Go.Proofs.YtbgbjodehbcgiaaDoor
