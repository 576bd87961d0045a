/- The maximal edges: what hyper.Maximal and the reference's Maximal answer. -/
import Derived.Test.YtaongngoacbodaaDoorGr3
import Derived.Deep.DeepCutAuto
import Derived.Deep.LoopGhost
import Derived.Deep.CutBlock
import Derived.Deep.CutRange
import Derived.WalkMore
namespace Go.Proofs.YtaongngoacbodaaDoor
open Go.RowKit

attribute [local go_sem ↓] uz_and uz_or uz_andNot uz_and_one uz_shr uz_shl_one uz_shl uz_sub uz_sub_one uz_add uz_beq_zero uz_bne_zero uz_beq uz_bne uz_beq_one

/-- The i-th edge. -/
def ed (E : List (BitVec 32)) (i : Nat) : BitVec 32 := E.getD i 0#32
theorem ed_eq (E : List (BitVec 32)) (i : Nat) (h : i < E.length) : E[i] = ed E i := by simp [ed, h]
theorem ed_mem (E : List (BitVec 32)) (i : Nat) (h : i < E.length) : ed E i ∈ E := by rw [← ed_eq E i h]; exact List.getElem_mem _
theorem mem_ed {E : List (BitVec 32)} {x : BitVec 32} (h : x ∈ E) : ∃ i, i < E.length ∧ ed E i = x := by
  obtain ⟨i, hi, rfl⟩ := List.getElem_of_mem h
  exact ⟨i, hi, (ed_eq E i hi).symm⟩
theorem Rd.e_at {w : World} {B : Nat} {A : Option Addr} {E : List (BitVec 32)} (h : Rd w B A (us E)) {k : Nat} (hk : k < E.length) :
    ∃ ad, A = some ad ∧ ad.block < B ∧ w.cell? (ad.add k) = some (.int .u32 (uz (ed E k))) := by
  rw [← ed_eq E k hk]; exact h.u_at hk
theorem nat_bne (k m : Nat) : ((k : Int) != (m : Int)) = (k != m) := by
  rw [Bool.eq_iff_iff, bne_iff_ne, bne_iff_ne]; omega
theorem range_snoc_any (p : Nat → Bool) (k : Nat) : (List.range (k + 1)).any p = ((List.range k).any p || p k) := by
  rw [List.range_succ]; simp

/-- The edge j keeps i from being maximal. -/
def badM (E : List (BitVec 32)) (i j : Nat) : Bool := (i != j) && (subB (ed E i) (ed E j) && (ed E i != ed E j || decide (j < i)))
def badR (E : List (BitVec 32)) (i j : Nat) : Bool := if ed E i = ed E j then decide (j < i) else subB (ed E i) (ed E j)
theorem subB_refl (x : BitVec 32) : subB x x = true := by simp [subB]
theorem badR_eq (E : List (BitVec 32)) (i j : Nat) : badR E i j = badM E i j := by
  unfold badR badM
  by_cases h : ed E i = ed E j
  · rw [if_pos h, h, subB_refl]
    by_cases h2 : i = j
    · subst h2; simp
    · simp [h2]
  · rw [if_neg h]
    by_cases h2 : i = j
    · subst h2; exact absurd rfl h
    · have e1 : (i != j) = true := by rw [bne_iff_ne]; exact h2
      have e2 : (ed E i != ed E j) = true := by rw [bne_iff_ne]; exact h
      rw [e1, e2]; simp
def topM (E : List (BitVec 32)) (i : Nat) : Bool := !(List.range E.length).any (badM E i)
def maxTo (E : List (BitVec 32)) (k : Nat) : List Nat := (List.range k).filter (topM E)
theorem maxTo_t {E : List (BitVec 32)} {k : Nat} (h : topM E k = true) : maxTo E (k + 1) = maxTo E k ++ [k] := by
  simp [maxTo, List.range_succ, List.filter_append, h]
theorem maxTo_f {E : List (BitVec 32)} {k : Nat} (h : topM E k = false) : maxTo E (k + 1) = maxTo E k := by
  simp [maxTo, List.range_succ, List.filter_append, h]
theorem topM_false {E : List (BitVec 32)} {k m : Nat} (hm : m < E.length) (h : badM E k m = true) : topM E k = false := by
  have : (List.range E.length).any (badM E k) = true := List.any_eq_true.2 ⟨m, List.mem_range.2 hm, h⟩
  simp [topM, this]
theorem top_step {E : List (BitVec 32)} {k m : Nat} {b t : Bool} (h : b = !(List.range m).any (badM E k)) (hb : badM E k m = t) : (b && !t) = !(List.range (m + 1)).any (badM E k) := by
  rw [range_snoc_any, hb, h]; simp
theorem maxTo_len (E : List (BitVec 32)) (k : Nat) : (maxTo E k).length ≤ k := by
  have := List.length_filter_le (topM E) (List.range k)
  simpa [maxTo] using this
/-- What Maximal answers. -/
def MaxIs (V : Int) (E : List (BitVec 32)) (Z : List Nat) (code : Int) : Prop :=
  (validB V E = false ∧ Z = [] ∧ code = 140) ∨ (validB V E = true ∧ Z = maxTo E E.length ∧ code = 0)
theorem maxIs_uniq {V : Int} {E : List (BitVec 32)} {Z Y : List Nat} {a b : Int} (h : MaxIs V E Z a) (k : MaxIs V E Y b) : Z = Y ∧ a = b := by
  rcases h with ⟨h1, rfl, rfl⟩ | ⟨h1, rfl, rfl⟩ <;> rcases k with ⟨k1, rfl, rfl⟩ | ⟨k1, rfl, rfl⟩ <;> simp_all

set_option maxRecDepth 100000 in
set_option maxHeartbeats 2000000 in
theorem maximal_any (V : Int) (A : Option Addr) (E : List (BitVec 32)) (c : Nat) (w : World) (hl : E.length ≤ 35184372087808) (hE : Rd w w.heap.size A (us E)) :
    Calls Tryd.prog 20 #[.agg #[.int .i64 V, .slice A E.length c]] w fun e w' =>
      ∃ (v : Value) (Z : List Nat) (code : Int), e = .returned (.tuple #[v, .int .i64 code]) ∧ w'.ownsRow w.heap.size 3 1 v Z.length (is (Z.map Int.ofNat)) ∧ Hid (MaxIs V E Z code) ∧ Below w.heap.size w w' := by
  go_enter Tryd.func20, Tryd.ntmps20
  go_wp2_with fail
  go_step3
  go_wp2_with fail
  have hb0 := below_alloc w (.cells #[.int .i64 V, .slice A E.length c] 24)
  refine (valid_any V A E c _ hl (hE.later hb0)).mono ?_
  rintro e w1 ⟨rfl, hb⟩
  obtain ⟨hc, hf⟩ := bcell hb
  have hb1 := bthen hb0 hb
  have hg1 : w1.cell? ⟨w.heap.size, 1, none⟩ = some (.slice A E.length c) := by rw [hc _ _ (by simp)]; simp [World.cell?_alloc_new]
  clear hc hf hb0 hb
  cases hv : validB V E
  · go_wp2
    rw [Exit.noGoto_ret]
    go_ret2
    exact ⟨_, [], _, rfl, World.ownsRow_nil _ _ _ _, .inl ⟨hv, rfl, rfl⟩, hb1⟩
  · have hE1 := hE.later hb1
    have h7 : E.length ≤ 7 := (validB_of hv).2.2.1
    have HV := Lib.hid hv
    clear hv
    go_wp2_with fail
    go_step3
    go_wp2_with fail
    go_loopg [4, 15] E.length (fun gk v i wr => ∃ (k : Nat) (Z : List Nat), k ≤ E.length ∧ gk = E.length - k ∧ i = .int .i64 k ∧ Hid (Z = maxTo E k) ∧ Z.length ≤ k ∧ wr.ownsRow w1.heap.size 3 1 v Z.length (is (Z.map Int.ofNat)) ∧ Below w1.heap.size w1 wr)
    case atStart => exact ⟨0, [], Nat.zero_le _, rfl, rfl, rfl, Nat.le_refl _, World.ownsRow_nil _ _ _ _, Below.refl _ _⟩
    case round =>
      obtain ⟨k, Z, hk, rfl, rfl, hZ, hZl, hown, hbr⟩ := hrel
      obtain ⟨wo, hwo⟩ : ∃ wo : World, wo = wr := ⟨_, rfl⟩
      subst hwo
      by_cases hlt : k < E.length
      · have hEr := hE1.later hbr
        obtain ⟨ad, hA, _, hc⟩ := hEr.e_at hlt
        have hg1r := Tab_cell hbr hg1
        subst hA
        obtain ⟨x, hx⟩ : ∃ x, x = ed E k := ⟨_, rfl⟩
        rw [← hx] at hc
        have HX := Lib.hid hx
        clear hx
        go_wp2_with fail
        go_loopg [23] E.length (fun gj j wr => ∃ m : Nat, m ≤ E.length ∧ gj = E.length - m ∧ j = .int .i64 m ∧ Hid ((List.range m).any (badM E k) = false) ∧ wo = wr)
        case atStart => exact ⟨0, Nat.zero_le _, rfl, rfl, rfl, rfl⟩
        case round =>
          obtain ⟨m, hm, rfl, rfl, hno, rfl⟩ := hrel
          by_cases hlt2 : m < E.length
          · obtain ⟨ad2, hA2, _, hc2⟩ := hEr.e_at hlt2
            obtain rfl : ad = ad2 := by injection hA2
            have hbd : badM E k m = (((k : Int) != (m : Int)) && (ed E k &&& ~~~ed E m == 0#32 && (ed E k != ed E m || decide (m < k)))) := by
              rw [nat_bne]; rfl
            rw [← HX.out] at hbd
            have HBD := Lib.hid hbd
            clear hbd
            generalize ed E m = y at hc2 HBD
            go_upto_region 10 with fail
            go_cut [23, 46] from 23 to 47 (fun j x wx => j = .int .i64 m ∧ x = .bool (badM E k m) ∧ wo = wx)
            case first =>
              cases h1 : ((k : Int) != (m : Int))
              · go_wp2_with fail
                go_meet
                exact ⟨rfl, congrArg Value.bool (by rw [HBD.out, h1]; rfl), rfl⟩
              · cases h2 : (x &&& ~~~y == 0#32)
                · go_wp2_with fail
                  go_meet
                  exact ⟨rfl, congrArg Value.bool (by rw [HBD.out, h1, h2]; rfl), rfl⟩
                · cases h3 : (x != y)
                  · by_cases h4 : m < k
                    all_goals
                      go_wp2_with fail
                      go_meet
                      exact ⟨rfl, congrArg Value.bool (by rw [HBD.out, h1, h2, h3]; simp [h4]), rfl⟩
                  · go_wp2_with fail
                    go_meet
                    exact ⟨rfl, congrArg Value.bool (by rw [HBD.out, h1, h2, h3]; rfl), rfl⟩
            case rest =>
              obtain ⟨rfl, rfl, rfl⟩ := hcut
              cases hb : badM E k m
              · go_wp2_with fail
                go_roundg (E.length - (m + 1))
                case measure => omega
                case rel => exact ⟨m + 1, by omega, rfl, by go_num, by show _ = _; rw [range_snoc_any, hno.out, hb]; rfl, rfl⟩
              · have HT := Lib.hid (topM_false hlt2 hb)
                go_wp2_with fail
                go_roundg (E.length - (k + 1))
                case measure => omega
                case rel => exact ⟨k + 1, Z, by omega, rfl, by go_num, by show _ = _; rw [maxTo_f HT.out, hZ.out], by omega, hown, hbr⟩
          · have HT : Hid (topM E k = true) := by
              show _ = _
              have hm' : m = E.length := by omega
              have := hno.out
              rw [hm'] at this
              simp [topM, this]
            go_wp2_with (at_builtin; refine app_int rfl (.tmp 48) (.tmp 50) rfl w1.heap.size _ _ (Z.map Int.ofNat) k rfl rfl hown (by omega) hbr.size ?_; intro v2 w2 hown2 hb2)
            go_roundg (E.length - (k + 1))
            case measure => omega
            case rel =>
              refine ⟨k + 1, Z ++ [k], by omega, rfl, by go_num, ?_, by simp; omega, ?_, hbr.trans hb2⟩
              · show _ = _; rw [maxTo_t HT.out, hZ.out]
              · rw [List.length_append, List.map_append]; exact hown2
      · have HE : Hid (Z = maxTo E E.length) := by
          have : k = E.length := by omega
          rw [← this]; exact hZ
        go_wp2
        rw [Exit.noGoto_ret]
        go_ret2
        exact ⟨_, Z, _, rfl, own_less hown hb1.size, .inr ⟨HV.out, HE.out, rfl⟩, bthen hb1 hbr⟩

/-- A call that leaves the world as it is, in a world of the class. -/
theorem pure_class {f : FuncId} {args : Array Value} {v : Value} (h : ∀ w, Calls Tryd.prog f args w fun e w' => e = .returned v ∧ w = w') (w1 : World) (d : Nat) (os : Array Obj) :
    Calls Tryd.prog f args (Sort.grow (redrawn w1 d) os) fun e w'' => e = .returned v ∧ ∃ p : Regrown, w'' = Sort.grow (redrawn w1 p.d) p.os :=
  Calls.regrown_of ((h _).mono fun e w' ⟨he, hw⟩ => ⟨he, by rw [← hw]; exact Below.refl _ _⟩)

theorem pure_quiet {f : FuncId} {args : Array Value} {v : Value} (h : ∀ w, Calls Tryd.prog f args w fun e w' => e = .returned v ∧ w = w') {w : World} {n : Nat} :
    Calls Tryd.prog f args (w.drewN n) fun e w'' => e = .returned v ∧ ∃ m, w'' = w.drewN m :=
  (h _).mono fun _ _ ⟨he, hm⟩ => ⟨he, n, hm.symm⟩

set_option maxRecDepth 100000 in
set_option maxHeartbeats 2000000 in
theorem r14maximal_any (V : Int) (A : Option Addr) (E : List (BitVec 32)) (c : Nat) (w : World) (hl : E.length ≤ 35184372087808) (hE : Rd w w.heap.size A (us E)) :
    Calls Tryd.prog 27 #[.agg #[.int .i64 V, .slice A E.length c]] w fun e w' =>
      ∃ (v : Value) (Z : List Nat) (code : Int), e = .returned (.tuple #[v, .int .i64 code]) ∧ w'.ownsRow w.heap.size 3 1 v Z.length (is (Z.map Int.ofNat)) ∧ Hid (MaxIs V E Z code) ∧ Below w.heap.size w w' := by
  go_enter Tryd.func27, Tryd.ntmps27
  go_wp2_with fail
  have hb0 := below_alloc w (.cells #[.int .i64 V, .slice A E.length c] 24)
  refine (r14valid_any V A E c _ hl (hE.later hb0)).mono ?_
  rintro e w1 ⟨rfl, hb⟩
  obtain ⟨hc, hf⟩ := bcell hb
  have hb1 := bthen hb0 hb
  have hg1 : w1.cell? ⟨w.heap.size, 1, none⟩ = some (.slice A E.length c) := by rw [hc _ _ (by simp)]; simp [World.cell?_alloc_new]
  clear hc hf hb0 hb
  cases hv : validB V E
  · go_wp2
    go_ret2
    exact ⟨_, [], _, rfl, World.ownsRow_nil _ _ _ _, .inl ⟨hv, rfl, rfl⟩, hb1⟩
  · have hE1 := hE.later hb1
    have h7 : E.length ≤ 7 := (validB_of hv).2.2.1
    have HV := Lib.hid hv
    clear hv
    go_wp2_with fail
    go_loopg [4, 5] E.length (fun gk v i wr => ∃ (k : Nat) (Z : List Nat), k ≤ E.length ∧ gk = E.length - k ∧ i = .int .i64 k ∧ Hid (Z = maxTo E k) ∧ Z.length ≤ k ∧ wr.ownsRow w1.heap.size 3 1 v Z.length (is (Z.map Int.ofNat)) ∧ Below w1.heap.size w1 wr)
    case atStart => exact ⟨0, [], Nat.zero_le _, rfl, rfl, rfl, Nat.le_refl _, World.ownsRow_nil _ _ _ _, Below.refl _ _⟩
    case round =>
      obtain ⟨k, Z, hk, rfl, rfl, hZ, hZl, hown, hbr⟩ := hrel
      obtain ⟨wo, hwo⟩ : ∃ wo : World, wo = wr := ⟨_, rfl⟩
      subst hwo
      have hg1r := Tab_cell hbr hg1
      by_cases hlt : k < E.length
      · go_wp2_with fail
        go_loopg [6, 7] E.length (fun gj tv j wi => ∃ (m : Nat) (b : Bool), m ≤ E.length ∧ gj = E.length - m ∧ j = .int .i64 m ∧ tv = .bool b ∧ Hid (b = !(List.range m).any (badM E k)) ∧ Below wo.heap.size wo wi)
        case atStart => exact ⟨0, true, Nat.zero_le _, rfl, rfl, rfl, rfl, Below.refl _ _⟩
        case round =>
          obtain ⟨m, b, hm, rfl, rfl, rfl, hbv, hbi⟩ := hrel
          have hg1i := Tab_cell hbi hg1r
          have hbr2 := bthen hbr hbi
          have hown2 := own_below hown hbi
          by_cases hlt2 : m < E.length
          · have hEr := hE1.later hbr2
            obtain ⟨ad, hA, _, hc⟩ := hEr.e_at hlt
            obtain ⟨ad2, hA2, _, hc2⟩ := hEr.e_at hlt2
            obtain rfl : ad = ad2 := by rw [hA] at hA2; injection hA2
            subst hA
            have b1 : (0 : Int) ≤ k := by omega
            have b2 : (k : Int) < E.length := by omega
            have b3 : (0 : Int) ≤ m := by omega
            have b4 : (m : Int) < E.length := by omega
            have hbd := badR_eq E k m
            unfold badR at hbd
            generalize ed E k = x at hc hbd
            generalize ed E m = y at hc2 hbd
            by_cases hxy : x = y
            · have hne' : (x == y) = true := by simpa using hxy
              rw [if_pos hxy] at hbd
              clear hxy hA2
              by_cases hmk : m < k
              · have HB : Hid (badM E k m = true) := by show _ = _; rw [← hbd]; simpa using hmk
                clear hbd
                cases b
                all_goals
                  go_wp2_with fail
                  go_quiet (fail)
                  go_wp2_with fail
                  go_roundg (E.length - (m + 1))
                  case measure => omega
                  case rel => exact ⟨m + 1, _, by omega, rfl, by go_num, by first | rfl | exact congrArg Value.bool (show _ = (true && !true) by simpa using hmk), top_step hbv.out HB.out, below_drewN hbi _⟩
              · have HB : Hid (badM E k m = false) := by show _ = _; rw [← hbd]; simpa using hmk
                clear hbd
                cases b
                all_goals
                  go_wp2_with fail
                  go_quiet (fail)
                  go_wp2_with fail
                  go_roundg (E.length - (m + 1))
                  case measure => omega
                  case rel => exact ⟨m + 1, _, by omega, rfl, by go_num, by first | rfl | exact congrArg Value.bool (show _ = (true && !false) by simpa using hmk), top_step hbv.out HB.out, below_drewN hbi _⟩
            · have hne' : (x == y) = false := by simpa using hxy
              rw [if_neg hxy] at hbd
              have HB := Lib.hid hbd.symm
              clear hxy hbd hA2
              cases b
              all_goals
                go_wp2_with fail
                go_quiet (fail)
                go_wp2_with fail
                obtain ⟨wq, hwq⟩ : ∃ wq : World, wq = wr.drewN nq := ⟨_, rfl⟩
                rw [← hwq]
                have hbq : Below wr.heap.size wr wq := by rw [hwq]; exact below_drewN (Below.refl _ _) _
                clear hwq
                have k1 := Tab_cell hbq hg1i
                have k2 := Tab_cell hbq hc
                have k3 := Tab_cell hbq hc2
                go_quiet (exact pure_quiet (within_any x y))
                have hb4 : Below wr.heap.size wr (wq.drewN nq) := below_drewN hbq _
                go_wp2_with fail
                go_roundg (E.length - (m + 1))
                case measure => omega
                case rel => exact ⟨m + 1, _, by omega, rfl, by go_num, rfl, top_step hbv.out HB.out, bthen hbi hb4⟩
          · have hm' : m = E.length := by omega
            have HB : Hid (b = topM E k) := by show _ = _; rw [hbv.out, hm']; rfl
            clear hbv
            cases b
            · have HT : Hid (topM E k = false) := HB.out.symm
              go_wp2_with fail
              go_roundg (E.length - (k + 1))
              case measure => omega
              case rel => exact ⟨k + 1, Z, by omega, rfl, by go_num, by show _ = _; rw [maxTo_f HT.out, hZ.out], by omega, hown2, hbr2⟩
            · have HT : Hid (topM E k = true) := HB.out.symm
              go_wp2_with (at_builtin; refine app_int rfl (.tmp 58) (.tmp 60) rfl w1.heap.size _ _ (Z.map Int.ofNat) k rfl rfl hown2 (by omega) hbr2.size ?_; intro v2 w2 hown3 hb3)
              go_roundg (E.length - (k + 1))
              case measure => omega
              case rel =>
                refine ⟨k + 1, Z ++ [k], by omega, rfl, by go_num, ?_, by simp; omega, ?_, hbr2.trans hb3⟩
                · show _ = _; rw [maxTo_t HT.out, hZ.out]
                · rw [List.length_append, List.map_append]; exact hown3
      · have HE : Hid (Z = maxTo E E.length) := by
          have : k = E.length := by omega
          rw [← this]; exact hZ
        go_wp2
        go_ret2
        exact ⟨_, Z, _, rfl, own_less hown hb1.size, .inr ⟨HV.out, HE.out, rfl⟩, bthen hb1 hbr⟩
end Go.Proofs.YtaongngoacbodaaDoor
