/- The contract of hyper.Path. -/
import Derived.Test.YtaongngoacbodaaDoorPathLaw3
import Derived.Test.YtaongngoacbodaaDoorTz
import Derived.Deep.DeepCutAuto
import Derived.Deep.LoopGhost
import Derived.Deep.CutBlock
import Derived.Deep.CutRange
namespace Go.Proofs.YtaongngoacbodaaDoor
open Go.RowKit

attribute [local go_sem ↓] uz_and uz_or uz_andNot uz_and_one uz_shr uz_shl_one uz_shl uz_sub uz_sub_one uz_add uz_beq_zero uz_bne_zero uz_beq uz_bne uz_beq_one

theorem path_invalid (V : Int) (s t : Int) (inner : BitVec 32) (A : Option Addr) (E : List (BitVec 32)) (c : Nat) (w : World) (hl : E.length ≤ 35184372087808) (hE : Rd w w.heap.size A (us E)) (hv : validB V E = false) :
    Calls Tryd.prog 15 #[.agg #[.int .i64 V, .slice A E.length c], .int .i64 s, .int .i64 t, .int .u32 (uz inner)] w fun e w' => e = .returned (.tuple #[.slice none 0 0, .int .i64 140]) ∧ Below w.heap.size w w' := by
  go_enter Tryd.func15, Tryd.ntmps15
  go_wp2_with fail
  have hb0 := below_alloc w (.cells #[.int .i64 V, .slice A E.length c] 24)
  refine (valid_any V A E c _ hl (hE.later hb0)).mono ?_
  rintro e w1 ⟨rfl, hb⟩
  rw [hv]
  go_wp2
  go_ret2
  exact ⟨rfl, bthen hb0 hb⟩
set_option maxRecDepth 100000 in
theorem path_out (V : Int) (s t : Int) (inner : BitVec 32) (A : Option Addr) (E : List (BitVec 32)) (c : Nat) (w : World) (hl : E.length ≤ 35184372087808) (hE : Rd w w.heap.size A (us E)) (hv : validB V E = true) (ho : s < 0 ∨ t < 0 ∨ V ≤ s ∨ V ≤ t) :
    Calls Tryd.prog 15 #[.agg #[.int .i64 V, .slice A E.length c], .int .i64 s, .int .i64 t, .int .u32 (uz inner)] w fun e w' => e = .returned (.tuple #[.slice none 0 0, .int .i64 141]) ∧ Below w.heap.size w w' := by
  go_enter Tryd.func15, Tryd.ntmps15
  go_wp2_with fail
  have hb0 := below_alloc w (.cells #[.int .i64 V, .slice A E.length c] 24)
  refine (valid_any V A E c _ hl (hE.later hb0)).mono ?_
  rintro e w1 ⟨rfl, hb⟩
  rw [hv]
  obtain ⟨hc, hf⟩ := bcell hb
  go_upto_region 3 with fail
  go_cut [26] (fun x wc => x = .bool true ∧ w1 = wc)
  case first =>
    go_wp2_with fail
    all_goals
      go_meet
      refine ⟨congrArg Value.bool ?_, rfl⟩
      first | rfl | (simp; done) | (simp; omega)
  case rest =>
    obtain ⟨rfl, rfl⟩ := hcut
    go_wp2
    go_ret2
    exact ⟨rfl, bthen hb0 hb⟩
set_option maxRecDepth 100000 in
theorem path_same (V : Int) (s : Int) (inner : BitVec 32) (A : Option Addr) (E : List (BitVec 32)) (c : Nat) (w : World) (hl : E.length ≤ 35184372087808) (hE : Rd w w.heap.size A (us E)) (hv : validB V E = true) (h0 : 0 ≤ s) (h1 : s < V) :
    Calls Tryd.prog 15 #[.agg #[.int .i64 V, .slice A E.length c], .int .i64 s, .int .i64 s, .int .u32 (uz inner)] w fun e w' => ∃ g, e = .returned (.tuple #[.slice (some ⟨g, 0, none⟩) 1 1, .int .i64 0]) ∧ w.heap.size ≤ g ∧ Row w' g 3 (is [s]) ∧ Below w.heap.size w w' := by
  go_enter Tryd.func15, Tryd.ntmps15
  go_wp2_with fail
  have hb0 := below_alloc w (.cells #[.int .i64 V, .slice A E.length c] 24)
  refine (valid_any V A E c _ hl (hE.later hb0)).mono ?_
  rintro e w1 ⟨rfl, hb⟩
  rw [hv]
  obtain ⟨hc, hf⟩ := bcell hb
  have hb1 := bthen hb0 hb
  go_upto_region 3 with fail
  go_cut [26] (fun x wc => x = .bool false ∧ w1 = wc)
  case first =>
    go_wp2_with fail
    all_goals
      go_meet
      refine ⟨congrArg Value.bool ?_, rfl⟩
      first | rfl | (simp; done) | (simp; omega)
  case rest =>
    obtain ⟨rfl, rfl⟩ := hcut
    go_wp2
    go_ret2
    exact ⟨_, rfl, hb1.size, Row.new _ _ _, hb1.alloc hb1.size _⟩
/-- In a world of the class: the near vertices. -/
theorem near_class {w w1 : World} {V v : Int} {A : Option Addr} {E : List (BitVec 32)} {c : Nat} (h0 : 0 ≤ v) (hl : E.length ≤ 35184372087808) (hE : Rd w w.heap.size A (us E)) (hb : Below w.heap.size w w1) (d : Nat) (os : Array Obj) :
    Calls Tryd.prog 37 #[.agg #[.int .i64 V, .slice A E.length c], .int .i64 v] (Sort.grow (redrawn w1 d) os) fun e w'' => e = .returned (.int .u32 (uz (nearS E v))) ∧ ∃ p : Regrown, w'' = Sort.grow (redrawn w1 p.d) p.os :=
  Calls.regrown_of (near_any V v A E c _ h0 hl (hE.later (bthen hb (below_regrown w1 d os))))
theorem tz_class {w w1 : World} (x : BitVec 32) (hT : Tab w) (hb : Below w.heap.size w w1) (d : Nat) (os : Array Obj) :
    Calls Tryd.prog 38 #[.int .u32 (uz x)] (Sort.grow (redrawn w1 d) os) fun e w'' => e = .returned (.int .i64 (ctz x)) ∧ ∃ p : Regrown, w'' = Sort.grow (redrawn w1 p.d) p.os :=
  Calls.regrown_of ((tz_any x _ (hT.later (bthen hb (below_regrown w1 d os)))).mono fun e w' ⟨he, hw⟩ => ⟨he, by rw [← hw]; exact Below.refl _ _⟩)
theorem orAll_map_snoc (E : List (BitVec 32)) (pre : List Nat) (x : Nat) : orAll ((pre ++ [x]).map fun (v : Nat) => nearS E (v : Int)) = orAll (pre.map fun (v : Nat) => nearS E (v : Int)) ||| nearS E (x : Int) := by
  rw [List.map_append, List.map_singleton, orAll_snoc]
theorem below_skip {w w1 : World} {g : Nat} (hb : Below w.heap.size w w1) (hg : g < w.heap.size) : g < w1.heap.size := Nat.lt_of_lt_of_le hg hb.size

set_option maxRecDepth 100000 in
set_option maxHeartbeats 4000000 in
theorem path_main (V : Int) (s t : Nat) (inner : BitVec 32) (A : Option Addr) (E : List (BitVec 32)) (c : Nat) (w : World) (hl : E.length ≤ 35184372087808) (hE : Rd w w.heap.size A (us E)) (hT : Tab w) (hv : validB V E = true)
   (hs1 : (s : Int) < V) (ht1 : (t : Int) < V) (hne : ((s : Int) == (t : Int)) = false) :
    Calls Tryd.prog 15 #[.agg #[.int .i64 V, .slice A E.length c], .int .i64 s, .int .i64 t, .int .u32 (uz inner)] w fun e w' =>
      ∃ (v : Value) (Z : List Nat), e = .returned (.tuple #[v, .int .i64 0]) ∧ w'.ownsRow w.heap.size 3 1 v Z.length (is (Z.map Int.ofNat)) ∧ Hid ((Z = [] ∧ ∀ p, IsP E s t inner p → p.head? ≠ some s) ∨ Best E s t inner Z) ∧ Below w.heap.size w w' := by
  have hal : ∀ wr : World, Rd wr wr.heap.size A (us E) → Calls Tryd.prog 36 #[.agg #[.int .i64 V, .slice A E.length c]] wr fun e w' => e = .returned (.int .u32 (uz (allOf V))) ∧ Below wr.heap.size wr w' := fun wr _ => all_any V A E.length c wr (by omega)
  have HAL := Lib.hid hal
  clear hal
  have hne' : s ≠ t := fun e => by subst e; simp at hne
  have HG := Lib.hid (given_of (inner := inner) hv hs1 ht1 hne')
  have hV30 : V ≤ 30 := (validB_of hv).2.1
  clear hne'
  go_enter Tryd.func15, Tryd.ntmps15
  go_wp2_with fail
  have hb0 := below_alloc w (.cells #[.int .i64 V, .slice A E.length c] 24)
  refine (valid_any V A E c _ hl (hE.later hb0)).mono ?_
  rintro e w1 ⟨rfl, hb⟩
  rw [hv]
  obtain ⟨hc, hf⟩ := bcell hb
  have hb1 := bthen hb0 hb
  have hg0 : w1.cell? ⟨w.heap.size, 0, none⟩ = some (.int .i64 V) := by rw [hc _ _ (by simp)]; simp [World.cell?_alloc_new]
  have hg1 : w1.cell? ⟨w.heap.size, 1, none⟩ = some (.slice A E.length c) := by rw [hc _ _ (by simp)]; simp [World.cell?_alloc_new]
  have hE1 := hE.later hb1
  clear hc hf hb hb0
  go_upto_region 3 with fail
  go_cut [26] (fun x wc => x = .bool false ∧ w1 = wc)
  case first =>
    go_wp2_with fail
    all_goals
      go_meet
      refine ⟨congrArg Value.bool ?_, rfl⟩
      first | rfl | (simp; done) | (simp; omega)
  case rest =>
    obtain ⟨rfl, rfl⟩ := hcut
    go_upto_region 7 with fail
    go_cut [3] (fun x wc => x = .int .u32 (uz (inn_ V s t inner)) ∧ Below w1.heap.size w1 wc)
    case first =>
      have k0 := cell_regrown hg0
      have k1 := cell_regrown hg1
      have hcall : ∀ d os, Calls Tryd.prog 36 #[.agg #[.int .i64 V, .slice A E.length c]] (Sort.grow (redrawn w1 d) os) fun e w'' => e = .returned (.int .u32 (uz (allOf V))) ∧ ∃ p : Regrown, w'' = Sort.grow (redrawn w1 p.d) p.os := fun d os => Calls.regrown_of (HAL.out _ (hE1.later (below_regrown w1 d os)))
      refine wp_region_quiet_below (by kernel_rfl) (by kernel_rfl) ?_
      repeat (quiet_step (first | exact hcall _ _))
      refine wpQuiet_nil ?_
      intro w2 hw2
      have hb2 : Below w1.heap.size w1 w2 := by obtain ⟨p, rfl⟩ := hw2; exact below_regrown _ _ _
      clear hw2
      go_wp2_with fail
      go_meet
      exact ⟨rfl, hb2⟩
    case rest =>
      obtain ⟨rfl, hb2⟩ := hcut
      obtain ⟨wb, hwb⟩ : ∃ wb : World, wb = wc := ⟨_, rfl⟩
      subst hwb
      have hbw := bthen hb1 hb2
      have hg0' : wb.cell? ⟨w.heap.size, 0, none⟩ = some (.int .i64 V) := (Tab_cell hb2 hg0)
      have hg1' : wb.cell? ⟨w.heap.size, 1, none⟩ = some (.slice A E.length c) := (Tab_cell hb2 hg1)
      have hgl : w.heap.size < wb.heap.size := World.block_lt_of_cell? _ _ hg0'
      clear hg0 hg1 hE1 hb1 hb2
      obtain ⟨inn, hinn⟩ : ∃ x, x = inn_ V s t inner := ⟨_, rfl⟩
      rw [← hinn] at HG ⊢
      clear hinn
      have hEb := hE.later hbw
      have hTb := hT.later hbw
      go_wp2_with fail
      have hR : Row (wb.alloc (.cells #[.int .i64 0, .int .i64 0, .int .i64 0, .int .i64 0, .int .i64 0, .int .i64 0, .int .i64 0, .int .i64 0, .int .i64 0, .int .i64 0, .int .i64 0, .int .i64 0, .int .i64 0, .int .i64 0, .int .i64 0, .int .i64 0, .int .i64 0, .int .i64 0, .int .i64 0, .int .i64 0, .int .i64 0, .int .i64 0, .int .i64 0, .int .i64 0, .int .i64 0, .int .i64 0, .int .i64 0, .int .i64 0, .int .i64 0, .int .i64 0] 68)) wb.heap.size 68 (is (fl fun _ => 0)) := heap_alloc_new wb _
      have hb3 := below_alloc wb (.cells #[.int .i64 0, .int .i64 0, .int .i64 0, .int .i64 0, .int .i64 0, .int .i64 0, .int .i64 0, .int .i64 0, .int .i64 0, .int .i64 0, .int .i64 0, .int .i64 0, .int .i64 0, .int .i64 0, .int .i64 0, .int .i64 0, .int .i64 0, .int .i64 0, .int .i64 0, .int .i64 0, .int .i64 0, .int .i64 0, .int .i64 0, .int .i64 0, .int .i64 0, .int .i64 0, .int .i64 0, .int .i64 0, .int .i64 0, .int .i64 0] 68)
      generalize wb.alloc _ = w3 at hR hb3 ⊢
      go_quiet (fail)
      go_upto_block 1 with fail
      go_cut [11, 12, 13] (fun _ _ _ we => ∃ f, Row we wb.heap.size 68 (is (fl f)) ∧ Below wb.heap.size wb we ∧ Hid (Found E s t inner inn f))
      case first =>
        go_wp2_with fail
        go_loopg [11, 12, 13] (roundsLeft (1#32 <<< t) (1#32 <<< t)) (fun gk l sn n wr => ∃ (L S : BitVec 32) (m : Nat) (f : Nat → Nat), l = .int .u32 (uz L) ∧ sn = .int .u32 (uz S) ∧ n = .int .i64 m ∧ m + gk ≤ 40 ∧ Hid (gk = roundsLeft L S) ∧ Hid (Inv E s t inner inn m f L S) ∧ Row wr wb.heap.size 68 (is (fl f)) ∧ Below wb.heap.size wb wr)
        case atStart => exact ⟨_, _, 1, fun _ => 0, rfl, rfl, rfl, by have := roundsLeft_le (1#32 <<< t) (1#32 <<< t); omega, rfl, Inv.start HG.out, hR, below_drewN hb3 _⟩
        case round =>
          obtain ⟨L, S, m, f, rfl, rfl, rfl, hm, hgk, hI, hRr, hbr⟩ := hrel
          have hfs : wr.cell? ⟨wb.heap.size, s, none⟩ = some (.int .i64 (f s)) := by rw [hRr.cell, fl_at _ _ (by omega)]
          by_cases hL : L = 0#32
          · have hL' : (L != 0#32) = false := by simpa using hL
            have HL := Lib.hid hL
            clear hL
            go_wp2_with fail
            go_meet
            refine ⟨f, hRr, hbr, ?_⟩
            by_cases h0 : f s = 0
            · exact .inl ⟨h0, Inv.none HG.out (by have := hI.out; rwa [HL.out] at this) h0⟩
            · exact .inr ⟨h0, m, L, S, hI.out⟩
          · have hL' : (L != 0#32) = true := by simpa using hL
            have HL := Lib.hid hL
            clear hL
            by_cases h0 : f s = 0
            · have h0' : ((f s : Int) == 0) = true := by simp [h0]
              have H0 := Lib.hid h0
              clear h0
              go_wp2_with fail
              go_loopg [14, 15] (bitsOf L).length (fun gi nx sv wi => ∃ (N X : BitVec 32) (pre : List Nat), nx = .int .u32 (uz N) ∧ sv = .int .u32 (uz X) ∧ Hid (bitsOf L = pre ++ bitsOf X ∧ N = orAll (pre.map fun (v : Nat) => nearS E (v : Int)) ∧ gi = (bitsOf X).length) ∧ Row wi wb.heap.size 68 (is (fl f)) ∧ Below wb.heap.size wb wi)
              case atStart => exact ⟨0#32, L, [], rfl, rfl, ⟨rfl, rfl, rfl⟩, hRr, hbr⟩
              case round =>
                obtain ⟨N, X, pre, rfl, rfl, hX, hRi, hbi⟩ := hrel
                by_cases hx0 : X = 0#32
                · have hx' : (X != 0#32) = false := by simpa using hx0
                  have HN : Hid (N = nearAll E L) := by
                    obtain ⟨e1, e2, _⟩ := hX.out
                    rw [hx0, bitsOf_zero, List.append_nil] at e1
                    show N = _
                    rw [e2, ← e1]; rfl
                  clear hx0 hX hfs hL' h0'
                  go_wp2_with fail
                  generalize hNX : N &&& ((inn ||| 1#32 <<< s) &&& ~~~S) = NX
                  have HNX : Hid (NX = nextL E s inn L S) := by show _ = _; rw [← hNX, HN.out]; rfl
                  clear hNX
                  have hlt : ∀ v, NX.getLsbD v = true → v < 30 := by
                    intro v hv
                    rw [HNX.out] at hv
                    unfold nextL at hv
                    rw [BitVec.getLsbD_and, BitVec.getLsbD_and, BitVec.getLsbD_or, getLsbD_one_shl _ _ (by omega)] at hv
                    simp only [Bool.and_eq_true, Bool.or_eq_true, decide_eq_true_eq] at hv
                    rcases hv.2.1 with a | a
                    · have := ((HG.out).inn v).1 a
                      omega
                    · omega
                  have HLT := Lib.hid hlt
                  clear hlt
                  go_loopg [16] (bitsOf NX).length (fun gi sv wi => ∃ (X : BitVec 32) (pre : List Nat), sv = .int .u32 (uz X) ∧ Hid (bitsOf NX = pre ++ bitsOf X ∧ gi = (bitsOf X).length) ∧ Row wi wb.heap.size 68 (is (fl fun v => if v ∈ pre then m else f v)) ∧ Below wb.heap.size wb wi)
                  case atStart => exact ⟨NX, [], rfl, ⟨rfl, rfl⟩, by simpa using hRi, hbi⟩
                  case round =>
                    clear hRi hbi
                    obtain ⟨X, pre, rfl, hX, hRi, hbi⟩ := hrel
                    by_cases hx0 : X = 0#32
                    · have hx' : (X != 0#32) = false := by simpa using hx0
                      have HE : Hid (bitsOf NX = pre) := by
                        obtain ⟨e1, _⟩ := hX.out
                        rwa [hx0, bitsOf_zero, List.append_nil] at e1
                      clear hx0 hX
                      have hlt2 := roundsLeft_step E s inn L S HL.out
                      rw [← HNX.out] at hlt2
                      rw [← hgk.out] at hlt2
                      have HLT2 := Lib.hid hlt2
                      have hm40 : m ≤ 40 := by omega
                      clear hlt2
                      go_wp2_with fail
                      go_roundg (roundsLeft (NX &&& ~~~(1#32 <<< s)) (S ||| NX))
                      case measure => exact HLT2.out
                      case rel =>
                        refine ⟨NX &&& ~~~(1#32 <<< s), S ||| NX, m + 1, fun v => if NX.getLsbD v = true then m else f v, rfl, rfl, by go_num, by have := HLT2.out; omega, rfl, ?_, ?_, hbi⟩
                        · have := hI.out.step HG.out
                          rw [← HNX.out] at this
                          exact this
                        · have e : fl (fun v => if v ∈ pre then m else f v) = fl (fun v => if NX.getLsbD v = true then m else f v) := fl_congr fun v _ => by
                            rw [← HE.out]
                            simp only [mem_bitsOf]
                          rw [← e]; exact hRi
                    · have hx' : (X != 0#32) = true := by simpa using hx0
                      have HX0 := Lib.hid hx0
                      clear hx0
                      have hc30 : ctz X < 30 := by
                        apply HLT.out
                        rw [← mem_bitsOf, hX.out.1, bitsOf_cons X HX0.out]
                        simp
                      have hc1 : (0 : Int) ≤ (ctz X : Int) := by omega
                      have hc2 : (ctz X : Int) < 30 := by omega
                      have hcc : ∃ y : Int, wr.cell? ⟨wb.heap.size, ctz X, none⟩ = some (.int .i64 y) := ⟨_, (hRi.cell _).trans (fl_at _ _ hc30)⟩
                      obtain ⟨y, hcc⟩ := hcc
                      have hcf := hRi.frozen (ctz X)
                      go_wp2_with (go_at_call 38; refine (tz_any X _ (hTb.later hbi)).mono ?_; rintro e w' ⟨rfl, rfl⟩)
                      go_roundg ((bitsOf (X &&& (X - 1#32))).length)
                      case measure => rw [hX.out.2]; exact bitsOf_len_lt X HX0.out
                      case rel =>
                        refine ⟨X &&& (X - 1#32), pre ++ [ctz X], rfl, ⟨?_, rfl⟩, ?_, hbi.setCell (Nat.le_refl _) _⟩
                        · rw [hX.out.1, bitsOf_cons X HX0.out]; simp
                        · have e := fl_set (fun v => if v ∈ pre then m else f v) (ctz X) m hc30
                          have e2 : fl (fun v => if v ∈ pre ++ [ctz X] then m else f v) = fl (fun u => if u = ctz X then m else if u ∈ pre then m else f u) := fl_congr fun v _ => by
                            by_cases a : v = ctz X <;> by_cases b : v ∈ pre <;> simp [a, b]
                          rw [e2, ← e]; exact hRi.set_ _ _
                · have hx' : (X != 0#32) = true := by simpa using hx0
                  have HX0 := Lib.hid hx0
                  clear hx0 hfs hL' h0'
                  go_wp2_with fail
                  have k0 := cell_regrown (Tab_cell hbi hg0')
                  have k1 := cell_regrown (Tab_cell hbi hg1')
                  refine wp_region_quiet_below (by kernel_rfl) (by kernel_rfl) ?_
                  repeat (quiet_step (first | exact tz_class X hTb hbi _ _ | exact near_class (v := ((ctz X : Nat) : Int)) (by omega) hl hEb hbi _ _))
                  refine wpQuiet_nil ?_
                  intro w4 hw4
                  have hb4 : Below wr.heap.size wr w4 := by obtain ⟨p, rfl⟩ := hw4; exact below_regrown _ _ _
                  clear hw4 k0 k1
                  go_wp2_with fail
                  go_roundg ((bitsOf (X &&& (X - 1#32))).length)
                  case measure => rw [hX.out.2.2]; exact bitsOf_len_lt X HX0.out
                  case rel =>
                    refine ⟨N ||| nearS E (ctz X : Nat), X &&& (X - 1#32), pre ++ [ctz X], rfl, rfl, ⟨?_, ?_, rfl⟩, hRi.later hb4, bthen hbi hb4⟩
                    · rw [hX.out.1, bitsOf_cons X HX0.out]; simp
                    · rw [orAll_map_snoc, ← hX.out.2.1]
            · have h0' : ((f s : Int) == 0) = false := by simp; omega
              have H0 := Lib.hid h0
              clear h0
              go_wp2_with fail
              go_meet
              exact ⟨f, hRr, hbr, .inr ⟨H0.out, m, L, S, hI.out⟩⟩
      case rest =>
        obtain ⟨f, hRe, hbe, hF⟩ := hcut
        obtain ⟨we, hwe⟩ : ∃ we : World, we = wc := ⟨_, rfl⟩
        subst hwe
        have hfs : we.cell? ⟨wb.heap.size, s, none⟩ = some (.int .i64 (f s)) := by rw [hRe.cell, fl_at _ _ (by omega)]
        by_cases h0 : f s = 0
        · have h0' : ((f s : Int) == 0) = true := by simp [h0]
          have H0 := Lib.hid h0
          clear h0
          go_wp2_with fail
          go_ret2
          exact ⟨.slice none 0 0, [], rfl, World.ownsRow_nil _ _ _ _, .inl ⟨rfl, hF.out.no H0.out⟩, bthen hbw hbe⟩
        · have h0' : ((f s : Int) == 0) = false := by simp; omega
          have H0 := Lib.hid h0
          clear h0
          go_wp2_with fail
          obtain ⟨n, L, S, hI⟩ := hF.out.yes H0.out
          have HI := Lib.hid hI
          clear hI hF
          have hown0 : (we.alloc (.cells #[.int .i64 (s : Int)] 3)).ownsRow (wb.heap.size + 1) 3 1 (.slice (some ⟨we.heap.size, 0, none⟩) 1 1) 1 (is [(s : Int)]) :=
            Row.own (Row.new we 3 (is [(s : Int)])) hRe.lt (by simp [is, maxLen])
          have hbx : Below (wb.heap.size + 1) we (we.alloc (.cells #[.int .i64 (s : Int)] 3)) := (Below.refl _ _).alloc hRe.lt _
          have hlt1 : we.heap.size < (we.alloc (.cells #[.int .i64 (s : Int)] 3)).heap.size := by simp
          generalize we.alloc (.cells #[.int .i64 (s : Int)] 3) = wd at hown0 hbx hlt1 ⊢
          have hfs30 : f s < 30 := by
            have h1 := HI.out.a s H0.out
            have h2 := rmin_small HG.out HG.out.hsrc h1.2
            have := HG.out.small
            omega
          obtain ⟨full, hfull⟩ : ∃ l, l = gr E t inn f (f s) s := ⟨_, rfl⟩
          have hfl : full.length = f s + 1 := by
            have h1 := HI.out.a s H0.out
            rw [hfull]
            exact (gr_best HG.out HI.out (f s) (by have := H0.out; omega) (by omega) s h1.2).2.2.1
          have HF := Lib.hid hfull
          clear hfull hfs h0'
          go_loopg [17, 18] (f s) (fun gi pv vv wr => ∃ (v : Nat) (pre : List Nat), vv = .int .i64 v ∧ v < 30 ∧ pre.length ≤ 40 ∧ wr.ownsRow (wb.heap.size + 1) 3 1 pv (pre.length + 1) (is ((pre ++ [v]).map Int.ofNat)) ∧
            Hid (gi = f v ∧ 1 ≤ f v ∧ RMin E s t inner (f v) v ∧ pre ++ gr E t inn f (f v) v = full) ∧ Below (wb.heap.size + 1) we wr ∧ wb.heap.size + 1 ≤ wr.heap.size)
          case atStart => exact ⟨s, [], rfl, by omega, by simp, hown0, ⟨rfl, by have := H0.out; omega, (HI.out.a s H0.out).2, by rw [HF.out]; rfl⟩, hbx, by have := hRe.lt; omega⟩
          case round =>
            obtain ⟨v, pre, rfl, hv30, hpl, hown, hP, hbr, hsz⟩ := hrel
            have hRr : Row wr wb.heap.size 68 (is (fl f)) := hRe.below hbr (by omega)
            have hfv : wr.cell? ⟨wb.heap.size, v, none⟩ = some (.int .i64 (f v)) := by rw [hRr.cell, fl_at _ _ hv30]
            have hbr' : Below wb.heap.size we wr := hbr.mono (by omega)
            by_cases h1 : f v = 1
            · rw [h1] at hfv
              have HF2 : Hid (pre ++ [v, t] = full) := by
                have := hP.out.2.2.2
                rw [h1] at this
                exact this
              clear hP h1
              go_wp2_with (at_builtin; refine app_int rfl (.tmp 144) (.tmp 146) rfl (wb.heap.size + 1) _ _ ((pre ++ [v]).map Int.ofNat) t rfl rfl hown (by omega) hsz ?_; intro v2 w2 hown2 hb2)
              go_ret2
              refine ⟨v2, full, rfl, ?_, .inr ?_, bthen hbw (hbe.trans (hbr'.trans (hb2.mono (by omega))))⟩
              · have e : full.map Int.ofNat = (pre ++ [v]).map Int.ofNat ++ [(t : Int)] := by rw [← HF2.out]; simp
                have e2 : full.length = pre.length + 1 + 1 := by rw [← HF2.out]; simp
                rw [e, e2]
                exact own_less hown2 (by have := hbw.size; omega)
              · rw [HF.out]
                exact gr_is_best HG.out HI.out H0.out
            · obtain ⟨d, hd⟩ : ∃ d, f v = d + 2 := ⟨f v - 2, by have := hP.out.2.1; omega⟩
              rw [hd] at hfv
              have hpk := pick_spec HG.out HI.out (d := d + 1) (v := v) (by omega) (by
                have := HI.out.a v (by omega)
                omega) (by have := hP.out.2.2.1; rwa [hd] at this)
              obtain ⟨x, hx1, hx2, hx3, hx4, hx5, hx6, _⟩ := hpk
              have hx30 : x < 30 := by
                have := (HG.out.inn x).1 hx4
                have := HG.out.small
                omega
              have HX1 := Lib.hid hx1
              have HX2 := Lib.hid hx2
              have HX5 := Lib.hid hx5
              have HX6 := Lib.hid hx6
              have hd30 : d + 2 ≤ 30 := by
                have h5 := hP.out.2.2.2
                have h6 := congrArg List.length h5
                rw [List.length_append, (gr_best HG.out HI.out (f v) (by omega) (by have := HI.out.a v (by omega); omega) v hP.out.2.2.1).2.2.1] at h6
                omega
              have HD := Lib.hid hd
              clear hx1 hx2 hx3 hx4 hx5 hx6 hd h1
              have hg0r : wr.cell? ⟨w.heap.size, 0, none⟩ = some (.int .i64 V) := (hbr'.cell (p := ⟨w.heap.size, 0, none⟩) hgl).trans (Tab_cell hbe hg0')
              have hg1r : wr.cell? ⟨w.heap.size, 1, none⟩ = some (.slice A E.length c) := (hbr'.cell (p := ⟨w.heap.size, 1, none⟩) hgl).trans (Tab_cell hbe hg1')
              have hbwr : Below w.heap.size w wr := hbw.trans ((hbe.trans hbr').mono (by omega))
              obtain ⟨lf, hlf, hlf0, hlf1, hfv'⟩ : ∃ lf : Int, lf = (d : Int) + 1 ∧ 1 ≤ lf ∧ lf ≤ 40 ∧ wr.cell? ⟨wb.heap.size, v, none⟩ = some (.int .i64 (lf + 1)) := ⟨(d : Int) + 1, rfl, by omega, by omega, by rw [hfv]; congr 2⟩
              have HLF := Lib.hid hlf
              clear hlf hfv
              go_wp2_with fail
              refine (near_any V v A E c _ (by omega) hl (hE.later hbwr)).mono ?_
              rintro e w5 ⟨rfl, hb5⟩
              have hR5 := hRr.later hb5
              have hbw5 := bthen hbwr hb5
              clear hg0r hg1r
              go_upto_block 9 with fail
              go_cut [18, 20, 21] from 115 to 143 (fun vv _ _ wx => vv = .int .i64 x ∧ w5 = wx)
              case first =>
                obtain ⟨M, hM⟩ : ∃ M, M = nearS E (v : Int) &&& inn := ⟨_, rfl⟩
                rw [← hM] at HX1 ⊢
                have hMin : ∀ y, M.getLsbD y = true → y < 30 := fun y hy => by
                  rw [hM, BitVec.getLsbD_and, Bool.and_eq_true] at hy
                  have := (HG.out.inn y).1 hy.2
                  have := HG.out.small
                  omega
                have HMin := Lib.hid hMin
                clear hM hMin
                go_wp2_with fail
                go_loopg [18, 20] (bitsOf M).length (fun gi vv sv wi => ∃ (X : BitVec 32) (pr : List Nat), vv = .int .i64 v ∧ sv = .int .u32 (uz X) ∧ Hid (bitsOf M = pr ++ bitsOf X ∧ (∀ y, y ∈ pr → ¬ f y = d + 1) ∧ gi = (bitsOf X).length) ∧ w5 = wi)
                case atStart => exact ⟨M, [], rfl, rfl, ⟨rfl, (fun y hy => by cases hy), rfl⟩, rfl⟩
                case round =>
                  obtain ⟨X, pr, rfl, rfl, hX, rfl⟩ := hrel
                  have hx0 : X ≠ 0#32 := fun e => by
                    obtain ⟨e1, e2, _⟩ := hX.out
                    rw [e, bitsOf_zero, List.append_nil] at e1
                    have h1 := List.mem_of_find?_eq_some HX1.out
                    rw [e1] at h1
                    exact e2 x h1 HX5.out
                  have HX0 := Lib.hid hx0
                  clear hx0
                  have hcm : ctz X ∈ bitsOf M := by
                    rw [hX.out.1, bitsOf_cons X HX0.out]; simp
                  have hc30 : ctz X < 30 := HMin.out _ (mem_bitsOf.1 hcm)
                  have hc1 : (0 : Int) ≤ (ctz X : Int) := by omega
                  have hc2 : (ctz X : Int) < 30 := by omega
                  have hcc : w5.cell? ⟨wb.heap.size, ctz X, none⟩ = some (.int .i64 (f (ctz X))) := (hR5.cell _).trans (fl_at _ _ hc30)
                  have hT5 := hT.later hbw5
                  have HT5 := Lib.hid hT5
                  clear hcm hT5
                  by_cases hfx : f (ctz X) = d + 1
                  · have htest : ((f (ctz X) : Int) == lf) = true := by rw [beq_iff_eq, HLF.out, hfx]; omega
                    have hxe : x = ctz X := by
                      have h1 := HX1.out
                      obtain ⟨e1, e2, _⟩ := hX.out
                      rw [e1, bitsOf_cons X HX0.out, List.find?_append, List.find?_eq_none.2 (fun y hy => by simpa using e2 y hy)] at h1
                      rw [List.find?_cons_of_pos (by simpa using hfx)] at h1
                      simpa using h1.symm
                    have HXE := Lib.hid hxe
                    clear hfx hxe
                    go_wp2_with (go_at_call 38; refine (tz_any X _ HT5.out).mono ?_; rintro e w' ⟨rfl, rfl⟩)
                    go_meet
                    exact ⟨by rw [HXE.out], rfl⟩
                  · have htest : ((f (ctz X) : Int) == lf) = false := by rw [beq_eq_false_iff_ne, HLF.out]; omega
                    have HFX := Lib.hid hfx
                    clear hfx
                    go_wp2_with (go_at_call 38; refine (tz_any X _ HT5.out).mono ?_; rintro e w' ⟨rfl, rfl⟩)
                    go_roundg ((bitsOf (X &&& (X - 1#32))).length)
                    case measure => rw [hX.out.2.2]; exact bitsOf_len_lt X HX0.out
                    case rel =>
                      refine ⟨X &&& (X - 1#32), pr ++ [ctz X], rfl, rfl, ⟨?_, ?_, rfl⟩, rfl⟩
                      · rw [hX.out.1, bitsOf_cons X HX0.out]; simp
                      · intro y hy
                        rcases List.mem_append.1 hy with a | a
                        · exact hX.out.2.1 y a
                        · obtain rfl : y = ctz X := by simpa using a
                          exact HFX.out
              case rest =>
                obtain ⟨rfl, rfl⟩ := hcut
                have hown5 := own_below hown hb5
                have hsz5 : wb.heap.size + 1 ≤ w5.heap.size := Nat.le_trans hsz hb5.size
                have hbr5 : Below (wb.heap.size + 1) we w5 := hbr.trans (hb5.mono hsz)
                go_wp2_with (at_builtin; refine app_int rfl (.tmp 140) (.tmp 142) rfl (wb.heap.size + 1) _ _ ((pre ++ [v]).map Int.ofNat) x rfl rfl hown5 (by omega) hsz5 ?_; intro v2 w2 hown2 hb2)
                go_roundg (d + 1)
                case measure => rw [hP.out.1, HD.out]; omega
                case rel =>
                  refine ⟨x, pre ++ [v], rfl, hx30, ?_, ?_, ⟨HX5.out.symm, by rw [HX5.out]; omega, by rw [HX5.out]; exact HX6.out, ?_⟩, hbr5.trans hb2, Nat.le_trans hsz5 hb2.size⟩
                  · have h5 := hP.out.2.2.2
                    rw [HD.out] at h5
                    have h6 := congrArg List.length h5
                    rw [List.length_append] at h6
                    simp only [gr, List.length_cons] at h6
                    simp; omega
                  · have e : (pre ++ [v]).length + 1 = pre.length + 1 + 1 := by simp
                    rw [e]
                    have e2 : (pre ++ [v] ++ [x]).map Int.ofNat = (pre ++ [v]).map Int.ofNat ++ [(x : Int)] := by simp
                    rw [e2]; exact hown2
                  · have h5 := hP.out.2.2.2
                    rw [HD.out] at h5
                    rw [HX5.out, ← h5]
                    show pre ++ [v] ++ _ = pre ++ (v :: gr E t inn f (d + 1) (pickV E inn f (d + 1) v))
                    rw [HX2.out]; simp

/-- WHAT hyper.Path ANSWERS, FOR EVERY GRAPH. -/
theorem path_any (V : Int) (s t : Int) (inner : BitVec 32) (A : Option Addr) (E : List (BitVec 32)) (c : Nat) (w : World) (hl : E.length ≤ 35184372087808) (hE : Rd w w.heap.size A (us E)) (hT : Tab w) :
    Calls Tryd.prog 15 #[.agg #[.int .i64 V, .slice A E.length c], .int .i64 s, .int .i64 t, .int .u32 (uz inner)] w fun e w' =>
      ∃ (v : Value) (Z : List Nat) (code : Int), e = .returned (.tuple #[v, .int .i64 code]) ∧ w'.ownsRow w.heap.size 3 1 v Z.length (is (Z.map Int.ofNat)) ∧ Hid (PathIs V E s t inner Z code) ∧ Below w.heap.size w w' := by
  cases hv : validB V E
  · exact (path_invalid V s t inner A E c w hl hE hv).mono fun e w' ⟨he, hb⟩ => ⟨_, [], _, he, World.ownsRow_nil _ _ _ _, .inl ⟨hv, rfl, rfl⟩, hb⟩
  · by_cases ho : s < 0 ∨ t < 0 ∨ V ≤ s ∨ V ≤ t
    · exact (path_out V s t inner A E c w hl hE hv ho).mono fun e w' ⟨he, hb⟩ => ⟨_, [], _, he, World.ownsRow_nil _ _ _ _, .inr (.inl ⟨hv, ho, rfl, rfl⟩), hb⟩
    · obtain ⟨m, rfl⟩ := Int.eq_ofNat_of_zero_le (show 0 ≤ s by omega)
      obtain ⟨n, rfl⟩ := Int.eq_ofNat_of_zero_le (show 0 ≤ t by omega)
      by_cases he : m = n
      · subst he
        exact (path_same V (m : Nat) inner A E c w hl hE hv (by omega) (by omega)).mono fun e w' ⟨g, he, hg, hR, hb⟩ =>
          ⟨_, [m], 0, he, Row.own hR hg (by simp [is, maxLen]), .inr (.inr (.inl ⟨hv, by omega, by omega, by omega, by omega, rfl, rfl, by simp⟩)), hb⟩
      · exact (path_main V m n inner A E c w hl hE hT hv (by omega) (by omega) (by rw [beq_eq_false_iff_ne]; omega)).mono fun e w' ⟨v, Z, he', hown, hZ, hb⟩ =>
          ⟨v, Z, 0, he', hown, .inr (.inr (.inr ⟨hv, by omega, by omega, by omega, by omega, by omega, rfl, by simpa using hZ.out⟩)), hb⟩
end Go.Proofs.YtaongngoacbodaaDoor
