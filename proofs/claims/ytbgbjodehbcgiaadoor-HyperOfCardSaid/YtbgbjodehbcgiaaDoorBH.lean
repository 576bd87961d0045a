/- Several texts in one: C17h KnotLaw C17i C17j Cuts PathFree C17k C17l C17m. -/
import Derived.Test.YtbgbjodehbcgiaaDoorBG
import Derived.Test.YtbgbjodehbcgiaaDoorBF
import Derived.Test.YtbgbjodehbcgiaaDoorBC
import Derived.Deep.RegionHeld3
import Derived.Test.YtbgbjodehbcgiaaDoorBA
import Derived.Test.YtbgbjodehbcgiaaDoorBP
import Derived.Deep.RegionWith
import Derived.Deep.DrawnRows
import Derived.Lib.BitFns
import Derived.Lib.Strings
/- The contracts of classify.Rest and osierref17.Rest. -/
namespace Go.Proofs.YtbgbjodehbcgiaaDoor
open Go.RowKit

/-- What Rest answers. -/
def Rest17Is (V : Int) (E : List (BitVec 32)) (head : BitVec 32) (Z : List (BitVec 32)) (code : Int) : Prop :=
  ∃ (a x h : Bool) (q : Int), ClassIs V E head a x h q ∧ (((q ≠ 0 ∨ x = true) ∧ Z = [] ∧ code = q) ∨ (q = 0 ∧ x = false ∧ a = false ∧ RestIs V E 0#32 Z code) ∨ (q = 0 ∧ x = false ∧ a = true ∧ RestIs V (extE E head) 0#32 Z code))
theorem rest17_uniq {V : Int} {E : List (BitVec 32)} {head : BitVec 32} {Z Y : List (BitVec 32)} {a b : Int} (h : Rest17Is V E head Z a) (k : Rest17Is V E head Y b) : Z = Y ∧ a = b := by
  obtain ⟨a1, x1, h1, q1, K1, H1⟩ := h
  obtain ⟨a2, x2, h2, q2, K2, H2⟩ := k
  obtain ⟨rfl, rfl, rfl, rfl⟩ := class_uniq K1 K2
  rcases H1 with ⟨z, rfl, rfl⟩ | ⟨rfl, rfl, rfl, r1⟩ | ⟨rfl, rfl, rfl, r1⟩
  · rcases H2 with ⟨_, rfl, rfl⟩ | ⟨rfl, rfl, _, _⟩ | ⟨rfl, rfl, _, _⟩
    · exact ⟨rfl, rfl⟩
    · rcases z with z | z
      · exact absurd rfl z
      · cases z
    · rcases z with z | z
      · exact absurd rfl z
      · cases z
  · rcases H2 with ⟨z, _⟩ | ⟨_, _, _, r2⟩ | ⟨_, _, e, _⟩
    · rcases z with z | z
      · exact absurd rfl z
      · cases z
    · exact restIs_uniq r1 r2
    · cases e
  · rcases H2 with ⟨z, _⟩ | ⟨_, _, e, _⟩ | ⟨_, _, _, r2⟩
    · rcases z with z | z
      · exact absurd rfl z
      · cases z
    · cases e
    · exact restIs_uniq r1 r2
theorem rest17_len {V : Int} {E : List (BitVec 32)} {head : BitVec 32} {Z : List (BitVec 32)} {a : Int} (h : Rest17Is V E head Z a) : Z.length ≤ 7 := by
  obtain ⟨_, _, _, _, _, H⟩ := h
  rcases H with ⟨_, rfl, _⟩ | ⟨_, _, _, r⟩ | ⟨_, _, _, r⟩
  · exact Nat.zero_le _
  · exact restIs_len r
  · exact restIs_len r

set_option maxHeartbeats 40000000 in
set_option maxRecDepth 100000 in
theorem rest17_any (V : Int) (ad : Addr) (E : List (BitVec 32)) (c : Nat) (head : BitVec 32) (w : World) (hl : E.length ≤ 35184372087808) (hE : Rd w w.heap.size (some ad) (us E)) :
    Calls Tryd.prog 20 #[.agg #[.int .i64 V, .slice (some ad) E.length c], .int .u32 (uz head)] w fun e w' => ∃ v Z code, e = .returned (.tuple #[v, .int .i64 code]) ∧ w'.ownsRow w.heap.size 29 1 v Z.length (us Z) ∧ Hid (Rest17Is V E head Z code) ∧ Below w.heap.size w w' := by
  go_enter Tryd.func20, Tryd.ntmps20
  go_wp2_with fail
  have hb0 := below_alloc w (.cells #[.int .i64 V, .slice (some ad) E.length c] 28)
  have hG0 : Row (w.alloc (.cells #[.int .i64 V, .slice (some ad) E.length c] 28)) w.heap.size 28 [.int .i64 V, .slice (some ad) E.length c] := Row.new _ _ _
  generalize w.alloc _ = w0 at hb0 hG0 ⊢
  refine (classify_any V ad E c head w0 hl (hE.later hb0)).mono ?_
  rintro e w1 ⟨a, x, h, q, rfl, K, hb1⟩
  have hB1 := bthen hb0 hb1
  have hG1 := hG0.later hb1
  have hE1 := hE.later hB1
  clear hb0 hb1 hG0 hE
  go_upto_region 2 with fail
  have hb2 := below_alloc w1 (.cells #[.bool a, .bool x, .bool h] 48)
  have hK2 : Row (w1.alloc (.cells #[.bool a, .bool x, .bool h] 48)) w1.heap.size 48 [.bool a, .bool x, .bool h] := Row.new _ _ _
  have hB2 := bthen hB1 hb2
  have hG2 := hG1.later hb2
  have hE2 := hE1.later hb2
  generalize w1.heap.size = p at hK2 ⊢
  generalize w1.alloc _ = w2 at hK2 hB2 hG2 hE2 ⊢
  have k0 : w2.cell? ⟨p, 0, none⟩ = some (.bool a) := hK2.cell 0
  have k1 : w2.cell? ⟨p, 1, none⟩ = some (.bool x) := hK2.cell 1
  have d0 : w2.cell? ⟨w.heap.size, 0, none⟩ = some (.int .i64 V) := hG2.cell 0
  have d1 : w2.cell? ⟨w.heap.size, 1, none⟩ = some (.slice (some ad) E.length c) := hG2.cell 1
  clear hb2 hB1 hG1 hE1 hK2
  by_cases hq : q = 0
  · subst hq
    cases x
    · cases a
      · have HK := Lib.hid (fun (Z : List (BitVec 32)) (code : Int) (r : RestIs V E 0#32 Z code) => (show Rest17Is V E head Z code from ⟨_, _, _, _, K.out, .inr (.inl ⟨rfl, rfl, rfl, r⟩)⟩))
        have HC := Lib.hid (rest_any V (some ad) E c 0#32 w2 hl hE2)
        rw [show uz 0#32 = 0 from rfl] at HC
        go_wp2_with fail
        refine HC.out.mono ?_
        rintro e w3 ⟨v, Z, code, rfl, hown, hR, hb3⟩
        have HZ := Lib.hid (HK.out Z code hR.out)
        go_wp2_with fail
        go_ret2
        exact ⟨_, _, _, rfl, own_less hown hB2.size, HZ, bthen hB2 hb3⟩
      · have HK := Lib.hid (fun (Z : List (BitVec 32)) (code : Int) (r : RestIs V (extE E head) 0#32 Z code) => (show Rest17Is V E head Z code from ⟨_, _, _, _, K.out, .inr (.inr ⟨rfl, rfl, rfl, r⟩)⟩))
        have HG : Hid (goodB V E = true) := Lib.hid (by
          rcases K.out with ⟨_, z, _⟩ | ⟨g, _⟩
          · cases z
          · exact g)
        go_wp2_with fail
        refine (extended_any V ad E c head w2 hl hE2).mono ?_
        rintro e w3 ⟨V', v, F, code, rfl, hown, hX, hb3⟩
        obtain ⟨rfl, rfl, rfl⟩ : V' = V ∧ F = extE E head ∧ code = 0 := by
          rcases hX.out with ⟨g, _⟩ | ⟨_, h1, h2, h3⟩
          · rw [HG.out] at g; cases g
          · exact ⟨h1, h2, h3⟩
        have hB3 := bthen hB2 hb3
        have hG3 := hG2.later hb3
        obtain ⟨A1, c1, rfl, _, _, _, _⟩ := Rd.of_own hown
        have f0 := hG3.frozen 0
        have f1 := hG3.frozen 1
        have hlt := hG3.lt
        have hl7 : (extE E head).length ≤ 35184372087808 := by
          have h6 := (goodB_iff.1 HG.out).2
          rw [extE_length]; omega
        have hwl := hB2.size
        clear d0 d1 k0 k1 hX hb3 hE2 hG2 hB2
        generalize extE E head = F at hown HK hl7 ⊢
        have d0 : w3.cell? ⟨w.heap.size, 0, none⟩ = some (.int .i64 V') := hG3.cell 0
        have d1 : w3.cell? ⟨w.heap.size, 1, none⟩ = some (.slice (some ad) E.length c) := hG3.cell 1
        go_upto_region 6 with fail
        clear d0 d1
        have hG4 := (hG3.set_ 0 (.int .i64 V')).set_ 1 (.slice A1 F.length c1)
        have hown4 := own_grown hown (grown_set (grown_set (grown_below (Below.refl w3.heap.size w3) (some w.heap.size)) 0 (.int .i64 V')) 1 (.slice A1 F.length c1)) fun x hx => by
          injection hx with hx
          subst hx
          exact own_row_ne hown hG3 (by decide)
        have hB4 : Below w.heap.size w ((w3.setCell ⟨w.heap.size, 0, none⟩ (.int .i64 V')).setCell ⟨w.heap.size, 1, none⟩ (.slice A1 F.length c1)) := (hB3.setCell (by simp) _).setCell (by simp) _
        clear f0 f1 hlt hG3 hB3 hown
        generalize (w3.setCell _ _).setCell _ _ = w4 at hG4 hown4 hB4 ⊢
        obtain ⟨_, _, e5, _, _, hF4, _⟩ := Rd.of_own hown4
        injection e5 with e5 _ e6
        subst e5 e6
        have d0 : w4.cell? ⟨w.heap.size, 0, none⟩ = some (.int .i64 V') := hG4.cell 0
        have d1 : w4.cell? ⟨w.heap.size, 1, none⟩ = some (.slice A1 F.length c1) := hG4.cell 1
        clear hG4 hown4
        have HC := Lib.hid (rest_any V' A1 F c1 0#32 w4 hl7 hF4)
        rw [show uz 0#32 = 0 from rfl] at HC
        go_wp2_with fail
        refine HC.out.mono ?_
        rintro e w5 ⟨v, Z, code, rfl, hown5, hR, hb5⟩
        have HZ := Lib.hid (HK.out Z code hR.out)
        go_wp2_with fail
        go_ret2
        exact ⟨_, _, _, rfl, own_less hown5 hB4.size, HZ, bthen hB4 hb5⟩
    · have HZ : Hid (Rest17Is V E head [] 0) := Lib.hid ⟨_, _, _, _, K.out, .inl ⟨.inr rfl, rfl, rfl⟩⟩
      go_wp2_with fail
      go_ret2
      exact ⟨_, [], _, rfl, World.ownsRow_nil _ _ _ _, HZ, hB2⟩
  · have HZ : Hid (Rest17Is V E head [] q) := Lib.hid ⟨_, _, _, _, K.out, .inl ⟨.inl hq, rfl, rfl⟩⟩
    have hqb : (q != 0) = true := by simpa using hq
    clear hq
    go_wp2_with fail
    go_ret2
    exact ⟨_, [], _, rfl, World.ownsRow_nil _ _ _ _, HZ, hB2⟩

end Go.Proofs.YtbgbjodehbcgiaaDoor

/- The plain laws of ClassifyKnots and ClassifyLists: a knot, and a free path as a knot of the extended graph. -/
namespace Go.Proofs.YtbgbjodehbcgiaaDoor

def mt (R : List (BitVec 32)) (k v : Nat) : Nat := cntB (fun i => (ed R i).getLsbD v) k
theorem mt_step (R : List (BitVec 32)) (k v : Nat) : mt R (k + 1) v = mt R k v + if (ed R k).getLsbD v then 1 else 0 := rfl
theorem or_mt (R : List (BitVec 32)) (v : Nat) : ∀ k, hv (orTo R k) v ↔ 1 ≤ mt R k v
  | 0 => by simp [orTo, mt, cntB, hv]
  | k + 1 => by
    rw [show orTo R (k + 1) = orTo R k ||| ed R k from rfl, hv_or, or_mt R v k, mt_step]
    unfold hv
    by_cases c : (ed R k).getLsbD v = true <;> simp [c]
/-- What stands in two of them. -/
def twTo (R : List (BitVec 32)) : Nat → BitVec 32
  | 0 => 0#32
  | k + 1 => twTo R k ||| (orTo R k &&& ed R k)
theorem tw_mt (R : List (BitVec 32)) (v : Nat) : ∀ k, hv (twTo R k) v ↔ 2 ≤ mt R k v
  | 0 => by simp [twTo, mt, cntB, hv]
  | k + 1 => by
    rw [show twTo R (k + 1) = twTo R k ||| (orTo R k &&& ed R k) from rfl, hv_or, hv_and, tw_mt R v k, or_mt R v k, mt_step]
    unfold hv
    by_cases c : (ed R k).getLsbD v = true
    · simp [c]; omega
    · simp [c]
theorem tw_iff (R : List (BitVec 32)) (n : Nat) : twTo R n = orTo R n ↔ ∀ v, v < 32 → mt R n v ≠ 1 := by
  constructor
  · intro h v _ h1
    have a := tw_mt R v n
    rw [h, or_mt] at a
    omega
  · intro h
    apply hv_ext
    intro v
    rw [tw_mt, or_mt]
    rcases Nat.lt_or_ge v 32 with c | c
    · have := h v c; omega
    · have h1 : ¬ hv (orTo R n) v := fun d => by have := hv_lt d; omega
      have h2 : ¬ hv (twTo R n) v := fun d => by have := hv_lt d; omega
      rw [or_mt] at h1
      rw [tw_mt] at h2
      exact ⟨fun d => absurd d h2, fun d => absurd d h1⟩

structure KnotP (E R : List (BitVec 32)) : Prop where
  some : 0 < R.length
  nz : ∀ i, i < R.length → ed R i ≠ 0#32
  anti : ∀ i j, i < R.length → j < R.length → i ≠ j → subB (ed R i) (ed R j) = false
  twice : ∀ v, v < 32 → mt R R.length v ≠ 1
  edge : ∀ i, i < R.length → ∃ j, j < E.length ∧ ed E j &&& orTo R R.length = ed R i
  part : ∀ j, j < E.length → ∃ i, i < R.length ∧ subB (ed E j &&& orTo R R.length) (ed R i) = true
theorem inR_or (R : List (BitVec 32)) (v : Nat) : inR R v ↔ hv (orTo R R.length) v := by
  rw [hv_orTo]
  constructor
  · rintro ⟨a, ha, h⟩
    obtain ⟨i, hi, rfl⟩ := mem_ed ha
    exact ⟨i, hi, h⟩
  · rintro ⟨i, hi, h⟩
    exact ⟨_, ed_mem R i hi, h⟩
theorem KnotP.knot {E R : List (BitVec 32)} (h : KnotP E R) : Knot E R := by
  refine ⟨?_, fun i j hi hj hs => ?_, fun v hvR => ?_, fun a ha => ?_, fun j hj => ?_⟩
  · have h0 := h.nz 0 h.some
    rw [Ne, eq_zero_iff, Classical.not_forall] at h0
    obtain ⟨v, hh⟩ := h0
    exact ⟨v, _, ed_mem R 0 h.some, Classical.not_not.1 hh⟩
  · apply Classical.byContradiction
    intro c
    have := h.anti i j hi hj c
    rw [(subB_iff _ _).2 hs] at this
    cases this
  · have h1 := (or_mt R v R.length).1 ((inR_or R v).1 hvR)
    have h2 := h.twice v (by obtain ⟨a, _, hh⟩ := hvR; exact hv_lt hh)
    apply Classical.byContradiction
    intro c
    have h3 : mt R R.length v ≤ 1 := cntB_one fun i j hi hj a b => Classical.byContradiction fun d => c ⟨i, j, hi, hj, d, a, b⟩
    omega
  · obtain ⟨i, hi, rfl⟩ := mem_ed ha
    obtain ⟨j, hj, e⟩ := h.edge i hi
    exact ⟨j, hj, fun v => by rw [← e, hv_and, inR_or]⟩
  · obtain ⟨i, hi, hs⟩ := h.part j hj
    exact ⟨i, hi, fun v h1 h2 => (subB_iff _ _).1 hs v ((hv_and _ _ _).2 ⟨h1, (inR_or R v).1 h2⟩)⟩

/-! ### A free path -/
def nx (n i : Nat) : Nat := if i + 1 < n then i + 1 else 0
def pr (a b : Nat) : BitVec 32 := 1#32 <<< a ||| 1#32 <<< b
theorem hv_shl1 {a : Nat} (ha : a < 32) (v : Nat) : hv (1#32 <<< a) v ↔ v = a := by
  unfold hv
  rw [BitVec.getLsbD_shiftLeft]
  constructor
  · intro h
    simp at h
    obtain ⟨⟨h1, h2⟩, h3⟩ := h
    omega
  · rintro rfl
    simp [ha]
theorem hv_pr {a b : Nat} (ha : a < 32) (hb : b < 32) (v : Nat) : hv (pr a b) v ↔ v = a ∨ v = b := by
  unfold pr
  rw [hv_or, hv_shl1 ha, hv_shl1 hb]
theorem ed_wrow (n : Nat) (f : Nat → BitVec 32) {i : Nat} (h : i < n) : ed (wrow n f) i = f i := by
  unfold ed wrow
  simp [List.getD, h]
theorem free_knot {E : List (BitVec 32)} {h : BitVec 32} {n : Nat} {f : Nat → Nat} (hn : 3 ≤ n) (hlt : ∀ i, i < n → f i < 32) (inj : ∀ i j, i < n → j < n → f i = f j → i = j)
    (hh : ∀ i, i < n → (hv h (f i) ↔ i = 0 ∨ i + 1 = n)) (adj : ∀ i j, j < i → i < n → ((∃ e ∈ E, hv e (f j) ∧ hv e (f i)) ↔ j + 1 = i)) : ∃ R, Knot (E ++ [h]) R := by
  have hl : (E ++ [h]).length = E.length + 1 := by simp
  let R := wrow n fun i => pr (f i) (f (nx n i))
  have hR : R.length = n := wrow_length n _
  have nxl : ∀ i, i < n → nx n i < n := fun i hi => by unfold nx; split <;> omega
  have hRv : ∀ i, i < n → ∀ v, hv (ed R i) v ↔ v = f i ∨ v = f (nx n i) := fun i hi v => by
    show hv (ed (wrow n _) i) v ↔ _
    rw [ed_wrow n _ hi]
    exact hv_pr (hlt i hi) (hlt _ (nxl i hi)) v
  have hin : ∀ v, inR R v ↔ ∃ i, i < n ∧ v = f i := fun v => by
    constructor
    · rintro ⟨a, ha, hv1⟩
      obtain ⟨i, hi, rfl⟩ := mem_ed ha
      rw [hR] at hi
      rcases (hRv i hi v).1 hv1 with e | e
      · exact ⟨i, hi, e⟩
      · exact ⟨_, nxl i hi, e⟩
    · rintro ⟨i, hi, e⟩
      exact ⟨_, ed_mem R i (by omega), (hRv i hi v).2 (.inl e)⟩
  -- two vertices of an edge stand beside each other
  have beside : ∀ e ∈ E, ∀ i j, i < n → j < n → hv e (f i) → hv e (f j) → i = j ∨ i + 1 = j ∨ j + 1 = i := fun e he i j hi hj a b => by
    rcases Nat.lt_trichotomy i j with c | c | c
    · exact .inr (.inl ((adj j i c hj).1 ⟨e, he, a, b⟩))
    · exact .inl c
    · exact .inr (.inr ((adj i j c hi).1 ⟨e, he, b, a⟩))
  refine ⟨R, ⟨f 0, (hin _).2 ⟨0, by omega, rfl⟩⟩, fun i j hi hj hs => ?_, fun v hvR => ?_, fun a ha => ?_, fun j hj => ?_⟩
  · rw [hR] at hi hj
    have h1 := (hRv j hj _).1 (hs _ ((hRv i hi _).2 (.inl rfl)))
    have h2 := (hRv j hj _).1 (hs _ ((hRv i hi _).2 (.inr rfl)))
    have h1' : i = j ∨ i = nx n j := h1.imp (inj i j hi hj) (inj i _ hi (nxl j hj))
    have h2' : nx n i = j ∨ nx n i = nx n j := h2.imp (inj _ j (nxl i hi) hj) (inj _ _ (nxl i hi) (nxl j hj))
    unfold nx at h1' h2'
    split at h1' <;> split at h2' <;> omega
  · obtain ⟨i, hi, rfl⟩ := (hin v).1 hvR
    have hp : (if i = 0 then n - 1 else i - 1) < n := by split <;> omega
    have hpn : nx n (if i = 0 then n - 1 else i - 1) = i := by unfold nx; split <;> split <;> omega
    refine ⟨i, if i = 0 then n - 1 else i - 1, by omega, by omega, by split <;> omega, (hRv i hi _).2 (.inl rfl), (hRv _ hp _).2 (.inr (by rw [hpn]))⟩
  · obtain ⟨i, hi, rfl⟩ := mem_ed ha
    rw [hR] at hi
    by_cases c : i + 1 < n
    · have hnx : nx n i = i + 1 := if_pos c
      obtain ⟨e, he, a1, a2⟩ := (adj (i + 1) i (by omega) c).2 rfl
      obtain ⟨j, hj, rfl⟩ := mem_ed he
      refine ⟨j, by omega, fun v => ?_⟩
      rw [ed_app, if_pos hj, hRv i hi, hnx, hin]
      constructor
      · rintro (rfl | rfl)
        · exact ⟨a1, i, hi, rfl⟩
        · exact ⟨a2, i + 1, c, rfl⟩
      · rintro ⟨b, k, hk, rfl⟩
        rcases beside _ he k i hk hi b a1 with d | d | d
        · exact .inl (by rw [d])
        · rcases beside _ he k (i + 1) hk c b a2 with d2 | d2 | d2 <;> omega
        · exact .inr (by rw [d])
    · have hnx : nx n i = 0 := if_neg c
      refine ⟨E.length, by omega, fun v => ?_⟩
      rw [ed_app, if_neg (Nat.lt_irrefl _), if_pos rfl, hRv i hi, hnx, hin]
      constructor
      · rintro (rfl | rfl)
        · exact ⟨(hh i hi).2 (.inr (by omega)), i, hi, rfl⟩
        · exact ⟨(hh 0 (by omega)).2 (.inl rfl), 0, by omega, rfl⟩
      · rintro ⟨b, k, hk, rfl⟩
        rcases (hh k hk).1 b with d | d
        · exact .inr (by rw [d])
        · exact .inl (by rw [show k = i by omega])
  · rw [hl] at hj
    by_cases c : j < E.length
    · rw [ed_app, if_pos c]
      have he := ed_mem E j c
      by_cases h2 : ∃ k, k + 1 < n ∧ hv (ed E j) (f k) ∧ hv (ed E j) (f (k + 1))
      · obtain ⟨k, hk, a1, a2⟩ := h2
        have hnx : nx n k = k + 1 := if_pos hk
        refine ⟨k, by omega, fun v b hvR => ?_⟩
        obtain ⟨m, hm, rfl⟩ := (hin v).1 hvR
        rw [hRv k (by omega), hnx]
        rcases beside _ he m k hm (by omega) b a1 with d | d | d
        · exact .inl (by rw [d])
        · rcases beside _ he m (k + 1) hm hk b a2 with d2 | d2 | d2 <;> omega
        · exact .inr (by rw [d])
      · by_cases h3 : ∃ k, k < n ∧ hv (ed E j) (f k)
        · obtain ⟨k, hk, a1⟩ := h3
          refine ⟨k, by omega, fun v b hvR => ?_⟩
          obtain ⟨m, hm, rfl⟩ := (hin v).1 hvR
          rw [hRv k hk]
          rcases beside _ he m k hm hk b a1 with d | d | d
          · exact .inl (by rw [d])
          · subst d; exact absurd ⟨m, by omega, b, a1⟩ h2
          · subst d; exact absurd ⟨k, by omega, a1, b⟩ h2
        · refine ⟨0, by omega, fun v b hvR => ?_⟩
          obtain ⟨m, hm, rfl⟩ := (hin v).1 hvR
          exact absurd ⟨m, hm, b⟩ h3
    · rw [ed_app, if_neg c, if_pos (by omega)]
      refine ⟨n - 1, by omega, fun v b hvR => ?_⟩
      obtain ⟨m, hm, rfl⟩ := (hin v).1 hvR
      have hnx : nx n (n - 1) = 0 := if_neg (by omega)
      rw [hRv (n - 1) (by omega), hnx]
      rcases (hh m hm).1 b with d | d
      · exact .inr (by rw [d])
      · exact .inl (by rw [show m = n - 1 by omega])
end Go.Proofs.YtbgbjodehbcgiaaDoor

/- The contracts of classify.CheckRest and osierref17.CheckRest. -/
namespace Go.Proofs.YtbgbjodehbcgiaaDoor
open Go.RowKit
attribute [local go_sem ↓] uz_and uz_or uz_andNot uz_and_one uz_shr uz_shl_one uz_shl uz_sub uz_sub_one uz_add uz_beq_zero uz_bne_zero uz_beq uz_bne uz_beq_one

theorem rd_take {w : World} {B : Nat} {A : Option Addr} {R : List (BitVec 32)} (h : Rd w B A (us R)) (k : Nat) : Rd w B A (us (R.take k)) := by
  intro i hi
  have hi' : i < (us R).length := by simp [us] at hi ⊢; omega
  obtain ⟨ad, e, hb, hc⟩ := h i hi'
  exact ⟨ad, e, hb, by rw [hc]; simp [us]⟩
theorem take_any_ed {R : List (BitVec 32)} {k : Nat} (hk : k ≤ R.length) (p : BitVec 32 → Bool) : (R.take k).any p = true ↔ ∃ j, j < k ∧ p (ed R j) = true := by
  rw [List.any_eq_true]
  constructor
  · rintro ⟨x, hx, h⟩
    obtain ⟨j, hj, rfl⟩ := List.mem_take_iff_getElem.1 hx
    exact ⟨j, by omega, by rw [← ed_eq R j (by omega)]; exact h⟩
  · rintro ⟨j, hj, h⟩
    exact ⟨ed R j, List.mem_take_iff_getElem.2 ⟨j, by omega, ed_eq R j (by omega)⟩, h⟩
theorem any_ed {R : List (BitVec 32)} (p : BitVec 32 → Bool) : R.any p = true ↔ ∃ j, j < R.length ∧ p (ed R j) = true := by
  have := take_any_ed (R := R) (Nat.le_refl _) p
  rwa [List.take_length] at this
def bothSub (s t : BitVec 32) : Bool := (s &&& ~~~t == 0#32) || (t &&& ~~~s == 0#32)
def onTo (x s e : BitVec 32) : Bool := e &&& x == s
def inTo (x e s : BitVec 32) : Bool := (e &&& x) &&& ~~~s == 0#32

/-! ### The closures -/
/-- What CheckRest answers. -/
def CRIs (V : Int) (E R : List (BitVec 32)) (ok : Bool) : Prop := ok = true ↔ validB V E = true ∧ KnotP E R
theorem cri_no {V : Int} {E R : List (BitVec 32)} (h : ¬ (validB V E = true ∧ KnotP E R)) : CRIs V E R false := ⟨fun z => (by cases z), fun z => absurd z h⟩
theorem cri_yes {V : Int} {E R : List (BitVec 32)} (h : validB V E = true ∧ KnotP E R) : CRIs V E R true := ⟨fun _ => h, fun _ => rfl⟩
def firstTo (R : List (BitVec 32)) (k : Nat) : Prop := ∀ i, i < k → ed R i ≠ 0#32 ∧ ∀ j, j < i → bothSub (ed R i) (ed R j) = false
theorem firstTo_knot {E R : List (BitVec 32)} (h : KnotP E R) : firstTo R R.length := fun i hi => ⟨h.nz i hi, fun j hj => by
  have h1 := h.anti i j hi (by omega) (by omega)
  have h2 := h.anti j i (by omega) hi (by omega)
  unfold bothSub; unfold subB at h1 h2; rw [h1, h2]; rfl⟩
theorem firstTo_anti {R : List (BitVec 32)} (h : firstTo R R.length) : ∀ i j, i < R.length → j < R.length → i ≠ j → subB (ed R i) (ed R j) = false := fun i j hi hj hij => by
  unfold subB
  rcases Nat.lt_or_ge j i with c | c
  · have := (h i hi).2 j c
    unfold bothSub at this
    rw [Bool.or_eq_false_iff] at this
    exact this.1
  · have := (h j hj).2 i (by omega)
    unfold bothSub at this
    rw [Bool.or_eq_false_iff] at this
    exact this.2

end Go.Proofs.YtbgbjodehbcgiaaDoor

/- The contract of osierref17.CheckRest. -/
namespace Go.Proofs.YtbgbjodehbcgiaaDoor
open Go.RowKit
attribute [local go_sem ↓] uz_and uz_or uz_andNot uz_and_one uz_shr uz_shl_one uz_shl uz_sub uz_sub_one uz_add uz_beq_zero uz_bne_zero uz_beq uz_bne uz_beq_one

def antiTo (R : List (BitVec 32)) (k : Nat) : Prop := ∀ i, i < k → ed R i ≠ 0#32 ∧ ∀ j, j < R.length → i ≠ j → subB (ed R i) (ed R j) = false
theorem take_any_succ {E : List (BitVec 32)} {q : Nat} (hq : q < E.length) (p : BitVec 32 → Bool) : (E.take (q + 1)).any p = ((E.take q).any p || p (ed E q)) := by
  rw [List.take_succ_eq_append_getElem hq, ed_eq E q hq]; simp

set_option maxHeartbeats 40000000 in
set_option maxRecDepth 100000 in
theorem r17checkRest_any (V : Int) (A : Option Addr) (E : List (BitVec 32)) (c : Nat) (A' : Option Addr) (R : List (BitVec 32)) (c' : Nat) (w : World) (hl : E.length ≤ 35184372087808) (hE : Rd w w.heap.size A (us E)) (hl' : R.length ≤ 35184372087808) (hR : Rd w w.heap.size A' (us R)) :
    Calls Tryd.prog 23 #[.agg #[.int .i64 V, .slice A E.length c], .slice A' R.length c'] w fun e w' => ∃ ok : Bool, e = .returned (.bool ok) ∧ Hid (CRIs V E R ok) ∧ Below w.heap.size w w' := by
  go_enter Tryd.func23, Tryd.ntmps23
  go_wp2_with fail
  have hb0 := below_alloc w (.cells #[.int .i64 V, .slice A E.length c] 28)
  have hG0 : Row (w.alloc (.cells #[.int .i64 V, .slice A E.length c] 28)) w.heap.size 28 [.int .i64 V, .slice A E.length c] := Row.new _ _ _
  generalize w.alloc _ = w0 at hb0 hG0 ⊢
  refine (r14valid_any V A E c _ hl (hE.later hb0)).mono ?_
  rintro e w1 ⟨rfl, hb1⟩
  have hB1 := bthen hb0 hb1
  have hG1 := hG0.later hb1
  have hE1 := hE.later hB1
  have hR1 := hR.later hB1
  clear hb0 hb1 hG0 hE hR
  cases hv : validB V E
  · have HC : Hid (CRIs V E R false) := Lib.hid (cri_no fun h => by rw [hv] at h; cases h.1)
    clear hv
    go_wp2_with fail
    refine bodyPost_ret (v := .bool false) (by simp [results, Tryd.results23, go_sem]) rfl ?_
    exact ⟨false, rfl, HC, hB1⟩
  · by_cases h0 : R.length = 0
    · have e0 : ((R.length : Int) == 0) = true := by simp [h0]
      have HC : Hid (CRIs V E R false) := Lib.hid (cri_no fun h => by have := h.2.some; omega)
      clear h0 hv
      go_wp2_with fail
      refine bodyPost_ret (v := .bool false) (by simp [results, Tryd.results23, go_sem]) rfl ?_
      exact ⟨false, rfl, HC, hB1⟩
    · have e0 : ((R.length : Int) == 0) = false := by rw [beq_eq_false_iff_ne]; omega
      have HV := Lib.hid hv
      have HF : Hid (¬ KnotP E R → CRIs V E R false) := Lib.hid fun h => cri_no fun z => h z.2
      have HT : Hid (KnotP E R → CRIs V E R true) := Lib.hid fun h => cri_yes ⟨HV.out, h⟩
      have HP : Hid (0 < R.length) := Lib.hid (by omega)
      have HG : Hid (∀ x, Below w1.heap.size w1 x → x.cell? ⟨w.heap.size, 1, none⟩ = some (.slice A E.length c)) := Lib.hid fun x hx => (hG1.later hx).cell 1
      have HEr : Hid (∀ x, Below w1.heap.size w1 x → Rd x w1.heap.size A (us E)) := Lib.hid fun x hx => hE1.below hx
      have HRr : Hid (∀ x, Below w1.heap.size w1 x → Rd x w1.heap.size A' (us R)) := Lib.hid fun x hx => hR1.below hx
      clear h0 hv hG1 hE1 hR1
      go_wp2_with fail
      go_loopw [5, 6] (fun s i wr => ∃ k : Nat, k ≤ R.length ∧ i = .int .i64 k ∧ s = .int .u32 (uz (orTo R k)) ∧ Hid (antiTo R k) ∧ Below w1.heap.size w1 wr) (fun _ i _ => R.length - (intOf i).toNat)
      case atStart => exact ⟨0, Nat.zero_le _, rfl, rfl, Lib.hid fun i hi => absurd hi (Nat.not_lt_zero _), Below.refl _ _⟩
      case round =>
        obtain ⟨k, hk, rfl, rfl, hno, hb⟩ := hrel
        by_cases hlt : k < R.length
        · obtain ⟨ad, hA, _, hc⟩ := (HRr.out _ hb).e_at hlt
          subst hA
          have b1 : (0 : Int) ≤ k := by omega
          have b2 : (k : Int) < R.length := by omega
          cases hz : (ed R k == 0#32)
          · have HNE : Hid (ed R k ≠ 0#32) := Lib.hid (by simpa using hz)
            have HSN : Hid (∀ m, m < R.length → k ≠ m → subB (ed R k) (ed R m) = true → ¬ KnotP E R) := Lib.hid fun m hm hne h hK => by
              rw [hK.anti k m hlt hm hne] at h; cases h
            have HNX : Hid ((∀ j, j < R.length → k ≠ j → subB (ed R k) (ed R j) = false) → antiTo R (k + 1)) := Lib.hid fun h i hi => by
              rcases Nat.lt_or_ge i k with d | d
              · exact hno.out i d
              · obtain rfl : i = k := by omega
                exact ⟨HNE.out, h⟩
            have HO : Hid (orTo R (k + 1) = orTo R k ||| ed R k) := Lib.hid rfl
            generalize hzk : ed R k = z at hc hz HO HSN HNX HNE
            generalize orTo R k = s at HO ⊢
            clear hno HNE
            have HZK := Lib.hid hzk
            clear hzk
            go_wp2_with fail
            go_loopg [7] R.length (fun gk j wr => ∃ m : Nat, m ≤ R.length ∧ gk = R.length - m ∧ j = .int .i64 m ∧ Hid (∀ j, j < m → k ≠ j → subB z (ed R j) = false) ∧ Below w1.heap.size w1 wr)
            case atStart => exact ⟨0, Nat.zero_le _, rfl, rfl, Lib.hid fun j hj => absurd hj (Nat.not_lt_zero _), hb⟩
            clear hb hc
            case round =>
              obtain ⟨m, hm, rfl, rfl, hin, hb⟩ := hrel
              by_cases hltm : m < R.length
              · obtain ⟨ad2, hA2, _, hc2⟩ := (HRr.out _ hb).e_at hltm
                obtain rfl : ad = ad2 := by injection hA2
                obtain ⟨ad3, hA3, _, hc⟩ := (HRr.out _ hb).e_at hlt
                obtain rfl : ad = ad3 := by injection hA3
                rw [HZK.out] at hc
                have b3 : (0 : Int) ≤ m := by omega
                have b4 : (m : Int) < R.length := by omega
                by_cases hkm : k = m
                · have hne : ((k : Int) != (m : Int)) = false := by simp [hkm]
                  have HN : Hid (∀ j, j < m + 1 → k ≠ j → subB z (ed R j) = false) := Lib.hid fun j hj hkj => hin.out j (by omega) hkj
                  clear hkm hin hc2
                  go_wp2_with fail
                  go_quiet (fail)
                  go_wp2_with fail
                  go_roundg (R.length - (m + 1))
                  case measure => omega
                  case rel => exact ⟨m + 1, by omega, rfl, by go_num, HN, below_drewN hb _⟩
                · have hne : ((k : Int) != (m : Int)) = true := by rw [bne_iff_ne]; omega
                  have HN : Hid (subB z (ed R m) = false → ∀ j, j < m + 1 → k ≠ j → subB z (ed R j) = false) := Lib.hid fun h j hj hkj => by
                    rcases Nat.lt_or_ge j m with d | d
                    · exact hin.out j d hkj
                    · obtain rfl : j = m := by omega
                      exact h
                  have HS := Lib.hid (HSN.out m hltm hkm)
                  generalize ed R m = y at hc2 HN HS
                  clear hkm hin
                  cases hs : subB z y
                  · have HX := Lib.hid (HN.out hs)
                    clear HN HS
                    go_wp2_with fail
                    go_quiet (first | (go_at_call 66; exact pure_quiet (within_any z y)))
                    go_wp2_with fail
                    go_roundg (R.length - (m + 1))
                    case measure => omega
                    case rel => exact ⟨m + 1, by omega, rfl, by go_num, HX, below_drewN hb _⟩
                  · have HC := Lib.hid (HF.out (HS.out hs))
                    clear HN HS
                    go_wp2_with fail
                    go_quiet (first | (go_at_call 66; exact pure_quiet (within_any z y)))
                    go_wp2_with fail
                    refine bodyPost_ret (v := .bool false) (by simp [results, Tryd.results23, go_sem]) rfl ?_
                    exact ⟨false, rfl, HC, hB1.trans ((below_drewN hb _).mono hB1.size)⟩
              · obtain rfl : m = R.length := by omega
                obtain ⟨ad3, hA3, _, hc⟩ := (HRr.out _ hb).e_at hlt
                obtain rfl : ad = ad3 := by injection hA3
                rw [HZK.out] at hc
                have HX := Lib.hid (HNX.out fun j hj hkj => hin.out j hj hkj)
                have HAD := Lib.hid (add_less s z)
                clear hin HSN HNX
                go_wp2_with (go_at_call 57; refine (r14less_any _ _ _).mono ?_; rintro e w' ⟨rfl, rfl⟩)
                go_roundw
                case measure => simp [intOf]; omega
                case rel => exact ⟨k + 1, by omega, by go_num, by rw [HO.out, ← HAD.out], HX, hb⟩
          · have HC := Lib.hid (HF.out fun hK => hK.nz k hlt (by simpa using hz))
            generalize ed R k = z at hc hz
            clear hno
            go_wp2_with fail
            refine bodyPost_ret (v := .bool false) (by simp [results, Tryd.results23, go_sem]) rfl ?_
            exact ⟨false, rfl, HC, hB1.trans (hb.mono hB1.size)⟩
        · obtain rfl : k = R.length := by omega
          have HFA := Lib.hid (fun i hi => (hno.out i hi).1)
          have HFB := Lib.hid (fun i j hi hj hij => (hno.out i hi).2 j hj hij)
          have HFIN : Hid ((∀ v, v < 32 → mt R R.length v ≠ 1) → (∀ i, i < R.length → E.any (onTo (orTo R R.length) (ed R i)) = true) → (∀ j, j < E.length → R.any (inTo (orTo R R.length) (ed E j)) = true) → KnotP E R) := Lib.hid fun h1 h2 h3 =>
            ⟨HP.out, HFA.out, HFB.out, h1, fun i hi => by
              obtain ⟨j, hj, e⟩ := (any_ed _).1 (h2 i hi)
              exact ⟨j, hj, by unfold onTo at e; simpa using e⟩, fun j hj => by
              obtain ⟨i, hi, e⟩ := (any_ed _).1 (h3 j hj)
              exact ⟨i, hi, by unfold inTo at e; unfold subB; exact e⟩⟩
          have HMN : Hid (∀ v, v < 32 → mt R R.length v = 1 → ¬ KnotP E R) := Lib.hid fun v hv h hK => hK.twice v hv h
          have HEN : Hid (∀ i, i < R.length → E.any (onTo (orTo R R.length) (ed R i)) = false → ¬ KnotP E R) := Lib.hid fun i hi h hK => by
            obtain ⟨j, hj, e⟩ := hK.edge i hi
            rw [(any_ed _).2 ⟨j, hj, by unfold onTo; rw [e]; simp⟩] at h
            cases h
          have HPN : Hid (∀ j, j < E.length → R.any (inTo (orTo R R.length) (ed E j)) = false → ¬ KnotP E R) := Lib.hid fun j hj h hK => by
            obtain ⟨i, hi, e⟩ := hK.part j hj
            rw [(any_ed _).2 ⟨i, hi, by unfold inTo; unfold subB at e; exact e⟩] at h
            cases h
          generalize orTo R R.length = x at HFIN HEN HPN ⊢
          clear hno HFA HFB
          go_wp2_with fail
          go_loopw [8] (fun i wr => ∃ v : Nat, v ≤ 32 ∧ i = .int .i64 v ∧ Hid (∀ u, u < v → mt R R.length u ≠ 1) ∧ Below w1.heap.size w1 wr) (fun i _ => 32 - (intOf i).toNat)
          case atStart => exact ⟨0, Nat.zero_le _, rfl, Lib.hid fun i hi => absurd hi (Nat.not_lt_zero _), hb⟩
          clear hb
          case round =>
            obtain ⟨v, hv32, rfl, hno, hb⟩ := hrel
            by_cases hlv : v < 32
            · have b0 : (v : Int) < 32 := by omega
              go_wp2_with fail
              go_loopw [9, 10] (fun n i wr => ∃ q : Nat, q ≤ R.length ∧ i = .int .i64 q ∧ n = .int .i64 (mt R q v : Nat) ∧ Below w1.heap.size w1 wr) (fun _ i _ => R.length - (intOf i).toNat)
              case atStart => exact ⟨0, Nat.zero_le _, rfl, rfl, hb⟩
              clear hb
              case round =>
                obtain ⟨q, hq, rfl, rfl, hb⟩ := hrel
                by_cases hlq : q < R.length
                · obtain ⟨ad, hA, _, hc⟩ := (HRr.out _ hb).e_at hlq
                  subst hA
                  have hcl : mt R q v ≤ q := cntB_le _ _
                  have HM : Hid (mt R (q + 1) v = mt R q v + if (ed R q).getLsbD v then 1 else 0) := Lib.hid rfl
                  have i1 := inB_nat (ed R q) v
                  generalize (ed R q).getLsbD v = pv at HM i1
                  generalize ed R q = z at hc i1
                  generalize mt R q v = n at hcl HM ⊢
                  have b3 : (0 : Int) ≤ q := by omega
                  have b4 : (q : Int) < R.length := by omega
                  cases pv
                  · have HN : Hid (mt R (q + 1) v = n) := Lib.hid HM.out
                    clear HM
                    go_wp2_with fail
                    refine (in_any _ _ _).mono ?_
                    rintro e w' ⟨rfl, rfl⟩
                    go_wp2_with fail
                    go_roundw
                    case rel =>
                      exact ⟨q + 1, by omega, by go_num, by rw [HN.out], hb⟩
                    case measure => simp [intOf]; omega
                  · have HN : Hid (mt R (q + 1) v = n + 1) := Lib.hid HM.out
                    clear HM
                    go_wp2_with fail
                    refine (in_any _ _ _).mono ?_
                    rintro e w' ⟨rfl, rfl⟩
                    go_wp2_with fail
                    go_roundw
                    case rel =>
                      exact ⟨q + 1, by omega, by go_num, by rw [HN.out]; go_num, hb⟩
                    case measure => simp [intOf]; omega
                · obtain rfl : q = R.length := by omega
                  have HN := Lib.hid (HMN.out v hlv)
                  have HY : Hid (mt R R.length v ≠ 1 → ∀ u, u < v + 1 → mt R R.length u ≠ 1) := Lib.hid fun h u hu => by
                    rcases Nat.lt_or_ge u v with d | d
                    · exact hno.out u d
                    · obtain rfl : u = v := by omega
                      exact h
                  generalize mt R R.length v = n at HN HY ⊢
                  clear hno
                  by_cases h1 : n = 1
                  · have HC := Lib.hid (HF.out (HN.out h1))
                    subst h1
                    clear HN HY
                    go_wp2_with fail
                    refine bodyPost_ret (v := .bool false) (by simp [results, Tryd.results23, go_sem]) rfl ?_
                    exact ⟨false, rfl, HC, hB1.trans (hb.mono hB1.size)⟩
                  · have HX := Lib.hid (HY.out h1)
                    have e1 : ((n : Int) == 1) = false := by rw [beq_eq_false_iff_ne]; omega
                    clear HN HY h1
                    go_wp2_with fail
                    go_roundw
                    case rel => exact ⟨v + 1, by omega, by go_num, HX, hb⟩
                    case measure => simp [intOf]; omega
            · obtain rfl : v = 32 := by omega
              have HFE := Lib.hid (HFIN.out hno.out)
              clear hno HFIN HMN hlv
              go_wp2_with fail
              go_loopw [11] (fun i wr => ∃ k : Nat, k ≤ R.length ∧ i = .int .i64 k ∧ Hid (∀ i, i < k → E.any (onTo x (ed R i)) = true) ∧ Below w1.heap.size w1 wr) (fun i _ => R.length - (intOf i).toNat)
              case atStart => exact ⟨0, Nat.zero_le _, rfl, Lib.hid fun i hi => absurd hi (Nat.not_lt_zero _), hb⟩
              clear hb
              case round =>
                obtain ⟨k, hk, rfl, hno, hb⟩ := hrel
                by_cases hlt : k < R.length
                · have HN := Lib.hid (HEN.out k hlt)
                  have HY : Hid (E.any (onTo x (ed R k)) = true → ∀ i, i < k + 1 → E.any (onTo x (ed R i)) = true) := Lib.hid fun h i hi => by
                    rcases Nat.lt_or_ge i k with d | d
                    · exact hno.out i d
                    · obtain rfl : i = k := by omega
                      exact h
                  have b1 : (0 : Int) ≤ k := by omega
                  have b2 : (k : Int) < R.length := by omega
                  clear hno
                  go_wp2_with fail
                  go_loopw [12, 13] (fun s i wr => ∃ q : Nat, q ≤ E.length ∧ i = .int .i64 q ∧ s = .bool ((E.take q).any (onTo x (ed R k))) ∧ Below w1.heap.size w1 wr) (fun _ i _ => E.length - (intOf i).toNat)
                  case atStart => exact ⟨0, Nat.zero_le _, rfl, by simp, hb⟩
                  clear hb
                  case round =>
                    obtain ⟨q, hq, rfl, rfl, hb⟩ := hrel
                    have d1 := HG.out _ hb
                    by_cases hlq : q < E.length
                    · obtain ⟨ad, hA, _, hc⟩ := (HEr.out _ hb).e_at hlq
                      obtain ⟨ad2, hA2, _, hc2⟩ := (HRr.out _ hb).e_at hlt
                      subst hA hA2
                      have HS : Hid ((E.take (q + 1)).any (onTo x (ed R k)) = ((E.take q).any (onTo x (ed R k)) || (ed E q &&& x == ed R k))) := Lib.hid (take_any_succ hlq _)
                      have b3 : (0 : Int) ≤ q := by omega
                      have b4 : (q : Int) < E.length := by omega
                      generalize (E.take q).any (onTo x (ed R k)) = st at HS ⊢
                      generalize ed E q = y at hc HS
                      generalize ed R k = z at hc2 HS ⊢
                      clear HN HY
                      cases st
                      · have HX : Hid ((E.take (q + 1)).any (onTo x z) = (y &&& x == z)) := Lib.hid (by rw [HS.out]; rfl)
                        clear HS
                        go_wp2_with fail
                        go_quiet (first | (go_at_call 53; exact pure_quiet (both_any y x)))
                        go_wp2_with fail
                        go_roundw
                        case rel => exact ⟨q + 1, by omega, by go_num, by rw [HX.out], below_drewN hb _⟩
                        case measure => simp [intOf]; omega
                      · have HX : Hid ((E.take (q + 1)).any (onTo x z) = true) := Lib.hid (by rw [HS.out]; rfl)
                        clear HS
                        go_wp2_with fail
                        go_quiet (fail)
                        go_wp2_with fail
                        go_roundw
                        case rel => exact ⟨q + 1, by omega, by go_num, by rw [HX.out], below_drewN hb _⟩
                        case measure => simp [intOf]; omega
                    · obtain rfl : q = E.length := by omega
                      rw [List.take_length]
                      generalize E.any (onTo x (ed R k)) = an at HN HY ⊢
                      cases an
                      · have HC := Lib.hid (HF.out (HN.out rfl))
                        clear HN HY
                        go_wp2_with fail
                        refine bodyPost_ret (v := .bool false) (by simp [results, Tryd.results23, go_sem]) rfl ?_
                        exact ⟨false, rfl, HC, hB1.trans (hb.mono hB1.size)⟩
                      · have HX := Lib.hid (HY.out rfl)
                        clear HN HY
                        go_wp2_with fail
                        go_roundw
                        case rel => exact ⟨k + 1, by omega, by go_num, HX, hb⟩
                        case measure => simp [intOf]; omega
                · obtain rfl : k = R.length := by omega
                  have HFP := Lib.hid (HFE.out hno.out)
                  clear hno HFE HEN
                  go_wp2_with fail
                  go_loopw [14] (fun i wr => ∃ k : Nat, k ≤ E.length ∧ i = .int .i64 k ∧ Hid (∀ i, i < k → R.any (inTo x (ed E i)) = true) ∧ Below w1.heap.size w1 wr) (fun i _ => E.length - (intOf i).toNat)
                  case atStart => exact ⟨0, Nat.zero_le _, rfl, Lib.hid fun i hi => absurd hi (Nat.not_lt_zero _), hb⟩
                  clear hb
                  case round =>
                    obtain ⟨k, hk, rfl, hno, hb⟩ := hrel
                    have d1 := HG.out _ hb
                    by_cases hlt : k < E.length
                    · have HN := Lib.hid (HPN.out k hlt)
                      have HY : Hid (R.any (inTo x (ed E k)) = true → ∀ i, i < k + 1 → R.any (inTo x (ed E i)) = true) := Lib.hid fun h i hi => by
                        rcases Nat.lt_or_ge i k with d | d
                        · exact hno.out i d
                        · obtain rfl : i = k := by omega
                          exact h
                      have b1 : (0 : Int) ≤ k := by omega
                      have b2 : (k : Int) < E.length := by omega
                      clear hno
                      go_wp2_with fail
                      clear d1
                      go_loopw [15, 16] (fun s i wr => ∃ q : Nat, q ≤ R.length ∧ i = .int .i64 q ∧ s = .bool ((R.take q).any (inTo x (ed E k))) ∧ Below w1.heap.size w1 wr) (fun _ i _ => R.length - (intOf i).toNat)
                      case atStart => exact ⟨0, Nat.zero_le _, rfl, by simp, hb⟩
                      clear hb
                      case round =>
                        obtain ⟨q, hq, rfl, rfl, hb⟩ := hrel
                        have d1 := HG.out _ hb
                        by_cases hlq : q < R.length
                        · obtain ⟨ad, hA, _, hc⟩ := (HEr.out _ hb).e_at hlt
                          obtain ⟨ad2, hA2, _, hc2⟩ := (HRr.out _ hb).e_at hlq
                          subst hA hA2
                          have HS : Hid ((R.take (q + 1)).any (inTo x (ed E k)) = ((R.take q).any (inTo x (ed E k)) || subB (ed E k &&& x) (ed R q))) := Lib.hid (take_any_succ hlq _)
                          have b3 : (0 : Int) ≤ q := by omega
                          have b4 : (q : Int) < R.length := by omega
                          generalize (R.take q).any (inTo x (ed E k)) = st at HS ⊢
                          generalize ed R q = z at hc2 HS
                          generalize ed E k = y at hc HS ⊢
                          clear HN HY
                          cases st
                          · have HX : Hid ((R.take (q + 1)).any (inTo x y) = subB (y &&& x) z) := Lib.hid (by rw [HS.out]; rfl)
                            clear HS
                            go_wp2_with fail
                            go_quiet (first | (go_at_call 53; exact pure_quiet (both_any y x)) | (go_at_call 66; exact pure_quiet (within_any (y &&& x) z)))
                            go_wp2_with fail
                            go_roundw
                            case rel => exact ⟨q + 1, by omega, by go_num, by rw [HX.out], below_drewN hb _⟩
                            case measure => simp [intOf]; omega
                          · have HX : Hid ((R.take (q + 1)).any (inTo x y) = true) := Lib.hid (by rw [HS.out]; rfl)
                            clear HS
                            go_wp2_with fail
                            go_quiet (fail)
                            go_wp2_with fail
                            go_roundw
                            case rel => exact ⟨q + 1, by omega, by go_num, by rw [HX.out], below_drewN hb _⟩
                            case measure => simp [intOf]; omega
                        · obtain rfl : q = R.length := by omega
                          rw [List.take_length]
                          generalize R.any (inTo x (ed E k)) = an at HN HY ⊢
                          cases an
                          · have HC := Lib.hid (HF.out (HN.out rfl))
                            clear HN HY
                            go_wp2_with fail
                            refine bodyPost_ret (v := .bool false) (by simp [results, Tryd.results23, go_sem]) rfl ?_
                            exact ⟨false, rfl, HC, hB1.trans (hb.mono hB1.size)⟩
                          · have HX := Lib.hid (HY.out rfl)
                            clear HN HY
                            go_wp2_with fail
                            go_roundw
                            case rel => exact ⟨k + 1, by omega, by go_num, HX, hb⟩
                            case measure => simp [intOf]; omega
                    · obtain rfl : k = E.length := by omega
                      have HC := Lib.hid (HT.out (HFP.out hno.out))
                      go_wp2_with fail
                      refine bodyPost_ret (v := .bool true) (by simp [results, Tryd.results23, go_sem]) rfl ?_
                      exact ⟨true, rfl, HC, hB1.trans (hb.mono hB1.size)⟩
end Go.Proofs.YtbgbjodehbcgiaaDoor

/- The induced graph and the neighbours: what hyper.Induced and the reference's Induced, Neighbours, Same answer. -/
namespace Go.Proofs.YtbgbjodehbcgiaaDoor
open Go.RowKit

attribute [local go_sem ↓] uz_and uz_or uz_andNot uz_and_one uz_shr uz_shl_one uz_shl uz_sub uz_sub_one uz_add uz_beq_zero uz_bne_zero uz_beq uz_bne uz_beq_one
attribute [local go_sem ↓] Go.wp_at_zero Go.wp_at_succ

theorem own_far {w : World} {base : Nat} {e : TypeId} {size : Nat} {v : Value} {n : Nat} {xs : List Value} (h : w.ownsRow base e size v n xs) (p : Addr) (hp : p.block < base) (u : Value) : (w.setCell p u).ownsRow base e size v n xs := by
  refine ⟨h.1, ?_⟩
  rcases h.2 with h2 | ⟨g, cap, cur, hv, hg, hh, r⟩
  · exact .inl h2
  · exact .inr ⟨g, cap, cur, hv, hg, (Below.heap_setCell w p u g (by omega)).trans hh, r⟩

/-- What Induced answers. -/
def IndIs (V : Int) (E : List (BitVec 32)) (set : BitVec 32) (V' : Int) (F : List (BitVec 32)) (code : Int) : Prop :=
  (validB V E = false ∧ V' = 0 ∧ F = [] ∧ code = 140) ∨ (validB V E = true ∧ V' = V ∧ F = E.map (· &&& set) ∧ code = 0)
theorem indIs_uniq {V : Int} {E : List (BitVec 32)} {s : BitVec 32} {V1 V2 : Int} {F G : List (BitVec 32)} {a b : Int} (h : IndIs V E s V1 F a) (k : IndIs V E s V2 G b) : V1 = V2 ∧ F = G ∧ a = b := by
  rcases h with ⟨h1, rfl, rfl, rfl⟩ | ⟨h1, rfl, rfl, rfl⟩ <;> rcases k with ⟨k1, rfl, rfl, rfl⟩ | ⟨k1, rfl, rfl, rfl⟩ <;> simp_all
theorem indIs_len {V : Int} {E : List (BitVec 32)} {s : BitVec 32} {V1 : Int} {F : List (BitVec 32)} {a : Int} (h : IndIs V E s V1 F a) : F.length ≤ 7 := by
  rcases h with ⟨h1, rfl, rfl, rfl⟩ | ⟨h1, rfl, rfl, rfl⟩
  · exact Nat.zero_le _
  · rw [List.length_map]; exact (validB_of h1).2.2.1

/-- The first k edges cut to the set. -/
def mixd (set : BitVec 32) (E : List (BitVec 32)) (k : Nat) : List (BitVec 32) := (E.take k).map (· &&& set) ++ E.drop k
theorem mixd_all (set : BitVec 32) (E : List (BitVec 32)) : mixd set E E.length = E.map (· &&& set) := by simp [mixd]
theorem mixd_at (set : BitVec 32) (E : List (BitVec 32)) (k : Nat) (h : k < E.length) : (us (mixd set E k))[k]? = some (.int .u32 (uz (ed E k))) := by
  unfold us mixd
  rw [List.getElem?_map, List.getElem?_append_right (by simp; omega)]
  simp [ed, h, Nat.min_eq_left (Nat.le_of_lt h)]
theorem mixd_set (set : BitVec 32) (E : List (BitVec 32)) (k : Nat) (h : k < E.length) : (us (mixd set E k)).set k (.int .u32 (uz (ed E k &&& set))) = us (mixd set E (k + 1)) := by
  unfold us
  rw [← List.map_set]
  congr 1
  unfold mixd
  rw [List.set_append_right _ _ (by simp; omega), take_snoc E k h, ed_eq E k h, show E.drop k = ed E k :: E.drop (k + 1) by rw [← ed_eq E k h]; exact List.drop_eq_getElem_cons h,
    show k - ((E.take k).map (· &&& set)).length = 0 by simp [Nat.min_eq_left (Nat.le_of_lt h)], List.map_append, List.append_assoc]
  rfl

/-! ### Neighbours, Same -/
theorem nearS_sub {V : Int} {E : List (BitVec 32)} (hv : validB V E = true) (v u : Nat) (h : (nearS E v).getLsbD u = true) : (u : Int) < V := by
  have h1 := (nearS_iff E v u).1 h
  obtain ⟨_, e, he, _, hu⟩ := h1
  obtain ⟨h0, h30, _, ho⟩ := validB_of hv
  have h2 := List.any_eq_false.1 ho e he
  rcases Int.lt_or_le (u : Int) V with h3 | h3
  · exact h3
  · exact absurd (outB_true_of (k := u) h0 h30 h3 (by rw [inB_nat]; exact hu)) h2
theorem near_sum {V : Int} {E : List (BitVec 32)} (hv : validB V E = true) (v : Nat) : lows (nearS E v) V.toNat = nearS E v := by
  obtain ⟨h0, h30, _, _⟩ := validB_of hv
  apply BitVec.eq_of_getLsbD_eq
  intro i hi
  rw [getLsbD_lows _ _ (by omega)]
  cases h : (nearS E v).getLsbD i
  · simp
  · have := nearS_sub hv v i h
    simp; omega
theorem nearB_nearS (E : List (BitVec 32)) (v u : Nat) : inB (nearS E v) u = nearB E v u := by
  rw [inB_nat, Bool.eq_iff_iff, nearS_iff, nearB_iff]

/-- Are the graphs equal? -/
def sameG (V V' : Int) (E E' : List (BitVec 32)) : Bool := V == V' && E == E'
theorem same_any (V V' : Int) (A A' : Option Addr) (E E' : List (BitVec 32)) (c c' : Nat) (w : World) (hl : E.length ≤ 35184372087808) (_hl' : E'.length ≤ 35184372087808) (hE : Rd w w.heap.size A (us E)) (hE' : Rd w w.heap.size A' (us E')) :
    Calls Tryd.prog 13 #[.agg #[.int .i64 V, .slice A E.length c], .agg #[.int .i64 V', .slice A' E'.length c']] w fun e w' => e = .returned (.bool (sameG V V' E E')) ∧ Below w.heap.size w w' := by
  by_cases hV : V = V'
  · subst hV
    by_cases hlen : E.length = E'.length
    · have HL := Lib.hid hlen
      have hne : ((E.length : Int) != (E'.length : Int)) = false := by simp [hlen]
      clear hlen
      go_enter Tryd.func13, Tryd.ntmps13
      go_wp2_with fail
      have hb0 : Below w.heap.size w ((w.alloc (.cells #[.int .i64 V, .slice A E.length c] 28)).alloc (.cells #[.int .i64 V, .slice A' E'.length c'] 28)) := (below_alloc w _).alloc (by simp) _
      have c1 : ((w.alloc (.cells #[.int .i64 V, .slice A E.length c] 28)).alloc (.cells #[.int .i64 V, .slice A' E'.length c'] 28)).cell? ⟨w.heap.size, 1, none⟩ = some (.slice A E.length c) := by simp
      have c2 : ((w.alloc (.cells #[.int .i64 V, .slice A E.length c] 28)).alloc (.cells #[.int .i64 V, .slice A' E'.length c'] 28)).cell? ⟨w.heap.size + 1, 1, none⟩ = some (.slice A' E'.length c') := by simp
      generalize (w.alloc (.cells #[.int .i64 V, .slice A E.length c] 28)).alloc _ = w0 at hb0 c1 c2 ⊢
      go_loopg [5] E.length (fun gk i wr => ∃ k : Nat, k ≤ E.length ∧ gk = E.length - k ∧ i = .int .i64 k ∧ Hid (E.take k = E'.take k) ∧ Below w0.heap.size w0 wr)
      case atStart => exact ⟨0, Nat.zero_le _, rfl, rfl, rfl, Below.refl _ _⟩
      case round =>
        obtain ⟨k, hk, rfl, rfl, heq, hbr⟩ := hrel
        have d1 := Tab_cell hbr c1
        have d2 := Tab_cell hbr c2
        by_cases hlt : k < E.length
        · have hlt' : k < E'.length := by have := HL.out; omega
          have hE1 := hE.later (bthen hb0 hbr)
          have hE2 := hE'.later (bthen hb0 hbr)
          obtain ⟨ad, hA, _, hc⟩ := hE1.e_at hlt
          obtain ⟨ad', hA', _, hc'⟩ := hE2.e_at hlt'
          subst hA
          subst hA'
          have hs := take_snoc E k hlt
          have hs' := take_snoc E' k hlt'
          rw [ed_eq E k hlt] at hs
          rw [ed_eq E' k hlt'] at hs'
          have hat : E = E' → ed E k = ed E' k := fun h => by rw [h]
          generalize ed E k = x at hc hs hat
          generalize ed E' k = y at hc' hs' hat
          have HS := Lib.hid hs
          have HS' := Lib.hid hs'
          have HA := Lib.hid hat
          clear hs hs' hat
          have b1 : (0 : Int) ≤ k := by omega
          have b2 : (k : Int) < E.length := by omega
          have b3 : (k : Int) < E'.length := by omega
          by_cases hxy : x = y
          · have hne' : (x != y) = false := by simpa using hxy
            have HX := Lib.hid hxy
            clear hxy
            go_wp2_with fail
            go_quiet (fail)
            go_wp2_with fail
            go_roundg (E.length - (k + 1))
            case measure => omega
            case rel => exact ⟨k + 1, by omega, rfl, by go_num, by show _ = _; rw [HS.out, HS'.out, heq.out, HX.out], below_drewN hbr _⟩
          · have hne' : (x != y) = true := by simpa using hxy
            have hf : sameG V V E E' = false := by simpa [sameG] using fun h => hxy (HA.out h)
            clear hxy
            go_wp2_with fail
            go_quiet (fail)
            go_wp2_with fail
            go_ret
            exact ⟨by first | rfl | (rw [hf]; rfl), below_drewN (bthen hb0 hbr) _⟩
        · have hf : sameG V V E E' = true := by
            have := heq.out
            rw [List.take_of_length_le (by omega), List.take_of_length_le (by have := HL.out; omega)] at this
            simpa [sameG] using this
          go_wp2_with fail
          go_ret
          exact ⟨by first | rfl | (rw [hf]; rfl), bthen hb0 hbr⟩
    · have hne : ((E.length : Int) != (E'.length : Int)) = true := by simp; omega
      have hf : sameG V V E E' = false := by simpa [sameG] using fun h => hlen (congrArg List.length h)
      clear hlen
      go_enter Tryd.func13, Tryd.ntmps13
      go_wp2_with fail
      go_ret
      exact ⟨by first | rfl | (rw [hf]; rfl), (below_alloc w _).alloc (by simp) _⟩
  · have hne : (V != V') = true := by simpa using hV
    have hf : sameG V V' E E' = false := by simp [sameG, hV]
    clear hV
    go_enter Tryd.func13, Tryd.ntmps13
    go_wp2_with fail
    go_ret
    exact ⟨by first | rfl | (rw [hf]; rfl), (below_alloc w _).alloc (by simp) _⟩
end Go.Proofs.YtbgbjodehbcgiaaDoor

/- The plain law of ClassifyLists: what a free path is, as the document and as the program look for it. -/
namespace Go.Proofs.YtbgbjodehbcgiaaDoor

def stepOk (V : Int) (E : List (BitVec 32)) (h : BitVec 32) (P : List Int) (i : Nat) : Prop :=
  0 ≤ pz P i ∧ pz P i < V ∧ inB h (pz P i) = (decide (i = 0) || decide (i + 1 = P.length)) ∧ ∀ j, j < i → pz P j ≠ pz P i ∧ nearB E (pz P j) (pz P i) = decide (j + 1 = i)
structure FreeIs (V : Int) (E : List (BitVec 32)) (h : BitVec 32) (P : List Int) : Prop where
  valid : validB V E = true
  three : 3 ≤ P.length
  few : P.length ≤ 30
  step : ∀ i, i < P.length → stepOk V E h P i
theorem nearB_both {E : List (BitVec 32)} {v u : Nat} (h : v ≠ u) : nearB E v u = true ↔ ∃ e ∈ E, hv e v ∧ hv e u := by
  unfold nearB
  simp only [Bool.and_eq_true, decide_eq_true_eq, List.any_eq_true, inB_nat]
  exact ⟨fun ⟨_, e, he, a⟩ => ⟨e, he, a⟩, fun ⟨e, he, a⟩ => ⟨by omega, e, he, a⟩⟩
theorem nearB_symm' (E : List (BitVec 32)) (v u : Int) : nearB E v u = nearB E u v := by
  unfold nearB
  rw [Bool.eq_iff_iff]
  simp only [Bool.and_eq_true, decide_eq_true_eq, List.any_eq_true]
  exact ⟨fun ⟨a, e, he, b, c⟩ => ⟨Ne.symm a, e, he, c, b⟩, fun ⟨a, e, he, b, c⟩ => ⟨Ne.symm a, e, he, c, b⟩⟩
theorem FreeIs.nojt {V : Int} {E : List (BitVec 32)} {head : BitVec 32} {P : List Int} (h : FreeIs V E (head &&& covB E) P) : ¬ ∃ p, JT (extE E head) p := by
  obtain ⟨_, v30, _, _⟩ := validB_of h.valid
  have hz : ∀ i, i < P.length → pz P i = ((pz P i).toNat : Nat) := fun i hi => by have := (h.step i hi).1; omega
  have hne : ∀ i j, i < P.length → j < i → (pz P j).toNat ≠ (pz P i).toNat := fun i j hi hj e => ((h.step i hi).2.2.2 j hj).1 (by rw [hz i hi, hz j (by omega), e])
  obtain ⟨R, k⟩ := free_knot (E := E) (h := head &&& covB E) (n := P.length) (f := fun i => (pz P i).toNat) h.three (fun i hi => by have := (h.step i hi).2.1; have := (h.step i hi).1; show (pz P i).toNat < 32; omega)
    (fun i j hi hj e => by
      rcases Nat.lt_trichotomy i j with c | c | c
      · exact absurd e (hne j i hj c)
      · exact c
      · exact absurd e.symm (hne i j hi c))
    (fun i hi => by
      have := (h.step i hi).2.2.1
      rw [hz i hi, inB_nat] at this
      show (head &&& covB E).getLsbD (pz P i).toNat = true ↔ _
      rw [this]; simp)
    (fun i j hj hi => by
      have := ((h.step i hi).2.2.2 j hj).2
      rw [hz i hi, hz j (by omega)] at this
      rw [← nearB_both (hne i j hi hj), this, decide_eq_true_eq])
  exact knot_no_jt k

/-! ### What has been seen -/
def sn (P : List Int) : Nat → BitVec 32
  | 0 => 0#32
  | k + 1 => sn P k ||| 1#32 <<< (pz P k).toNat
theorem hv_sn {P : List Int} (v : Nat) : ∀ {k : Nat}, (∀ i, i < k → (pz P i).toNat < 32) → (hv (sn P k) v ↔ ∃ j, j < k ∧ v = (pz P j).toNat)
  | 0, _ => ⟨fun h => absurd h (hv_zero v), fun ⟨j, hj, _⟩ => absurd hj (Nat.not_lt_zero _)⟩
  | k + 1, h => by
    rw [show sn P (k + 1) = sn P k ||| 1#32 <<< (pz P k).toNat from rfl, hv_or, hv_shl1 (h k (Nat.lt_succ_self k)), hv_sn v fun i hi => h i (by omega)]
    constructor
    · rintro (⟨j, hj, e⟩ | e)
      · exact ⟨j, by omega, e⟩
      · exact ⟨k, by omega, e⟩
    · rintro ⟨j, hj, e⟩
      rcases Nat.lt_or_ge j k with c | c
      · exact .inl ⟨j, c, e⟩
      · obtain rfl : j = k := by omega
        exact .inr e
theorem size_add {s : BitVec 32} {a : Nat} (ha : a < 32) (h : ¬ hv s a) : sizeW (s ||| 1#32 <<< a) = sizeW s + 1 := by
  unfold sizeW
  rw [← cntB_set (p := fun v => s.getLsbD v) (j := a) (n := 32) (by show s.getLsbD a = false; cases d : s.getLsbD a; rfl; exact absurd d h) ha]
  refine cntB_congr fun i hi => ?_
  show (s ||| 1#32 <<< a).getLsbD i = if i = a then true else s.getLsbD i
  have := hv_or s (1#32 <<< a) i
  rw [hv_shl1 ha] at this
  unfold hv at this
  by_cases c : i = a
  · rw [if_pos c]; exact this.2 (.inr c)
  · rw [if_neg c, Bool.eq_iff_iff, this]
    exact ⟨fun z => z.resolve_right c, .inl⟩
theorem cntB_bound {p : Nat → Bool} {m : Nat} (h : ∀ i, m ≤ i → p i = false) : ∀ n, cntB p n ≤ m
  | 0 => Nat.zero_le _
  | n + 1 => by
    unfold cntB
    have h1 := cntB_bound h n
    by_cases c : p n = true
    · have h2 : n < m := by
        rcases Nat.lt_or_ge n m with d | d
        · exact d
        · rw [h n d] at c; cases c
      have h3 := cntB_le p n
      rw [if_pos c]; omega
    · rw [if_neg c]; omega
theorem sn_size {V : Int} {E : List (BitVec 32)} {h : BitVec 32} {P : List Int} (hV : V ≤ 30) : ∀ {k : Nat}, (∀ i, i < k → stepOk V E h P i) → sizeW (sn P k) = k
  | 0, _ => by unfold sizeW sn; exact cntB_none (fun i => by simp) 32
  | k + 1, hs => by
    have hlt : ∀ i, i < k + 1 → (pz P i).toNat < 32 := fun i hi => by have := hs i hi; have h1 := this.1; have h2 := this.2.1; omega
    rw [show sn P (k + 1) = sn P k ||| 1#32 <<< (pz P k).toNat from rfl, size_add (hlt k (Nat.lt_succ_self k)) ?_, sn_size hV fun i hi => hs i (by omega)]
    rw [hv_sn _ fun i hi => hlt i (by omega)]
    rintro ⟨j, hj, e⟩
    have h1 := (hs j (by omega)).1
    have h2 := (hs k (Nat.lt_succ_self k)).1
    exact ((hs k (Nat.lt_succ_self k)).2.2.2 j hj).1 (by omega)
theorem sn_few {V : Int} {E : List (BitVec 32)} {h : BitVec 32} {P : List Int} (hV : V ≤ 30) {k : Nat} (hs : ∀ i, i < k → stepOk V E h P i) : k ≤ 30 := by
  rw [← sn_size hV hs]
  refine cntB_bound (fun i hi => ?_) 32
  cases d : (sn P k).getLsbD i
  · rfl
  · have hlt : ∀ i, i < k → (pz P i).toNat < 32 := fun i hi => by have := hs i hi; have h1 := this.1; have h2 := this.2.1; omega
    obtain ⟨j, hj, e⟩ := (hv_sn i hlt).1 d
    have h1 := (hs j hj).1
    have h2 := (hs j hj).2.1
    omega
/-- What stands right ahead. -/
def ahead (P : List Int) (k : Nat) : BitVec 32 := if k = 0 then 0#32 else 1#32 <<< (pz P (k - 1)).toNat
theorem near_ahead {V : Int} {E : List (BitVec 32)} {h : BitVec 32} {P : List Int} {k : Nat} (hV : V ≤ 30) (hs : ∀ i, i < k → stepOk V E h P i) (h0 : 0 ≤ pz P k) :
    nearS E (pz P k) &&& sn P k = ahead P k ↔ ∀ j, j < k → nearB E (pz P j) (pz P k) = decide (j + 1 = k) := by
  have hlt : ∀ i, i < k → (pz P i).toNat < 32 := fun i hi => by have := hs i hi; have h1 := this.1; have h2 := this.2.1; omega
  have hz : ∀ i, i < k → pz P i = ((pz P i).toNat : Nat) := fun i hi => by have := (hs i hi).1; omega
  have hk : pz P k = ((pz P k).toNat : Nat) := by omega
  have inj : ∀ i j, i < k → j < k → (pz P i).toNat = (pz P j).toNat → i = j := fun i j hi hj e => by
    rcases Nat.lt_trichotomy i j with c | c | c
    · exact absurd (by rw [hz i hi, hz j hj, e]) ((hs j hj).2.2.2 i c).1
    · exact c
    · exact absurd (by rw [hz i hi, hz j hj, e]) ((hs i hi).2.2.2 j c).1
  have hah : ∀ v, hv (ahead P k) v ↔ ∃ j, j + 1 = k ∧ v = (pz P j).toNat := fun v => by
    unfold ahead
    by_cases c : k = 0
    · rw [if_pos c]
      exact ⟨fun z => absurd z (hv_zero v), fun ⟨j, hj, _⟩ => by omega⟩
    · rw [if_neg c, hv_shl1 (hlt (k - 1) (by omega))]
      exact ⟨fun e => ⟨k - 1, by omega, e⟩, fun ⟨j, hj, e⟩ => by rw [e, show j = k - 1 by omega]⟩
  have hnear : ∀ j, j < k → (hv (nearS E (pz P k)) (pz P j).toNat ↔ nearB E (pz P j) (pz P k) = true) := fun j hj => by
    have e := nearB_nearS E (pz P k).toNat (pz P j).toNat
    rw [← hk, inB_nat, ← hz j hj] at e
    unfold hv
    rw [e, nearB_symm']
  constructor
  · intro he j hj
    have e := hah (pz P j).toNat
    rw [← he, hv_and, hnear j hj, hv_sn _ hlt] at e
    rw [Bool.eq_iff_iff, decide_eq_true_eq]
    constructor
    · intro z
      obtain ⟨m, hm, e2⟩ := e.1 ⟨z, j, hj, rfl⟩
      rw [inj j m hj (by omega) e2]; exact hm
    · intro z
      exact (e.2 ⟨j, z, rfl⟩).1
  · intro he
    apply hv_ext
    intro v
    rw [hv_and, hah, hv_sn _ hlt]
    constructor
    · rintro ⟨a, j, hj, rfl⟩
      rw [hnear j hj, he j hj, decide_eq_true_eq] at a
      exact ⟨j, a, rfl⟩
    · rintro ⟨j, hj, rfl⟩
      exact ⟨by rw [hnear j (by omega), he j (by omega), decide_eq_true_eq]; exact hj, j, by omega, rfl⟩
end Go.Proofs.YtbgbjodehbcgiaaDoor

/- The contract of math/bits.OnesCount32. -/
namespace Go.Proofs.YtbgbjodehbcgiaaDoor
open Go.RowKit
attribute [local go_sem ↓] uz_and uz_or uz_andNot uz_and_one uz_shr uz_shl_one uz_shl uz_sub uz_sub_one uz_add uz_beq_zero uz_bne_zero uz_beq uz_bne uz_beq_one

theorem uz_and_255 (x : BitVec 32) : Op.intBits .and .u32 (uz x) 255 = pure (.int .u32 (uz (x &&& 255#32))) := uz_and x 255#32
attribute [local go_sem ↓] uz_and_255
theorem cntB_add (p : Nat → Bool) (m : Nat) : ∀ n, cntB p (m + n) = cntB p m + cntB (fun i => p (m + i)) n
  | 0 => by simp [cntB]
  | n + 1 => by
    have e1 : cntB p (m + (n + 1)) = cntB p (m + n) + if p (m + n) then 1 else 0 := rfl
    have e2 : cntB (fun i => p (m + i)) (n + 1) = cntB (fun i => p (m + i)) n + if p (m + n) then 1 else 0 := rfl
    rw [e1, e2, cntB_add p m n, Nat.add_assoc]
theorem pop_byte : ∀ b : Fin 256, Lib.pop8 (b.val : Int) = (cntB (fun i => b.val.testBit i) 8 : Nat) := by decide +kernel
theorem mask_bit : ∀ i, i < 8 → (255#32).getLsbD i = true := by decide
theorem pop_nat {z : BitVec 32} (h : z.toNat < 256) : Lib.pop8 (uz z) = (cntB (fun i => z.getLsbD i) 8 : Nat) := pop_byte ⟨z.toNat, h⟩
theorem pop_mask (z : BitVec 32) : Lib.pop8 (uz (z &&& 255#32)) = (cntB (fun i => z.getLsbD i) 8 : Nat) := by
  rw [pop_nat (by rw [BitVec.toNat_and]; exact Nat.lt_of_le_of_lt Nat.and_le_right (by decide))]
  rw [cntB_congr fun i hi => ?_]
  rw [BitVec.getLsbD_and, mask_bit i hi, Bool.and_true]
theorem size_four (x : BitVec 32) : (sizeW x : Int) = Lib.pop8 (uz (x >>> 24)) + Lib.pop8 (uz (x >>> 16 &&& 255#32)) + Lib.pop8 (uz (x >>> 8 &&& 255#32)) + Lib.pop8 (uz (x &&& 255#32)) := by
  rw [pop_mask, pop_mask, pop_mask, pop_nat (by rw [BitVec.toNat_ushiftRight, Nat.shiftRight_eq_div_pow]; have := x.isLt; omega)]
  unfold sizeW
  have e0 : cntB (fun v => x.getLsbD v) 32 = cntB (fun v => x.getLsbD v) (8 + (8 + (8 + 8))) := rfl
  rw [e0, cntB_add, cntB_add, cntB_add]
  have e1 : ∀ k, (fun i => (x >>> k).getLsbD i) = fun i => x.getLsbD (k + i) := fun k => by funext i; rw [BitVec.getLsbD_ushiftRight]
  rw [e1, e1, e1]
  have e2 : (fun i => x.getLsbD (8 + (8 + i))) = fun i => x.getLsbD (16 + i) := by funext i; rw [show 8 + (8 + i) = 16 + i by omega]
  have e3 : (fun i => x.getLsbD (8 + (8 + (8 + i)))) = fun i => x.getLsbD (24 + i) := by funext i; rw [show 8 + (8 + (8 + i)) = 24 + i by omega]
  rw [e2, e3]
  omega
theorem pop_le (z : BitVec 32) (h : z.toNat < 256) : 0 ≤ Lib.pop8 (uz z) ∧ Lib.pop8 (uz z) ≤ 8 := by
  rw [pop_nat h]
  have := cntB_le (fun i => z.getLsbD i) 8
  omega

end Go.Proofs.YtbgbjodehbcgiaaDoor

/- The contracts of classify.CheckPath and osierref17.CheckPath. -/
namespace Go.Proofs.YtbgbjodehbcgiaaDoor
open Go.RowKit
attribute [local go_sem ↓] uz_and uz_or uz_andNot uz_and_one uz_shr uz_shl_one uz_shl uz_sub uz_sub_one uz_add uz_beq_zero uz_bne_zero uz_beq uz_bne uz_beq_one

/-- What CheckPath answers. -/
def CPIs (V : Int) (E : List (BitVec 32)) (h : BitVec 32) (P : List Int) (ok : Bool) : Prop := ok = true ↔ FreeIs V E h P
theorem cpi_no {V : Int} {E : List (BitVec 32)} {h : BitVec 32} {P : List Int} (k : ¬ FreeIs V E h P) : CPIs V E h P false := ⟨fun z => (by cases z), fun z => absurd z k⟩
theorem cpi_yes {V : Int} {E : List (BitVec 32)} {h : BitVec 32} {P : List Int} (k : FreeIs V E h P) : CPIs V E h P true := ⟨fun _ => k, fun _ => rfl⟩
theorem cpi_uniq {V : Int} {E : List (BitVec 32)} {h : BitVec 32} {P : List Int} {a b : Bool} (k : CPIs V E h P a) (l : CPIs V E h P b) : a = b := by
  unfold CPIs at k l
  rw [Bool.eq_iff_iff, k, l]
/-- Has the vertex been seen? -/
theorem seen_iff {P : List Int} {k : Nat} {v : Nat} (hs : ∀ i, i < k → (pz P i).toNat < 32 ∧ 0 ≤ pz P i) : (sn P k).getLsbD v = true ↔ ∃ j, j < k ∧ pz P j = v := by
  have := hv_sn (P := P) v (k := k) fun i hi => (hs i hi).1
  unfold hv at this
  rw [this]
  constructor
  · rintro ⟨j, hj, e⟩; exact ⟨j, hj, by have := (hs j hj).2; omega⟩
  · rintro ⟨j, hj, e⟩; exact ⟨j, hj, by omega⟩

end Go.Proofs.YtbgbjodehbcgiaaDoor

/- The contract of osierref17.CheckPath. -/
namespace Go.Proofs.YtbgbjodehbcgiaaDoor
open Go.RowKit
attribute [local go_sem ↓] uz_and uz_or uz_andNot uz_and_one uz_shr uz_shl_one uz_shl uz_sub uz_sub_one uz_add uz_beq_zero uz_bne_zero uz_beq uz_bne uz_beq_one

set_option maxHeartbeats 40000000 in
set_option maxRecDepth 100000 in
theorem r17checkPath_any (V : Int) (A : Option Addr) (E : List (BitVec 32)) (c : Nat) (head : BitVec 32) (A' : Option Addr) (P : List Int) (c' : Nat) (w : World) (hl : E.length ≤ 35184372087808) (hE : Rd w w.heap.size A (us E)) (hl' : P.length ≤ 35184372087808) (hP : Rd w w.heap.size A' (is P)) :
    Calls Tryd.prog 25 #[.agg #[.int .i64 V, .slice A E.length c], .int .u32 (uz head), .slice A' P.length c'] w fun e w' => ∃ ok : Bool, e = .returned (.bool ok) ∧ Hid (CPIs V E (head &&& covB E) P ok) ∧ Below w.heap.size w w' := by
  obtain ⟨h, hh⟩ : ∃ h, head &&& covB E = h := ⟨_, rfl⟩
  rw [hh]
  have HH := Lib.hid hh
  clear hh
  go_enter Tryd.func25, Tryd.ntmps25
  go_wp2_with fail
  have hb0 := below_alloc w (.cells #[.int .i64 V, .slice A E.length c] 28)
  have hG0 : Row (w.alloc (.cells #[.int .i64 V, .slice A E.length c] 28)) w.heap.size 28 [.int .i64 V, .slice A E.length c] := Row.new _ _ _
  generalize w.alloc _ = w0 at hb0 hG0 ⊢
  refine (r14valid_any V A E c _ hl (hE.later hb0)).mono ?_
  rintro e w1 ⟨rfl, hb1⟩
  have hB1 := bthen hb0 hb1
  have hG1 := hG0.later hb1
  have hE1 := hE.later hB1
  have hP1 := hP.later hB1
  clear hb0 hb1 hG0 hE hP
  cases hv : validB V E
  · have HC : Hid (CPIs V E h P false) := Lib.hid (cpi_no fun z => by have := z.valid; rw [hv] at this; cases this)
    clear hv
    go_wp2_with fail
    refine bodyPost_ret (v := .bool false) (by simp [results, Tryd.results25, go_sem]) rfl ?_
    exact ⟨false, rfl, HC, hB1⟩
  · by_cases h3 : P.length < 3
    · have e0 : decide ((P.length : Int) < 3) = true := decide_eq_true (by omega)
      have HC : Hid (CPIs V E h P false) := Lib.hid (cpi_no fun z => by have := z.three; omega)
      clear h3 hv
      go_wp2_with fail
      refine bodyPost_ret (v := .bool false) (by simp [results, Tryd.results25, go_sem]) rfl ?_
      exact ⟨false, rfl, HC, hB1⟩
    · by_cases h30 : P.length ≤ 30
      · have e0 : decide ((P.length : Int) < 3) = false := decide_eq_false (by omega)
        have e1 : decide ((30 : Int) < (P.length : Int)) = false := decide_eq_false (by omega)
        obtain ⟨v0, v30, _, _⟩ := validB_of hv
        have HV := Lib.hid hv
        have HF : Hid (¬ FreeIs V E h P → CPIs V E h P false) := Lib.hid cpi_no
        have HT : Hid ((∀ i, i < P.length → stepOk V E h P i) → CPIs V E h P true) := Lib.hid fun z => cpi_yes ⟨HV.out, by omega, h30, z⟩
        have d0 : w1.cell? ⟨w.heap.size, 0, none⟩ = some (.int .i64 V) := hG1.cell 0
        have d1 : w1.cell? ⟨w.heap.size, 1, none⟩ = some (.slice A E.length c) := hG1.cell 1
        clear h3 hv
        go_wp2_with fail
        refine (r17covered_any V A E c w1 hl hE1).mono ?_
        rintro e w2 ⟨rfl, hb2⟩
        have hB2 := bthen hB1 hb2
        have hG2 := hG1.later hb2
        have hE2 := hE1.later hb2
        have hP2 := hP1.later hb2
        have HK : Hid (∀ x, Below w2.heap.size w2 x → x.cell? ⟨w.heap.size, 0, none⟩ = some (.int .i64 V) ∧ x.cell? ⟨w.heap.size, 1, none⟩ = some (.slice A E.length c)) := Lib.hid fun x hx => ⟨(hG2.later hx).cell 0, (hG2.later hx).cell 1⟩
        have HNB : Hid (∀ (v u : Int) x, Below w2.heap.size w2 x → Calls Tryd.prog 68 #[.agg #[.int .i64 V, .slice A E.length c], .int .i64 v, .int .i64 u] x fun e w' => e = .returned (.bool (nearB E v u)) ∧ Below w2.heap.size w2 w') := Lib.hid fun v u x hx =>
          (r14near_any V v u A E c x hl (hE2.later hx)).mono fun e w' ⟨he, hb⟩ => ⟨he, bthen hx hb⟩
        have HBO := Lib.hid (both_any head (covB E))
        rw [HH.out] at HBO
        clear d0 d1 hG1 hE1 hP1 hb2 hB1 hE2 hG2 HH
        go_wp2_with fail
        refine (HBO.out _).mono ?_
        rintro e w' ⟨rfl, rfl⟩
        clear HBO
        go_wp2_with fail
        go_loopw [8] (fun i wr => ∃ k : Nat, k ≤ P.length ∧ i = .int .i64 k ∧ Hid (∀ i, i < k → stepOk V E h P i) ∧ Below w2.heap.size w2 wr) (fun i _ => P.length - (intOf i).toNat)
        case atStart => exact ⟨0, Nat.zero_le _, rfl, Lib.hid fun i hi => absurd hi (Nat.not_lt_zero _), Below.refl _ _⟩
        case round =>
          obtain ⟨k, hk, rfl, hno, hb⟩ := hrel
          obtain ⟨d0, d1⟩ := HK.out _ hb
          by_cases hlt : k < P.length
          · obtain ⟨ad, hA, _, hc⟩ := (hP2.later hb).p_at hlt
            subst hA
            have b1 : (0 : Int) ≤ k := by omega
            have b2 : (k : Int) < P.length := by omega
            have HST : Hid (FreeIs V E h P → stepOk V E h P k) := Lib.hid fun z => z.step k hlt
            have HNX : Hid (stepOk V E h P k → ∀ i, i < k + 1 → stepOk V E h P i) := Lib.hid fun z i hi => by
              rcases Nat.lt_or_ge i k with d | d
              · exact hno.out i d
              · obtain rfl : i = k := by omega
                exact z
            clear hno
            by_cases q0 : 0 ≤ pz P k
            · by_cases q1 : pz P k < V
              · obtain ⟨v, hvk⟩ : ∃ v : Nat, pz P k = v := ⟨(pz P k).toNat, by omega⟩
                have HVK := Lib.hid hvk
                have g0 : (0 : Int) ≤ v := by omega
                have g1 : (v : Int) < V := by omega
                rw [hvk] at hc
                have HV2 : Hid (0 ≤ pz P k ∧ pz P k < V) := Lib.hid ⟨q0, q1⟩
                obtain ⟨fb, hfb⟩ : ∃ fb, inB h (v : Int) = fb := ⟨_, rfl⟩
                obtain ⟨pb, hpb⟩ : ∃ pb, ((k : Int) == 0) = pb := ⟨_, rfl⟩
                obtain ⟨lb, hlb⟩ : ∃ lb, ((k : Int) == (P.length : Int) - 1) = lb := ⟨_, rfl⟩
                have HPOS : Hid (inB h (pz P k) = (decide (k = 0) || decide (k + 1 = P.length)) ↔ fb = (pb || lb)) := Lib.hid (by
                  have e1 : decide (k + 1 = P.length) = ((k : Int) == (P.length : Int) - 1) := by rw [Bool.eq_iff_iff, decide_eq_true_eq, beq_iff_eq]; omega
                  have e2 : decide (k = 0) = ((k : Int) == 0) := by rw [Bool.eq_iff_iff, decide_eq_true_eq, beq_iff_eq]; omega
                  rw [e1, e2, hpb, hlb, hvk, hfb])
                clear hvk q0 q1
                have HC : Hid (fb ≠ (pb || lb) → CPIs V E h P false) := Lib.hid fun hne => HF.out fun z => hne (HPOS.out.1 (HST.out z).2.2.1)
                go_upto_region 7 with fail
                go_cut [64] (fun t wx => t = .bool (fb != (pb || lb)) ∧ Below w2.heap.size w2 wx)
                case first =>
                  clear HPOS HC HST HNX HT HF HK HNB
                  cases pb
                  · go_wp2_with fail
                    go_quiet (first | (go_at_call 55; exact pure_quiet (in_any h _)))
                    go_wp2_with fail
                    go_meet
                    exact ⟨by
                      rw [decide_eq_false (show ¬ (v : Int) < 0 by omega), decide_eq_false (show ¬ V ≤ (v : Int) by omega), show IntKind.i64.wrap ((P.length : Int) - 1) = (P.length : Int) - 1 from IntWalk.i64_in _ (by omega), hlb]
                      cases fb <;> cases lb <;> rfl, below_drewN hb _⟩
                  · go_wp2_with fail
                    go_quiet (first | (go_at_call 55; exact pure_quiet (in_any h _)))
                    go_wp2_with fail
                    go_meet
                    exact ⟨by
                      rw [decide_eq_false (show ¬ (v : Int) < 0 by omega), decide_eq_false (show ¬ V ≤ (v : Int) by omega)]
                      cases fb <;> rfl, below_drewN hb _⟩
                case rest =>
                  obtain ⟨rfl, hbc⟩ := hcut
                  clear hb hc d0 d1 hfb hpb hlb
                  cases hne : (fb != (pb || lb))
                  · have HPK := Lib.hid (HPOS.out.2 (by simpa using hne))
                    clear HC HPOS hne
                    go_wp2_with fail
                    go_loopg [9] k (fun gk j wr => ∃ m : Nat, m ≤ k ∧ gk = k - m ∧ j = .int .i64 m ∧ Hid (∀ j, j < m → pz P j ≠ pz P k ∧ nearB E (pz P j) (pz P k) = decide (j + 1 = k)) ∧ Below w2.heap.size w2 wr)
                    case atStart => exact ⟨0, Nat.zero_le _, rfl, rfl, Lib.hid fun j hj => absurd hj (Nat.not_lt_zero _), hbc⟩
                    clear hbc
                    case round =>
                      obtain ⟨m, hm, rfl, rfl, hin, hb⟩ := hrel
                      obtain ⟨d0, d1⟩ := HK.out _ hb
                      by_cases hmk : m < k
                      · have HU : Hid (∀ x, Below w2.heap.size w2 x → x.cell? (ad.add k) = some (.int .i64 v) ∧ x.cell? (ad.add m) = some (.int .i64 (pz P m))) := Lib.hid fun x hx => by
                          obtain ⟨ad2, hA2, _, hc2⟩ := (hP2.later hx).p_at hlt
                          obtain rfl : ad = ad2 := by injection hA2
                          obtain ⟨ad3, hA3, _, hc3⟩ := (hP2.later hx).p_at (show m < P.length by omega)
                          obtain rfl : ad = ad3 := by injection hA3
                          exact ⟨by rw [hc2, HVK.out], hc3⟩
                        obtain ⟨hc, hc2⟩ := HU.out _ hb
                        have m0 : (m : Int) < k := by omega
                        have m1 : (0 : Int) ≤ m := by omega
                        have m2 : (m : Int) < P.length := by omega
                        obtain ⟨lm, hlm⟩ : ∃ lm, ((m : Int) == (k : Int) - 1) = lm := ⟨_, rfl⟩
                        have HLM : Hid (decide (m + 1 = k) = lm) := Lib.hid (by rw [← hlm, Bool.eq_iff_iff, decide_eq_true_eq, beq_iff_eq]; omega)
                        have HN : Hid (pz P m ≠ v → nearB E (pz P m) v = lm → ∀ j, j < m + 1 → pz P j ≠ pz P k ∧ nearB E (pz P j) (pz P k) = decide (j + 1 = k)) := Lib.hid fun e1 e2 j hj => by
                          rcases Nat.lt_or_ge j m with d | d
                          · exact hin.out j d
                          · obtain rfl : j = m := by omega
                            rw [HVK.out, HLM.out]
                            exact ⟨e1, e2⟩
                        have HN1 : Hid (pz P m = v → CPIs V E h P false) := Lib.hid fun e => HF.out fun z => ((HST.out z).2.2.2 m hmk).1 (by rw [e, HVK.out])
                        have HN2 : Hid (nearB E (pz P m) v ≠ lm → CPIs V E h P false) := Lib.hid fun e => HF.out fun z => e (by
                          have := ((HST.out z).2.2.2 m hmk).2
                          rwa [HVK.out, HLM.out] at this)
                        have HNB2 := Lib.hid (fun x hx => HNB.out (pz P m) v x hx)
                        clear hin
                        generalize nearB E (pz P m) v = nb at HN HN2 HNB2
                        generalize pz P m = u at hc2 HU HN HN1 HNB2
                        go_upto_region 12 with fail
                        go_cut [95] (fun t wx => ∃ tb : Bool, t = .bool tb ∧ Hid (tb = (((v : Int) == u) || (nb != lm))) ∧ Below w2.heap.size w2 wx)
                        case first =>
                          cases hvu : ((v : Int) == u)
                          · go_region_held3 (fun x : World => Below w2.heap.size w2 x ∧ (x.cell? ⟨w.heap.size, 0, none⟩ = some (.int .i64 V) ∧ x.cell? ⟨w.heap.size, 1, none⟩ = some (.slice A E.length c)) ∧ x.cell? (ad.add k) = some (.int .i64 v) ∧ x.cell? (ad.add m) = some (.int .i64 u))
                              (first | exact ⟨hb, HK.out _ hb, HU.out _ hb⟩ | exact ⟨by assumption, HK.out _ (by assumption), HU.out _ (by assumption)⟩ | exact ⟨below_drewN (by assumption) 1, HK.out _ (below_drewN (by assumption) 1), HU.out _ (below_drewN (by assumption) 1)⟩)
                              (first | (go_at_call 68; refine (HNB2.out _ (by first | assumption | exact below_drewN (by assumption) 1)).mono ?_; rintro e w4 ⟨rfl, hb4⟩))
                            all_goals
                              go_wp2_with fail
                              go_meet
                              exact ⟨_, rfl, Lib.hid (by
                                rw [show IntKind.i64.wrap ((k : Int) - 1) = (k : Int) - 1 from IntWalk.i64_in _ (by omega), hlm, hvu]
                                cases nb <;> cases lm <;> rfl), by assumption⟩
                          · go_wp2_with fail
                            go_quiet (fail)
                            go_wp2_with fail
                            go_meet
                            exact ⟨_, rfl, Lib.hid (by rw [hvu]; rfl), below_drewN hb _⟩
                        case rest =>
                          obtain ⟨tb, rfl, HTB, hbd⟩ := hcut
                          clear hb hc hc2 d0 d1 hlm
                          cases tb
                          · have HX := Lib.hid (HN.out (fun e => by
                              have := HTB.out
                              rw [e] at this; simp at this) (by
                              have := HTB.out
                              cases h1 : ((v : Int) == u) <;> cases nb <;> cases lm <;> rw [h1] at this <;> first | rfl | cases this))
                            clear HN HN1 HN2 HTB
                            go_wp2_with fail
                            go_roundg (k - (m + 1))
                            case measure => omega
                            case rel => exact ⟨m + 1, by omega, rfl, by go_num, HX, hbd⟩
                          · have HC : Hid (CPIs V E h P false) := Lib.hid (by
                              have := HTB.out
                              cases h1 : ((v : Int) == u)
                              · rw [h1] at this
                                exact HN2.out fun e => by rw [e] at this; simp at this
                              · exact HN1.out (by rw [beq_iff_eq] at h1; exact h1.symm))
                            clear HN HN1 HN2 HTB
                            go_wp2_with fail
                            refine bodyPost_ret (v := .bool false) (by simp [results, Tryd.results25, go_sem]) rfl ?_
                            exact ⟨false, rfl, HC, hB2.trans (hbd.mono hB2.size)⟩
                      · obtain rfl : m = k := by omega
                        have HX := Lib.hid (HNX.out ⟨HV2.out.1, HV2.out.2, HPK.out, fun j hj => hin.out j hj⟩)
                        go_wp2_with fail
                        go_roundw
                        case measure => simp [intOf]; omega
                        case rel => exact ⟨m + 1, by omega, by go_num, HX, hb⟩
                  · have HCC := Lib.hid (HC.out (by simpa using hne))
                    clear HC HPOS HST HNX hne
                    go_wp2_with fail
                    refine bodyPost_ret (v := .bool false) (by simp [results, Tryd.results25, go_sem]) rfl ?_
                    exact ⟨false, rfl, HCC, hB2.trans (hbc.mono hB2.size)⟩
              · have HC := Lib.hid (HF.out fun z => q1 (HST.out z).2.1)
                have g0 : decide (pz P k < 0) = false := decide_eq_false (by omega)
                have g1 : decide (V ≤ pz P k) = true := decide_eq_true (by omega)
                clear HST HNX q0 q1
                generalize pz P k = v at hc g0 g1
                go_wp2_with fail
                go_quiet (fail)
                go_wp2_with fail
                refine bodyPost_ret (v := .bool false) (by simp [results, Tryd.results25, go_sem]) rfl ?_
                exact ⟨false, rfl, HC, hB2.trans ((below_drewN hb _).mono hB2.size)⟩
            · have HC := Lib.hid (HF.out fun z => q0 (HST.out z).1)
              have g0 : decide (pz P k < 0) = true := decide_eq_true (by omega)
              clear HST HNX q0
              generalize pz P k = v at hc g0
              go_wp2_with fail
              go_quiet (fail)
              go_wp2_with fail
              refine bodyPost_ret (v := .bool false) (by simp [results, Tryd.results25, go_sem]) rfl ?_
              exact ⟨false, rfl, HC, hB2.trans ((below_drewN hb _).mono hB2.size)⟩
          · obtain rfl : k = P.length := by omega
            have HC := Lib.hid (HT.out hno.out)
            go_wp2_with fail
            refine bodyPost_ret (v := .bool true) (by simp [results, Tryd.results25, go_sem]) rfl ?_
            exact ⟨true, rfl, HC, hB2.trans (hb.mono hB2.size)⟩
      · have e0 : decide ((P.length : Int) < 3) = false := decide_eq_false (by omega)
        have e1 : decide ((30 : Int) < (P.length : Int)) = true := decide_eq_true (by omega)
        have HC : Hid (CPIs V E h P false) := Lib.hid (cpi_no fun z => h30 z.few)
        clear h3 h30 hv
        go_wp2_with fail
        refine bodyPost_ret (v := .bool false) (by simp [results, Tryd.results25, go_sem]) rfl ?_
        exact ⟨false, rfl, HC, hB1⟩
end Go.Proofs.YtbgbjodehbcgiaaDoor
