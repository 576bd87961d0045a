/- The walk of osierlaw14.HyperPaths. -/
import Derived.Test.YtaongngoacbodaaDoorAwake14
import Derived.Test.YtaongngoacbodaaDoorRPath
import Derived.Deep.RegionWith
import Derived.Deep.RegionHeld3
namespace Go.Proofs.YtaongngoacbodaaDoor
open Go.RowKit

attribute [local go_sem ↓] uz_and uz_or uz_andNot uz_and_one uz_shr uz_shl_one uz_shl uz_sub uz_sub_one uz_add uz_beq_zero uz_bne_zero uz_beq uz_bne uz_beq_one

theorem best_len {E : List (BitVec 32)} {s t V : Nat} {inner inn : BitVec 32} (h : Given E s t V inner inn) {p : List Nat} (hp : Best E s t inner p) : p.length ≤ V := by
  obtain ⟨h1, h2, h3⟩ := hp
  match p, h1, h2, h3 with
  | x :: r, h1, h2, h3 =>
    obtain rfl : x = s := by simpa using h2
    have hm : RMin E x t inner r.length x := by
      refine ⟨⟨r, h1, rfl⟩, fun m hm ⟨q, hq, hl⟩ => ?_⟩
      have h4 := h3 (x :: q) hq rfl
      unfold lessL at h4
      rw [if_neg (by simp; omega)] at h4
      simp at h4
      omega
    have := rmin_small h h.hsrc hm
    simp; omega
theorem pathIs_len {V : Int} {E : List (BitVec 32)} {s t : Int} {inner : BitVec 32} {Z : List Nat} {code : Int} (k : PathIs V E s t inner Z code) : Z.length ≤ 30 := by
  rcases k with ⟨_, _, rfl⟩ | ⟨_, _, _, rfl⟩ | ⟨_, _, _, _, _, _, _, rfl⟩ | ⟨a1, a2, a3, a4, a5, a6, _, ⟨rfl, _⟩ | hb⟩
  · simp
  · simp
  · simp
  · simp
  · obtain ⟨m, rfl⟩ := Int.eq_ofNat_of_zero_le a2
    obtain ⟨n, rfl⟩ := Int.eq_ofNat_of_zero_le a3
    have h1 := best_len (given_of (inner := inner) a1 a4 a5 (by omega)) hb
    have h2 := (validB_of a1).2.1
    omega

set_option maxHeartbeats 2000000 in
set_option maxRecDepth 100000 in
theorem law_paths (V : Int) (A : Option Addr) (E : List (BitVec 32)) (c : Nat) (s t : Int) (inner : BitVec 32) (w : World) (hl : E.length ≤ 35184372087808) (hE : Rd w w.heap.size A (us E)) (hT : Tab w) :
    Calls Tryd.prog 4 #[.agg #[.int .i64 V, .slice A E.length c, .int .i64 s, .int .i64 t, .int .u32 (uz inner)]] w fun e w' => e = .returned (.bool true) ∧ Below w.heap.size w w' := by
  go_enter Tryd.func4, Tryd.ntmps4
  go_upto_region 1 with fail
  have hb0 := below_alloc w (.cells #[.int .i64 V, .slice A E.length c, .int .i64 s, .int .i64 t, .int .u32 (uz inner)] 30)
  have hG0 : Row (w.alloc (.cells #[.int .i64 V, .slice A E.length c, .int .i64 s, .int .i64 t, .int .u32 (uz inner)] 30)) w.heap.size 30 [.int .i64 V, .slice A E.length c, .int .i64 s, .int .i64 t, .int .u32 (uz inner)] := Row.new _ _ _
  have c0 : (w.alloc (.cells #[.int .i64 V, .slice A E.length c, .int .i64 s, .int .i64 t, .int .u32 (uz inner)] 30)).cell? ⟨w.heap.size, 0, none⟩ = some (.int .i64 V) := hG0.cell 0
  have c1 : (w.alloc (.cells #[.int .i64 V, .slice A E.length c, .int .i64 s, .int .i64 t, .int .u32 (uz inner)] 30)).cell? ⟨w.heap.size, 1, none⟩ = some (.slice A E.length c) := hG0.cell 1
  have c2 : (w.alloc (.cells #[.int .i64 V, .slice A E.length c, .int .i64 s, .int .i64 t, .int .u32 (uz inner)] 30)).cell? ⟨w.heap.size, 2, none⟩ = some (.int .i64 s) := hG0.cell 2
  have c3 : (w.alloc (.cells #[.int .i64 V, .slice A E.length c, .int .i64 s, .int .i64 t, .int .u32 (uz inner)] 30)).cell? ⟨w.heap.size, 3, none⟩ = some (.int .i64 t) := hG0.cell 3
  have c4 : (w.alloc (.cells #[.int .i64 V, .slice A E.length c, .int .i64 s, .int .i64 t, .int .u32 (uz inner)] 30)).cell? ⟨w.heap.size, 4, none⟩ = some (.int .u32 (uz inner)) := hG0.cell 4
  have hlt0 : w.heap.size < (w.alloc (.cells #[.int .i64 V, .slice A E.length c, .int .i64 s, .int .i64 t, .int .u32 (uz inner)] 30)).heap.size := by simp
  generalize w.alloc _ = w0 at hb0 hG0 c0 c1 c2 c3 c4 hlt0 ⊢
  go_cut [3, 4, 5, 6] (fun p x y z wx => ∃ g, p = .pointer (some ⟨g, 0, none⟩) ∧ x = .int .i64 s ∧ y = .int .i64 t ∧ z = .int .u32 (uz inner) ∧ Row wx g 24 [.int .i64 V, .slice A E.length c] ∧ Below w.heap.size w wx)
  case first =>
    have q0 := fun o => Lib.hid (Tab_cell (below_alloc w0 o) c0)
    have q1 := fun o => Lib.hid (Tab_cell (below_alloc w0 o) c1)
    have q2 := fun o => Lib.hid (Tab_cell (below_alloc w0 o) c2)
    have q3 := fun o => Lib.hid (Tab_cell (below_alloc w0 o) c3)
    have q4 := fun o => Lib.hid (Tab_cell (below_alloc w0 o) c4)
    go_region_held3 (fun wx : World => wx.cell? ⟨w.heap.size, 0, none⟩ = some (.int .i64 V) ∧ wx.cell? ⟨w.heap.size, 1, none⟩ = some (.slice A E.length c) ∧ wx.cell? ⟨w.heap.size, 2, none⟩ = some (.int .i64 s) ∧ wx.cell? ⟨w.heap.size, 3, none⟩ = some (.int .i64 t) ∧ wx.cell? ⟨w.heap.size, 4, none⟩ = some (.int .u32 (uz inner))) (first | exact ⟨c0, c1, c2, c3, c4⟩ | exact ⟨(q0 _).out, (q1 _).out, (q2 _).out, (q3 _).out, (q4 _).out⟩) (first | fail)
    all_goals
      go_wp2_with fail
      go_meet
      exact ⟨_, rfl, rfl, rfl, rfl, Row.new _ _ _, (hb0.alloc hb0.size _).drew⟩
  case rest =>
    obtain ⟨g, rfl, rfl, rfl, rfl, hG, hB⟩ := hcut
    have d0 : wc.cell? ⟨g, 0, none⟩ = some (.int .i64 V) := hG.cell 0
    have d1 : wc.cell? ⟨g, 1, none⟩ = some (.slice A E.length c) := hG.cell 1
    go_wp2_with fail
    refine (copy_any V A E c wc hl (hE.later hB)).mono ?_
    rintro e w2 ⟨h, rfl, _, hRh, hb2⟩
    have hB2 := bthen hB hb2
    clear d0 d1
    go_wp2_with fail
    refine (path_any V s t inner (some ⟨h, 0, none⟩) E E.length w2 hl hRh.rd (hT.later hB2)).mono ?_
    rintro e w3 ⟨va, Z, k1, rfl, hownA, hPA, hb3⟩
    obtain ⟨Aa, ca, rfl, _, _, hZr, _⟩ := Rd.of_own hownA
    have hB3 := bthen hB2 hb3
    have d0 : w3.cell? ⟨g, 0, none⟩ = some (.int .i64 V) := (hG.later (bthen hb2 hb3)).cell 0
    have d1 : w3.cell? ⟨g, 1, none⟩ = some (.slice A E.length c) := (hG.later (bthen hb2 hb3)).cell 1
    go_wp2_with fail
    refine (rpath_any V s t inner A E c w3 hl (hE.later hB3)).mono ?_
    rintro e w4 ⟨vb, Y, k2, rfl, hownB, hPB, hb4⟩
    obtain ⟨e1, e2⟩ := pathIs_uniq hPA.out hPB.out
    subst e1 e2
    have hl30 := pathIs_len hPA.out
    clear hPA hPB
    obtain ⟨Ab, cb, rfl, _, _, hZr2, _⟩ := Rd.of_own hownB
    have hB4 := bthen hB3 hb4
    go_wp2_with fail
    refine (awake_any w4 (hT.later hB4)).mono ?_
    rintro e w5 ⟨rfl, hb5⟩
    have hB5 := bthen hB4 hb5
    go_wp2_with fail
    have hsi := sameInts_any Aa Ab (Z.map Int.ofNat) (Z.map Int.ofNat) ca cb w5 (by simp; omega) (by simp; omega) (hZr.later (bthen hb4 hb5)) (hZr2.later hb5)
    rw [List.length_map] at hsi
    refine hsi.mono ?_
    rintro e w6 ⟨rfl, nd, rfl⟩
    rw [beq_self_eq_true]
    go_wp2
    go_ret
    exact ⟨rfl, below_drewN hB5 _⟩
end Go.Proofs.YtaongngoacbodaaDoor
