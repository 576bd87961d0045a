/- builder.first: the first phase of a plan. -/
import Derived.Test.YtdemmjofggemhaaDoorPStep2
import Derived.Test.YtdemmjofggemhaaDoorPWith
import Derived.Test.YtdemmjofggemhaaDoorReplay1
import Derived.Deep.RegionLaw
namespace Go.Proofs.YtdemmjofggemhaaDoor
open Go.RowKit

theorem own_rd {w : World} {base size n c m : Nat} {e : TypeId} {A : Option Addr} {xs : List Value} (h : w.ownsRow base e size (.slice A n c) m xs) : Rd w w.heap.size A xs ∧ m ≤ c ∧ n = m := by
  obtain ⟨A', c', e1, h1, _, h2, _⟩ := Rd.of_ownS h
  injection e1 with e1 e2 e3
  subst e1 e2 e3
  exact ⟨h2, h1, rfl⟩
theorem far_step : ¬ NearT 84 := by unfold NearT; decide
theorem far_left : ¬ NearT 77 := by unfold NearT; decide
theorem far_graph : ¬ NearT 61 := by unfold NearT; decide
/-- The builder behind the first n steps. -/
def afterPB (b : PB) (ss : List Stp) (n : Nat) : PB := (ss.take n).foldl stepPB b
theorem afterPB_next (b : PB) {ss : List Stp} {n : Nat} (h : n < ss.length) : afterPB b ss (n + 1) = stepPB (afterPB b ss n) (stp ss n) := by
  unfold afterPB; rw [take_stp h, List.foldl_append]; rfl
theorem afterPB_len (b : PB) (ss : List Stp) (n : Nat) : (afterPB b ss n).nodes.length ≤ b.nodes.length + ss.length := by
  have := (foldPB_len (ss.take n) b).1
  unfold afterPB
  rw [this, List.length_take]; omega
def FirstOk (E : List (BitVec 32)) (head : BitVec 32) (ss : List Stp) (n : Nat) (ok : Bool) : Prop :=
  n ≤ ss.length ∧ (∀ m, m < n → allIn (mkTo (beginE E) ss m) head = false) ∧ ((ok = true ∧ allIn (mkTo (beginE E) ss n) head = true) ∨ (ok = false ∧ n = ss.length ∧ allIn (mkTo (beginE E) ss n) head = false))

theorem sts_take (ss : List Stp) (k : Nat) : (sts ss).take (k * 4) = sts (ss.take k) := by
  unfold sts
  induction ss generalizing k with
  | nil => simp
  | cons s ss ih =>
    cases k with
    | zero => simp
    | succ k =>
      rw [List.take_succ_cons, List.flatMap_cons, List.flatMap_cons, List.take_append, ← ih k]
      have : (stC s).length = 4 := rfl
      rw [List.take_of_length_le (by rw [this]; omega), this, show (k + 1) * 4 - 4 = k * 4 by omega]
set_option maxRecDepth 100000 in
set_option maxHeartbeats 8000000 in
theorem first_any (base gb : Nat) (V : Int) (A : Option Addr) (E : List (BitVec 32)) (c : Nat) (head : BitVec 32) (b : PB) (g : Gr) (ss : List Stp) (hss : ss = (runE E head).1) (w : World) (hbase : base ≤ w.heap.size) (hT : Tab w) (htb : 0 < base) (hbg : base ≤ gb)
    (hv : validB V E = true) (hE : Rd w base A (us E)) (hf : Fit (beginE E) b g) (hl : b.nodes.length ≤ 700) (h : BM base gb b w) :
    Calls Tryd.prog 21 #[.pointer (some ⟨gb, 0, none⟩), .agg #[.int .i64 V, .slice A E.length c], .int .u32 (uz head)] w fun e w' => ∃ v ok n, e = .returned (.tuple #[v, .bool ok]) ∧ Hid (FirstOk E head ss n ok) ∧
      BM base gb (afterPB b ss n) w' ∧ Below base w w' ∧ (ok = true → w'.ownsRow w.heap.size 77 2 v (mkTo (beginE E) ss n).length (lfs (mkTo (beginE E) ss n))) := by
  have h7 := (validB_of hv).2.2.1
  have HR := Lib.hid (runE_rch E head)
  have hsl := runE_len E head
  rw [← hss] at HR hsl
  have HSS := Lib.hid hss
  have HF := Lib.hid hf
  have HV := Lib.hid hv
  clear hf hv hss
  generalize (runE E head).2 = M at HR
  go_enter Tryd.func21, Tryd.ntmps21
  go_upto_region 1 with fail
  have hg0 : Row (w.alloc (.cells #[.int .i64 V, .slice A E.length c] 61)) w.heap.size 61 [.int .i64 V, .slice A E.length c] := Row.new _ _ _
  have hb0 := below_alloc w (.cells #[.int .i64 V, .slice A E.length c] 61)
  have hB0 := h.later hb0
  have hT0 := hT.later hb0
  have hE0 := hE.below (hb0.mono hbase)
  have hbsw : w.heap.size ≤ (w.alloc (.cells #[.int .i64 V, .slice A E.length c] 61)).heap.size := hb0.size
  generalize w.heap.size = gs at hg0 ⊢
  generalize w.alloc _ = w0 at hg0 hB0 hT0 hb0 hE0 hbsw ⊢
  have hbs0 : base ≤ w0.heap.size := Nat.le_trans hbase hb0.size
  have q0 : w0.cell? ⟨gs, 0, none⟩ = some (.int .i64 V) := hg0.cell 0
  have q1 : w0.cell? ⟨gs, 1, none⟩ = some (.slice A E.length c) := hg0.cell 1
  go_wp2_with fail
  refine (run_any V A E c head w0 (by omega) (hE0.mono hbs0)).mono ?_
  rintro e w1 ⟨v1, v2, tt, M2, code, rfl, ho1, _, hRI, hb1⟩
  have hts : tt = ss ∧ code = 0 := by
    rcases hRI.out with ⟨a, _⟩ | ⟨_, a, b, c⟩
    · rw [HV.out] at a; cases a
    · exact ⟨a.trans HSS.out.symm, c⟩
  clear hRI
  obtain ⟨rfl, rfl⟩ := hts
  obtain ⟨A1, c1, rfl, hc1, _, _, _⟩ := Rd.of_ownS ho1
  have hB1 := hB0.later hb1
  have hT1 := hT0.later hb1
  have hE1 := hE0.below (hb1.mono hbs0)
  have hg1 := hg0.later hb1
  have hbb1 := hb0.trans (hb1.mono hb0.size)
  have hbw1 : Below base w w1 := hbb1.mono hbase
  have hbs1 : base ≤ w1.heap.size := Nat.le_trans hbase hbb1.size
  clear hB0 hT0 hE0 hg0 hb0 hb1 q0 q1 hbsw
  go_wp2_with fail
  go_loopw [11, 12, 13, 14] (fun n _ _ _ wr => ∃ k : Nat, k ≤ tt.length ∧ n = .int .i64 k ∧ Hid (∀ m, m < k → allIn (mkTo (beginE E) tt m) head = false) ∧ BM base gb (afterPB b tt k) wr ∧ Below base w wr ∧ KeptT w1 wr) (fun n _ _ _ _ => tt.length - (intOf n).toNat)
  case atStart => exact ⟨0, Nat.zero_le _, rfl, Lib.hid fun m hm => absurd hm (Nat.not_lt_zero _), hB1, hbw1, KeptT.refl _⟩
  case round =>
    obtain ⟨k, hk, rfl, HN, hB, hb, hkt⟩ := hrel
    have hgr := hkt.row hg1 far_graph
    have hor := hkt.own ho1 far_step
    have hTr : Tab wr := hT.kept htb hb
    have hbs : base ≤ wr.heap.size := Nat.le_trans hbase hb.size
    have hEr : Rd wr wr.heap.size A (us E) := (hE.below hb).mono hbs
    have hSr := (own_rd hor).1
    have htl : (tt.take k).length = k := by rw [List.length_take]; omega
    have hSk : Rd wr wr.heap.size A1 (sts (tt.take k)) := by
      have h1 := hSr.take (k * 4)
      rwa [sts_take] at h1
    have HRP := Lib.hid (replay_any V A E c head A1 (tt.take k) c1 wr.drew (by omega) hEr (by omega) hSk)
    rw [htl] at HRP
    have HL : Hid (∀ L m code, ReplIs V E head (tt.take k) L m code → L = mkTo (beginE E) tt k) := Lib.hid fun L m code hr => repl_take HR.out HV.out hk hr
    have q0 : wr.cell? ⟨gs, 0, none⟩ = some (.int .i64 V) := hgr.cell 0
    have q1 : wr.cell? ⟨gs, 1, none⟩ = some (.slice A E.length c) := hgr.cell 1
    have a1 : (0 : Int) ≤ k := by omega
    have a2 : (k : Int) ≤ c1 := by omega
    go_upto_region 4 with fail
    go_region_law (first | (go_simp; go_at_call 42; refine HRP.out.mono ?_; rintro e w2 ⟨v, L, m, code, rfl, hoL, hRL, hb2⟩))
    have hLe := Lib.hid (HL.out L m code hRL.out)
    have hL7 : L.length ≤ 7 := by rw [hLe.out]; exact Nat.le_trans (mkTo_len _ _ _) (by rw [begin_len]; exact h7)
    obtain ⟨AL, cL, rfl, _, _, hLr, _⟩ := Rd.of_ownS hoL
    have hb2' : Below wr.heap.size wr w2 := ⟨hb2.os, hb2.tape, hb2.output, hb2.size, hb2.block⟩
    have hoL' : w2.ownsRow w.heap.size 77 2 (.slice AL L.length cL) L.length (lfs L) := own_less hoL hb.size
    have hB2 := hB.later hb2'
    have hbb2 := hb.trans (hb2'.mono hbs)
    have hk2 := hkt.later hb2'
    have hbs2 : base ≤ w2.heap.size := Nat.le_trans hbase hbb2.size
    clear hRL HL HRP hB hEr hSr hSk hgr hor hkt hoL hb2 hTr q0 q1 hb2'
    have HWI := Lib.hid (plan_within_any AL L cL head w2 (by omega) hLr)
    cases hin : allIn L head
    · rw [hin] at HWI
      have hin' : allIn (mkTo (beginE E) tt k) head = false := by rw [← hLe.out]; exact hin
      clear hin hLr hoL'
      rcases Nat.lt_or_ge k tt.length with hlt | hge
      · have b1 : ((k : Int) == (tt.length : Int)) = false := by rw [beq_eq_false_iff_ne]; omega
        have b2 : (k : Int) < tt.length := by omega
        go_wp2_with fail
        refine HWI.out.mono ?_
        rintro e w3 ⟨rfl, hb3⟩
        have hB3 := hB2.later hb3
        have hbb3 := hbb2.trans (hb3.mono hbs2)
        have hk3 := hk2.later hb3
        have hbs3 : base ≤ w3.heap.size := Nat.le_trans hbase hbb3.size
        have hT3 : Tab w3 := hT.kept htb hbb3
        obtain ⟨ad, hA, _, c0, c1', c2, c3⟩ := (own_rd (hk3.own ho1 far_step)).1.st_cells hlt
        subst hA
        have HST := Lib.hid (step_any base gb (afterPB b tt k) (mkTo (beginE E) tt k) _ head (stp tt k) w3 hbs3 hT3 htb hbg (mkTo_srt (srt_begin E) tt k) (HR.out.stp_at k hlt) (Fit.take HR.out (srt_begin E) HF.out hk) (by have := afterPB_len b tt k; omega) hB3)
        have HNX : Hid (∀ m, m < k + 1 → allIn (mkTo (beginE E) tt m) head = false) := Lib.hid fun m hm => by
          rcases Nat.lt_or_ge m k with d | d
          · exact HN.out m d
          · obtain rfl : m = k := by omega
            exact hin'
        rw [← afterPB_next b hlt] at HST
        clear hB2 hk2 hbb2 hB3 hT3 hin' HN
        generalize stp tt k = s at c0 c1' c2 c3 HST
        go_wp2_with fail
        refine HST.out.mono ?_
        rintro e w4 ⟨rfl, hB4, hb4, hk4⟩
        go_wp2_with fail
        go_roundw
        case rel => exact ⟨k + 1, by omega, by go_num, HNX, hB4, hbb3.trans hb4, hk3.trans hk4⟩
        case measure => simp [intOf]; omega
      · obtain rfl : k = tt.length := by omega
        have b1 : ((tt.length : Int) == (tt.length : Int)) = true := by simp
        go_wp2_with fail
        refine HWI.out.mono ?_
        rintro e w3 ⟨rfl, hb3⟩
        have hB3 := hB2.later hb3
        have hbb3 := hbb2.trans (hb3.mono hbs2)
        go_wp2_with fail
        go_ret2
        exact ⟨_, false, tt.length, rfl, Lib.hid ⟨hk, HN.out, .inr ⟨rfl, rfl, hin'⟩⟩, hB3, hbb3, fun c => by cases c⟩
    · rw [hin] at HWI
      have hin' : allIn (mkTo (beginE E) tt k) head = true := by rw [← hLe.out]; exact hin
      go_wp2_with fail
      refine HWI.out.mono ?_
      rintro e w3 ⟨rfl, hb3⟩
      have hB3 := hB2.later hb3
      have hbb3 := hbb2.trans (hb3.mono hbs2)
      have ho3 := own_below hoL' hb3
      go_wp2_with fail
      go_ret2
      exact ⟨_, true, k, rfl, Lib.hid ⟨hk, HN.out, .inl ⟨rfl, hin'⟩⟩, hB3, hbb3, fun _ => by rw [← hLe.out]; exact ho3⟩
end Go.Proofs.YtdemmjofggemhaaDoor
