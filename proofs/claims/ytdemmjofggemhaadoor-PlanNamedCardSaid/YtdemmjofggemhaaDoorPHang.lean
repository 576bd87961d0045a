/- plan.hang: each node's parent. -/
import Derived.Test.YtdemmjofggemhaaDoorPNode
import Derived.Test.YtdemmjofggemhaaDoorPStep
namespace Go.Proofs.YtdemmjofggemhaaDoor
open Go.RowKit

def ndx (L : List Nd) (j : Nat) : Nd := L.getD j ⟨0, 0, none, 0, [], 0, 0, 0, false⟩
theorem ndx_eq (L : List Nd) (j : Nat) (h : j < L.length) : L[j] = ndx L j := by simp [ndx, h]
/-- The nodes with other parents. -/
def withPar (L : List Nd) (f : Nat → Int) : List Nd := (List.range L.length).map fun j => { ndx L j with parent := f j }
@[simp] theorem withPar_length (L : List Nd) (f : Nat → Int) : (withPar L f).length = L.length := by simp [withPar]
theorem withPar_at (L : List Nd) (f : Nat → Int) {j : Nat} (h : j < L.length) : (withPar L f)[j]'(by simpa using h) = { ndx L j with parent := f j } := by simp [withPar]
theorem withPar_self (L : List Nd) (h : ∀ n ∈ L, n.parent = -1) : withPar L (fun _ => -1) = L := by
  apply List.ext_getElem
  · simp
  · intro k h1 h2
    rw [withPar_at L _ h2, ← ndx_eq L k h2]
    have := h L[k] (List.getElem_mem h2)
    cases hx : L[k]; rw [hx] at this; simp_all
theorem withPar_vb {L : List Nd} {f : Nat → Int} {n : Nd} (h : n ∈ withPar L f) : ∃ m ∈ L, vb n = vb m ∧ n.vars = m.vars := by
  unfold withPar at h
  obtain ⟨j, hj, rfl⟩ := List.mem_map.1 h
  have hj' := List.mem_range.1 hj
  exact ⟨ndx L j, by rw [← ndx_eq L j hj']; exact List.getElem_mem _, rfl, rfl⟩
theorem nds_set (L : List Nd) (c j : Nat) (x : Nd) (u : Value) (hc : c < L.length) (hx : ndC x = (ndC L[c]).set j u) (hj : j < 7) : (nds L).set (c * 7 + j) u = nds (L.set c x) := by
  apply List.ext_getElem?
  intro k
  have hl : (nds L).length = L.length * 7 := nds_length L
  have hl2 : (nds (L.set c x)).length = L.length * 7 := by rw [nds_length, List.length_set]
  rcases Nat.lt_or_ge k (L.length * 7) with h | h
  · have hk : k / 7 < L.length := by omega
    have e : k = k / 7 * 7 + k % 7 := by omega
    have h7 : k % 7 < 7 := by omega
    have r : (nds (L.set c x))[k]? = (ndC ((L.set c x)[k / 7]'(by rw [List.length_set]; exact hk)))[k % 7]? := by
      have := nds_get (L.set c x) (k / 7) (k % 7) (by rw [List.length_set]; exact hk) h7
      rwa [← e] at this
    have l : (nds L)[k]? = (ndC L[k / 7])[k % 7]? := by
      have := nds_get L (k / 7) (k % 7) hk h7
      rwa [← e] at this
    rw [r, List.getElem?_set, List.getElem_set]
    by_cases c1 : c * 7 + j = k
    · have c2 : c = k / 7 := by omega
      have c3 : j = k % 7 := by omega
      rw [if_pos c1, if_pos c2, hx, if_pos (by rw [hl]; omega)]
      subst c3
      have : (ndC L[c]).length = 7 := rfl
      rw [List.getElem?_set, if_pos rfl, if_pos (by rw [this]; exact h7)]
    · rw [if_neg c1, l]
      by_cases c2 : c = k / 7
      · have c3 : j ≠ k % 7 := by omega
        rw [if_pos c2, hx, List.getElem?_set, if_neg c3]
        subst c2; rfl
      · rw [if_neg c2]
  · rw [List.getElem?_eq_none (by rw [List.length_set, hl]; exact h), List.getElem?_eq_none (by rw [hl2]; exact h)]
theorem nds_par (L : List Nd) (f : Nat → Int) {c : Nat} (hc : c < L.length) (i : Int) : (nds (withPar L f)).set (c * 7 + 5) (.int .i64 i) = nds (withPar L (updI f c i)) := by
  rw [nds_set (withPar L f) c 5 { ndx L c with parent := i } _ (by simpa using hc) (by rw [withPar_at L f hc]; rfl) (by decide)]
  congr 1
  apply List.ext_getElem
  · simp
  · intro k h1 h2
    have hk : k < L.length := by simpa using h2
    have r := withPar_at L (updI f c i) hk
    rw [r, List.getElem_set]
    by_cases e : c = k
    · subst e; rw [if_pos rfl]; simp [updI]
    · have r2 := withPar_at L f hk
      rw [if_neg e, r2]; simp [updI, Ne.symm e]
theorem chl_par (L : List Nd) (f : Nat → Int) {k : Nat} (hk : k < L.length) : chl (nd ((withPar L f).map pl) k) = chl (nd (L.map pl) k) := by
  rw [nd_pl (withPar L f) (by simpa using hk), nd_pl L hk, withPar_at L f hk, ndx_eq L k hk]; rfl
theorem own_cellS {w : World} {base size g n cap m : Nat} {e : TypeId} {xs : List Value} (h : w.ownsRow base e size (.slice (some ⟨g, 0, none⟩) n cap) m xs) {k : Nat} (hk : k < xs.length) : ∃ u, w.cell? ⟨g, k, none⟩ = some u := by
  obtain ⟨A, c, e1, _, _, hR, _⟩ := Rd.of_ownS h
  injection e1 with e1
  subst e1
  obtain ⟨ad, e2, _, hc⟩ := hR k hk
  injection e2 with e2
  subst e2
  rw [Addr.add_lit, Nat.zero_add] at hc
  exact ⟨_, hc⟩
/-- Who hangs the j-th node when k nodes and m of the next one's children have been seen. -/
def hangF (N : List PNd) (k m : Nat) (j : Nat) : Int := if (j : Int) ∈ (chl (nd N k)).take m then (k : Int) else parN N j k
theorem hangF_zero (N : List PNd) (k : Nat) : hangF N k 0 = fun j => parN N j k := by funext j; simp [hangF]
theorem hangF_next (N : List PNd) (k m c : Nat) (hm : m < (chl (nd N k)).length) (hc : pz (chl (nd N k)) m = c) : updI (hangF N k m) c k = hangF N k (m + 1) := by
  funext j
  have e : (chl (nd N k)).take (m + 1) = (chl (nd N k)).take m ++ [(c : Int)] := by
    rw [← hc, ← pz_eq _ m hm]; simp
  unfold updI hangF
  rw [e]
  by_cases h : j = c
  · subst h; simp
  · have : (j : Int) ≠ c := by omega
    simp [h, this]
theorem hangF_last (N : List PNd) (k : Nat) : hangF N k (chl (nd N k)).length = fun j => parN N j (k + 1) := by
  funext j
  unfold hangF
  rw [List.take_length]; rfl

set_option maxRecDepth 100000 in
set_option maxHeartbeats 4000000 in
theorem hang_any (gp base base' : Nat) (vv vh : Value) (A : Option Addr) (L : List Nd) (c : Nat) (root : Int) (vt : Value) (w : World) (hL : 0 < L.length) (hl : L.length ≤ 1000) (hP : PRow w gp vv vh A L.length c root vt) (ho : w.ownsRow base 58 7 (.slice A L.length c) L.length (nds L))
    (hv : ∀ n ∈ L, w.ownsRow base' 3 1 (vb n) n.vars.length (is n.vars)) (hp : ∀ n ∈ L, n.parent = -1) (hW : ∀ i, i < L.length → ∀ x ∈ chl (nd (L.map pl) i), ∃ k : Nat, x = k ∧ k < L.length) :
    Calls Tryd.prog 27 #[.pointer (some ⟨gp, 0, none⟩)] w fun e w' => e = .returned (.tuple #[]) ∧ w'.ownsRow base 58 7 (.slice A L.length c) L.length (nds (withPar L fun j => parN (L.map pl) j L.length)) ∧ w.grownBy w' (Value.slice A L.length c).ownBlock := by
  obtain ⟨g, rfl⟩ : ∃ g, A = some ⟨g, 0, none⟩ := by
    rcases ho.2 with ⟨e, e2⟩ | ⟨g, cap, cur, hv, _⟩
    · omega
    · injection hv with e _ _; exact ⟨g, e⟩
  go_enter Tryd.func27, Tryd.ntmps27
  have q2 : w.cell? ⟨gp, 2, none⟩ = some (.slice (some ⟨g, 0, none⟩) L.length c) := Row.cell hP 2
  go_wp2_with fail
  have hpg : (Value.slice (some (⟨g, 0, none⟩ : Addr)) L.length c).ownBlock = some g := rfl
  have hne1 : (some g : Option Nat) ≠ some gp := own_row_ne ho hP (by decide)
  have HP := Lib.hid hP
  have HO := Lib.hid (fun n hn q hq => own_own_ne ho (hv n hn) (by decide) q hq)
  go_loopw [2, 4, 10] (fun _ _ x wr => ∃ k : Nat, k ≤ L.length ∧ x = .int .i64 k ∧ wr.ownsRow base 58 7 (.slice (some ⟨g, 0, none⟩) L.length c) L.length (nds (withPar L fun j => parN (L.map pl) j k)) ∧ w.grownBy wr (some g)) (fun _ _ x _ => L.length - (intOf x).toNat)
  case atStart => exact ⟨0, Nat.zero_le _, rfl, by rw [show (fun j => parN (L.map pl) j 0) = fun _ => (-1 : Int) from rfl, withPar_self L hp]; exact ho, rfl, rfl, rfl, Nat.le_refl _, fun _ _ _ => rfl⟩
  case round =>
    obtain ⟨k, hk, rfl, hok, hgr⟩ := hrel
    by_cases hlt : k < L.length
    · have hPr : PRow wr gp vv vh (some ⟨g, 0, none⟩) L.length c root vt := Row.grown HP.out hgr hne1
      have hvr : ∀ n ∈ L, wr.ownsRow base' 3 1 (vb n) n.vars.length (is n.vars) := fun n hn => own_grown (hv n hn) hgr (HO.out n hn)
      have hNr : NdR wr wr.heap.size (some ⟨g, 0, none⟩) ((withPar L fun j => parN (L.map pl) j k).map pl) := NdR.of_own (c := c) (by rw [withPar_length]; exact hok) fun n hn => by
        obtain ⟨m, hm, e1, e2⟩ := withPar_vb hn
        rw [e1, e2]; exact hvr m hm
      have hCH := children_any gp vv vh (some ⟨g, 0, none⟩) ((withPar L fun j => parN (L.map pl) j k).map pl) c root vt k wr (by simpa using hlt) (by rw [List.length_map, withPar_length]; exact hPr) hNr
      rw [chl_par L _ hlt] at hCH
      have HCH := Lib.hid hCH
      have HWk := Lib.hid (hW k hlt)
      have HN := Lib.hid (hangF_next (L.map pl) k)
      have HZ := Lib.hid (hangF_zero (L.map pl) k)
      have HE := Lib.hid (hangF_last (L.map pl) k)
      have a1 : (0 : Int) ≤ k := by omega
      have a2 : (k : Int) < L.length := by omega
      have hc2 := chl_len (nd (L.map pl) k)
      clear hCH hNr
      generalize chl (nd (L.map pl) k) = C at HCH HWk HN HE hc2
      go_wp2_with fail
      refine HCH.out.mono ?_
      rintro e w1 ⟨v, rfl, hoc, hb1⟩
      obtain ⟨AC, cC, rfl, _, _, _, _⟩ := Rd.of_own hoc
      have hok1 := own_below hok hb1
      rw [← HZ.out] at hok1
      have hgr1 : w.grownBy w1 (some g) := ⟨hb1.os.trans hgr.os, hb1.tape.trans hgr.tape, hb1.output.trans hgr.output, Nat.le_trans hgr.size hb1.size, fun q hq hne => (hb1.block q (Nat.lt_of_lt_of_le hq hgr.size)).trans (hgr.block q hq hne)⟩
      go_wp2_with fail
      go_loopw [4, 17] (fun _ y wi => ∃ m : Nat, m ≤ C.length ∧ y = .int .i64 m ∧ wi.ownsRow base 58 7 (.slice (some ⟨g, 0, none⟩) L.length c) L.length (nds (withPar L (hangF (L.map pl) k m))) ∧ wi.ownsRow wr.heap.size 3 1 (.slice AC C.length cC) C.length (is C) ∧ w.grownBy wi (some g)) (fun _ y _ => C.length - (intOf y).toNat)
      case atStart => exact ⟨0, Nat.zero_le _, rfl, hok1, hoc, hgr1⟩
      case round =>
        obtain ⟨m, hm, rfl, hoi, hci, hgi⟩ := hrel
        by_cases hlm : m < C.length
        · obtain ⟨ad', hA', _, hcm⟩ := (Rd.of_own' hci).p_at hlm
          subst hA'
          obtain ⟨cn, hcn, hcl⟩ := HWk.out (pz C m) (by rw [← pz_eq C m hlm]; exact List.getElem_mem _)
          have HN2 := Lib.hid (HN.out m cn hlm hcn)
          rw [hcn] at hcm
          have hPi : PRow wr gp vv vh (some ⟨g, 0, none⟩) L.length c root vt := Row.grown HP.out hgi hne1
          have r2 : wr.cell? ⟨gp, 2, none⟩ = some (.slice (some ⟨g, 0, none⟩) L.length c) := Row.cell hPi 2
          have b1 : (0 : Int) ≤ m := by omega
          have b2 : (m : Int) < C.length := by omega
          have b3 : (0 : Int) ≤ cn := by omega
          have b4 : (cn : Int) < L.length := by omega
          have f1 := own_frozen hoi (cn * 7 + 5)
          obtain ⟨u, f2⟩ := own_cellS hoi (k := cn * 7 + 5) (by rw [nds_length, withPar_length]; omega)
          have hpo := own_put hoi (k := cn * 7 + 5) (.int .i64 (k : Int))
          rw [nds_par L _ hcl, HN2.out] at hpo
          have hco := own_other hci (k := cn * 7 + 5) (u := .int .i64 (k : Int)) (own_own_ne hoi hci (by decide) _ rfl)
          have hgo : w.grownBy (wr.setCell ⟨g, cn * 7 + 5, none⟩ (.int .i64 (k : Int))) (some g) := ⟨hgi.os, hgi.tape, hgi.output, by have := hgi.size; simpa using this, fun q hq hne => (Below.heap_setCell wr ⟨g, cn * 7 + 5, none⟩ _ q (fun e => hne (by subst e; rfl))).trans (hgi.block q hq hne)⟩
          clear hcn
          go_wp2_with fail
          go_roundw
          case rel => exact ⟨m + 1, by omega, by go_num, hpo, hco, hgo⟩
          case measure => simp [intOf]; omega
        · obtain rfl : m = C.length := by omega
          rw [HE.out] at hoi
          go_wp2_with fail
          go_roundw
          case rel => exact ⟨k + 1, by omega, by go_num, hoi, hgi⟩
          case measure => simp [intOf]; omega
    · obtain rfl : k = L.length := by omega
      go_wp2_with fail
      go_end0
      exact ⟨rfl, hok, hgr⟩
end Go.Proofs.YtdemmjofggemhaaDoor
