/- builder.step, whatever step it is: the memory holds the plain builder behind it. -/
import Derived.Test.YtdemmjofggemhaaDoorPStep
import Derived.Test.YtdemmjofggemhaaDoorBK
namespace Go.Proofs.YtdemmjofggemhaaDoor
open Go.RowKit

section
variable {w w' : World}
/-- A row of another kind is kept. -/
theorem KeptT.own {base size n : Nat} {e : TypeId} {v : Value} {xs : List Value} (h : KeptT w w') (ho : w.ownsRow base e size v n xs) (he : ¬ NearT e) : w'.ownsRow base e size v n xs := by
  refine ⟨ho.1, ?_⟩
  rcases ho.2 with h3 | ⟨g, cap, cur, hv, hg, hh, q⟩
  · exact .inl h3
  · refine .inr ⟨g, cap, cur, hv, hg, h.block g _ hh ?_, q⟩
    intro c t f e1
    injection e1 with _ e2 _
    subst e2
    refine ⟨fun c => he (.inl c), fun c => he (.inr (.inl c)), fun c => he (.inr (.inr (.inl c))), fun c => he (.inr (.inr (.inr c)))⟩
theorem KeptT.row {g : Nat} {e : TypeId} {xs : List Value} (h : KeptT w w') (ho : Row w g e xs) (he : ¬ NearT e) : Row w' g e xs := by
  refine h.block g _ ho ?_
  intro c t f e1
  injection e1 with _ e2 _
  subst e2
  exact ⟨fun c => he (.inl c), fun c => he (.inr (.inl c)), fun c => he (.inr (.inr (.inl c))), fun c => he (.inr (.inr (.inr c)))⟩
end
/-- The plain builder b is in memory, its nodes' vertices included. -/
def BM (base gb : Nat) (b : PB) (w : World) : Prop :=
  ∃ (L : List Nd) (AN : Option Addr) (cN gS cS gP cP : Nat), b.nodes = L.map pl ∧ BS base gb L b.sets b.pres AN cN gS cS gP cP w
theorem BM.later {base gb : Nat} {b : PB} {w w' : World} (h : BM base gb b w) (hb : Below w.heap.size w w') : BM base gb b w' := by
  obtain ⟨L, AN, cN, gS, cS, gP, cP, e, h⟩ := h
  exact ⟨L, AN, cN, gS, cS, gP, cP, e, h.later hb⟩
theorem step_any (base gb : Nat) (b : PB) (L : Lt) (g : Gr) (keep : BitVec 32) (s : Stp) (w : World) (hbase : base ≤ w.heap.size) (hT : Tab w) (htb : 0 < base) (hbg : base ≤ gb)
    (hs : Srt L) (hst : IsStp L keep s) (hf : Fit L b g) (hl : b.nodes.length ≤ 1000) (h : BM base gb b w) :
    Calls Tryd.prog 24 #[.pointer (some ⟨gb, 0, none⟩), .agg #[.int .i64 s.kind, .int .i64 s.edge, .int .i64 s.into, .int .u32 (uz s.cut)]] w fun en w' => en = .returned (.tuple #[]) ∧
      BM base gb (stepPB b s) w' ∧ Below base w w' ∧ KeptT w w' := by
  obtain ⟨Z, AN, cN, gS, cS, gP, cP, hZ, hB⟩ := h
  have hZl : b.nodes.length = Z.length := by rw [hZ]; simp
  rcases hst.cases hs with ⟨x, hx, hc, rfl⟩ | ⟨x, hx, y, hy, k, hne, hk, hsub, rfl⟩
  · obtain ⟨k1, k2⟩ := hf.key x hx
    refine (step_trim base gb Z b.sets b.pres AN cN gS cS gP cP x.1 0 (cutE L keep x) w hbase hT hB k1 k2 (by omega) hbg htb).mono ?_
    rintro en w' ⟨rfl, AN', cN', adr, cap, hB', hb', hk'⟩
    refine ⟨rfl, ⟨Z ++ [⟨2, 0, adr, cap, lst (ed b.sets x.1 &&& ~~~cutE L keep x), pz b.pres x.1, 0, -1, false⟩], AN', cN', gS, cS, gP, cP, ?_, ?_⟩, hb', hk'⟩
    · show (stepPB b ⟨1, x.1, 0, cutE L keep x⟩).nodes = _
      unfold stepPB
      rw [if_pos rfl, List.map_append, ← hZ]; rfl
    · have e : stepPB b ⟨1, x.1, 0, cutE L keep x⟩ = ⟨b.nodes ++ [⟨2, 0, lst (ed b.sets x.1 &&& ~~~cutE L keep x), pz b.pres x.1, 0, -1, false⟩], b.sets.set x.1 (ed b.sets x.1 &&& ~~~cutE L keep x), b.pres.set x.1 b.nodes.length⟩ := by
        unfold stepPB; rw [if_pos rfl]; rfl
      rw [e, hZl]
      exact hB'
  · obtain ⟨k1, k2⟩ := hf.key y hy
    refine (step_meet base gb Z b.sets b.pres AN cN gS cS gP cP x.1 y.1 k 0#32 w hk hbase hT hB k1 k2 (hf.key x hx).2 (by omega) hbg).mono ?_
    rintro en w' ⟨rfl, AN', cN', adr, cap, hB', hb', hk'⟩
    refine ⟨rfl, ⟨Z ++ [⟨3, 0, adr, cap, lst (ed b.sets y.1), pz b.pres y.1, pz b.pres x.1, -1, false⟩], AN', cN', gS, cS, gP, cP, ?_, ?_⟩, hb', hk'⟩
    · show (stepPB b ⟨k, x.1, y.1, 0#32⟩).nodes = _
      unfold stepPB
      rw [if_neg hk, List.map_append, ← hZ]; rfl
    · have e : stepPB b ⟨k, x.1, y.1, 0#32⟩ = ⟨b.nodes ++ [⟨3, 0, lst (ed b.sets y.1), pz b.pres y.1, pz b.pres x.1, -1, false⟩], b.sets, b.pres.set y.1 b.nodes.length⟩ := by
        unfold stepPB; rw [if_neg hk]; rfl
      rw [e, hZl]
      exact hB'
end Go.Proofs.YtdemmjofggemhaaDoor
