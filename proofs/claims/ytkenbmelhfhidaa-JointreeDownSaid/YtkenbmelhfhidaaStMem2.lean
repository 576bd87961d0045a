/- The cells of a struct in a slice, in the form in which a walk asks for them. -/
import Derived.Test.YtkenbmelhfhidaaStMem
namespace Go.Proofs.Ytkenbmelhfhidaa
open Go.RowKit

theorem add_off (a : Addr) (k j : Nat) : a.add (k + (j + 1)) = ⟨(a.add k).block, (a.add k).off + (j + 1), none⟩ := by
  rw [← Addr.add_add]; rfl
theorem Rd.st_cells {w : World} {B : Nat} {A : Option Addr} {ss : List Stp} (h : Rd w B A (sts ss)) {k : Nat} (hk : k < ss.length) :
    ∃ ad, A = some ad ∧ ad.block < B ∧ w.cell? (ad.add (k * 4)) = some (.int .i64 (stp ss k).kind) ∧ w.cell? ⟨(ad.add (k * 4)).block, (ad.add (k * 4)).off + 1, none⟩ = some (.int .i64 (stp ss k).edge) ∧
      w.cell? ⟨(ad.add (k * 4)).block, (ad.add (k * 4)).off + 2, none⟩ = some (.int .i64 (stp ss k).into) ∧ w.cell? ⟨(ad.add (k * 4)).block, (ad.add (k * 4)).off + 3, none⟩ = some (.int .u32 (uz (stp ss k).cut)) := by
  obtain ⟨ad, e, hl, h0, h1, h2, h3⟩ := h.st_at hk
  exact ⟨ad, e, hl, h0, (add_off ad (k * 4) 0) ▸ h1, (add_off ad (k * 4) 1) ▸ h2, (add_off ad (k * 4) 2) ▸ h3⟩
theorem Rd.lf_cells {w : World} {B : Nat} {A : Option Addr} {L : Lt} (h : Rd w B A (lfs L)) {k : Nat} (hk : k < L.length) :
    ∃ ad, A = some ad ∧ ad.block < B ∧ w.cell? (ad.add (k * 2)) = some (.int .i64 ((lft L k).1 : Nat)) ∧ w.cell? ⟨(ad.add (k * 2)).block, (ad.add (k * 2)).off + 1, none⟩ = some (.int .u32 (uz (lft L k).2)) := by
  obtain ⟨ad, e, hl, h0, h1⟩ := h.lf_at hk
  exact ⟨ad, e, hl, h0, (add_off ad (k * 2) 0) ▸ h1⟩
end Go.Proofs.Ytkenbmelhfhidaa
