/- The names v0, v1, .. by the places of the old ones: fit to name a query anew. No program in sight. -/
import Derived.Test.YtdemmjofggemhaaDoorPRen
namespace Go.Proofs.YtdemmjofggemhaaDoor
open Go.RowKit

/-- The number as it is written, below 100. -/
def dig (k : Nat) : ByteArray := if k < 10 then ⟨#[UInt8.ofNat (48 + k)]⟩ else ⟨#[UInt8.ofNat (48 + k / 10), UInt8.ofNat (48 + k % 10)]⟩
def vee : ByteArray := ⟨#[118]⟩
def vdig (k : Nat) : ByteArray := vee ++ dig k
theorem vdig_name : ∀ k, k < 30 → nameB (vdig k) = true := by decide +kernel
theorem vdig_inj : ∀ i, i < 30 → ∀ j, j < 30 → vdig i = vdig j → i = j := by decide +kernel
/-- The names that a query shows, one behind another; each once. -/
def oldL (q : Qy) : List ByteArray := q.head ++ ((q.atoms.flatMap Am.terms).map Tm.var).filter fun x => !decide (x = ByteArray.empty)
def seenOf (L : List ByteArray) : List ByteArray := L.foldl addS []
theorem mem_foldS' {x : ByteArray} : ∀ (L : List ByteArray) {out : List ByteArray}, x ∈ L.foldl addS out ↔ x ∈ out ∨ x ∈ L
  | [], _ => by simp
  | v :: L, out => by
    rw [List.foldl_cons, mem_foldS' L, mem_addS]
    simp only [List.mem_cons, or_assoc]
theorem foldS_nodup' : ∀ (L : List ByteArray) {out : List ByteArray}, out.Nodup → (L.foldl addS out).Nodup
  | [], _, h => h
  | v :: L, _, h => foldS_nodup' L (addS_nodup h v)
theorem mem_seenOf {L : List ByteArray} {x : ByteArray} : x ∈ seenOf L ↔ x ∈ L := by
  unfold seenOf; rw [mem_foldS']; simp
theorem seenOf_nodup (L : List ByteArray) : (seenOf L).Nodup := foldS_nodup' L List.nodup_nil
def plainF (seen : List ByteArray) (s : ByteArray) : ByteArray := vdig (atI seen s).toNat
theorem mem_oldL {q : Qy} (hg : GoodQ q) {x : ByteArray} : x ∈ oldL q ↔ x ∈ qvars q.atoms := by
  unfold oldL
  rw [List.mem_append, List.mem_filter, List.mem_map, mem_qvars]
  constructor
  · rintro (a | ⟨⟨t, ht, rfl⟩, b⟩)
    · exact mem_qvars.1 (hg.safe x a)
    · obtain ⟨a, ha, hta⟩ := List.mem_flatMap.1 ht
      exact ⟨by simpa using b, a, ha, t, hta, rfl⟩
  · rintro ⟨h, a, ha, t, ht, rfl⟩
    exact .inr ⟨⟨t, List.mem_flatMap.2 ⟨a, ha, ht⟩, rfl⟩, by simpa using h⟩
theorem sub_len {A B : List ByteArray} (hn : A.Nodup) (h : ∀ x ∈ A, x ∈ B) : A.length ≤ B.length := by
  induction A generalizing B with
  | nil => simp
  | cons a A ih =>
    rw [List.nodup_cons] at hn
    have ha := h a (by simp)
    obtain ⟨s, u, rfl⟩ := List.append_of_mem ha
    have h1 := ih hn.2 (B := s ++ u) fun x hx => by
      have h2 := h x (by simp [hx])
      simp only [List.mem_append, List.mem_cons] at h2 ⊢
      rcases h2 with a | rfl | a
      · exact .inl a
      · exact absurd hx hn.1
      · exact .inr a
    simp only [List.length_append, List.length_cons] at h1 ⊢
    omega
theorem seen_few {q : Qy} (hg : GoodQ q) : (seenOf (oldL q)).length ≤ 30 :=
  Nat.le_trans (sub_len (seenOf_nodup _) fun _ hx => (mem_oldL hg).1 (mem_seenOf.1 hx)) (qvars_length hg.narrow hg.few)
/-- The place of a name that is there. -/
theorem seen_at {q : Qy} (hg : GoodQ q) {x : ByteArray} (hx : x ∈ qvars q.atoms) : ∃ k : Nat, atI (seenOf (oldL q)) x = k ∧ k < 30 ∧ nm (seenOf (oldL q)) k = x := by
  rcases atI_cases (seenOf (oldL q)) x with ⟨_, a⟩ | ⟨k, e, hk, hn, _⟩
  · exact absurd (mem_seenOf.2 ((mem_oldL hg).2 hx)) a
  · exact ⟨k, e, Nat.lt_of_lt_of_le hk (seen_few hg), hn⟩
theorem plain_ok {q : Qy} (hg : GoodQ q) : RenOk (plainF (seenOf (oldL q))) (qvars q.atoms) := by
  refine ⟨fun x hx y hy e => ?_, fun x hx => ?_⟩
  · obtain ⟨i, e1, h1, n1⟩ := seen_at hg hx
    obtain ⟨j, e2, h2, n2⟩ := seen_at hg hy
    unfold plainF at e
    rw [e1, e2, Int.toNat_natCast, Int.toNat_natCast] at e
    obtain rfl := vdig_inj i h1 j h2 e
    rw [← n1, n2]
  · obtain ⟨i, e1, h1, _⟩ := seen_at hg hx
    unfold plainF
    rw [e1, Int.toNat_natCast]
    exact vdig_name i h1
end Go.Proofs.YtdemmjofggemhaaDoor
