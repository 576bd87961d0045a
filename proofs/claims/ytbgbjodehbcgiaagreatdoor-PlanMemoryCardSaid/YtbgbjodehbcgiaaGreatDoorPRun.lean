/- A removal's steps, as far as some of them. No program in sight. -/
import Derived.Test.YtbgbjodehbcgiaaGreatDoorPFit
namespace Go.Proofs.YtbgbjodehbcgiaaGreatDoor

theorem mkTo_cons (L : Lt) (s : Stp) (ss : List Stp) : ∀ n, mkTo L (s :: ss) (n + 1) = mkTo (makeE L s) ss n
  | 0 => rfl
  | n + 1 => by
    show makeE (mkTo L (s :: ss) (n + 1)) (stp (s :: ss) (n + 1)) = makeE (mkTo (makeE L s) ss n) (stp ss n)
    rw [mkTo_cons L s ss n]; rfl
theorem Rch.stp_at {keep : BitVec 32} {L M : Lt} {ss : List Stp} (r : Rch keep L ss M) : ∀ n, n < ss.length → IsStp (mkTo L ss n) keep (stp ss n) := by
  induction r with
  | nil => intro n hn; simp at hn
  | cons h _ ih =>
    intro n hn
    cases n with
    | zero => exact h
    | succ n =>
      rw [mkTo_cons]
      exact ih n (by simpa using hn)
theorem take_stp {ss : List Stp} {n : Nat} (h : n < ss.length) : ss.take (n + 1) = ss.take n ++ [stp ss n] := by
  rw [← stp_eq ss n h]; simp
theorem Rch.take {keep : BitVec 32} {L M : Lt} {ss : List Stp} (r : Rch keep L ss M) : ∀ n, n ≤ ss.length → Rch keep L (ss.take n) (mkTo L ss n)
  | 0, _ => .nil L
  | n + 1, hn => by
    rw [take_stp (by omega)]
    exact (r.take n (by omega)).snoc (r.stp_at n (by omega))
theorem Rch.end_ {keep : BitVec 32} {L M : Lt} {ss : List Stp} (r : Rch keep L ss M) : mkTo L ss ss.length = M := by
  induction r with
  | nil => rfl
  | @cons L M s ss _ _ ih => rw [List.length_cons, mkTo_cons]; exact ih
theorem stp_take {ss : List Stp} {n k : Nat} (h : k < n) : stp (ss.take n) k = stp ss k := by
  unfold stp
  simp only [List.getD_eq_getElem?_getD]
  rw [List.getElem?_take_of_lt h]
/-- What Replay tells of the first steps of a removal. -/
theorem repl_take {V : Int} {E : List (BitVec 32)} {keep : BitVec 32} {M L : Lt} {ss : List Stp} {m code : Int} {n : Nat} (r : Rch keep (beginE E) ss M) (hv : validB V E = true) (hn : n ≤ ss.length) (h : ReplIs V E keep (ss.take n) L m code) :
    L = mkTo (beginE E) ss n := by
  rcases h with ⟨c, _⟩ | ⟨_, _, k, _, hk, rfl, _, hend⟩
  · rw [hv] at c; cases c
  · have hl : (ss.take n).length = n := by rw [List.length_take]; omega
    rw [hl] at hk hend
    have e : ∀ j, j ≤ n → mkTo (beginE E) (ss.take n) j = mkTo (beginE E) ss j := fun j hj => mkTo_congr fun i hi => stp_take (by omega)
    rw [e k hk] at hend ⊢
    rcases hend with c | c
    · rw [c]
    · rcases Nat.lt_or_ge k n with d | d
      · rw [stp_take d] at c
        exact absurd ((mem_steps _ _ _).2 (r.stp_at k (by omega))) c
      · have : k = n := by omega
        rw [this]
theorem runE_len (E : List (BitVec 32)) (keep : BitVec 32) : (runE E keep).1.length ≤ 232 := runN_len _ _ _
theorem Fit.take {keep : BitVec 32} {L M : Lt} {ss : List Stp} (r : Rch keep L ss M) (hs : Srt L) {b : PB} {g : Gr} (h : Fit L b g) {n : Nat} (hn : n ≤ ss.length) : Fit (mkTo L ss n) ((ss.take n).foldl stepPB b) (growG L g (ss.take n)) := Fit.run (r.take n hn) hs h
theorem GInv.take {E : List (BitVec 32)} {keep : BitVec 32} {L M : Lt} {ss : List Stp} (r : Rch keep L ss M) {g : Gr} (h : GInv E L g) {n : Nat} (hn : n ≤ ss.length) : GInv E (mkTo L ss n) (growG L g (ss.take n)) := h.run (r.take n hn)
theorem stepPB_len (b : PB) (s : Stp) : (stepPB b s).nodes.length = b.nodes.length + 1 ∧ (stepPB b s).sets.length = b.sets.length ∧ (stepPB b s).pres.length = b.pres.length := by
  unfold stepPB; split <;> simp
theorem foldPB_len (ss : List Stp) : ∀ b : PB, (ss.foldl stepPB b).nodes.length = b.nodes.length + ss.length ∧ (ss.foldl stepPB b).sets.length = b.sets.length ∧ (ss.foldl stepPB b).pres.length = b.pres.length := by
  induction ss with
  | nil => intro b; simp
  | cons s ss ih =>
    intro b
    obtain ⟨h1, h2, h3⟩ := ih (stepPB b s)
    obtain ⟨k1, k2, k3⟩ := stepPB_len b s
    rw [List.foldl_cons]
    refine ⟨by rw [h1, k1, List.length_cons]; omega, by rw [h2, k2], by rw [h3, k3]⟩
end Go.Proofs.YtbgbjodehbcgiaaGreatDoor
