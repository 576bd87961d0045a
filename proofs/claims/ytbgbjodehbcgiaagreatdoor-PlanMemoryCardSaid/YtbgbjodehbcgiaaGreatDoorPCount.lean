/- The plain law of a removal's length: how many steps of each kind there are. No program in sight. -/
import Derived.Test.YtbgbjodehbcgiaaGreatDoorConnLaw
namespace Go.Proofs.YtbgbjodehbcgiaaGreatDoor

theorem make_far {s : Stp} : ∀ {L : Lt}, (∀ y ∈ L, (y.1 : Int) ≠ s.edge) → makeE L s = L
  | [], _ => rfl
  | a :: L, h => by
    rw [makeE_cons, make_far fun y hy => h y (List.mem_cons_of_mem _ hy)]
    have := h a (List.mem_cons_self ..)
    simp [makeOf, this]
theorem makeE_app (L M : Lt) (s : Stp) : makeE (L ++ M) s = makeE L s ++ makeE M s := by simp [makeE]
/-- An edge parts the list; the others have other numbers. -/
theorem srt_part {L : Lt} (hs : Srt L) {x : Nat × BitVec 32} (hx : x ∈ L) : ∃ A B, L = A ++ x :: B ∧ (∀ y ∈ A, y.1 ≠ x.1) ∧ ∀ y ∈ B, y.1 ≠ x.1 := by
  obtain ⟨A, B, rfl⟩ := List.append_of_mem hx
  unfold Srt at hs
  rw [List.pairwise_append] at hs
  obtain ⟨_, h2, h3⟩ := hs
  refine ⟨A, B, rfl, fun y hy => ?_, fun y hy => ?_⟩
  · have := h3 y hy x (List.mem_cons_self ..); omega
  · have := (List.pairwise_cons.1 h2).1 y hy; omega
theorem make_trim_part {A B : Lt} {x : Nat × BitVec 32} {c : BitVec 32} {q : Int} (hA : ∀ y ∈ A, y.1 ≠ x.1) (hB : ∀ y ∈ B, y.1 ≠ x.1) : makeE (A ++ x :: B) ⟨1, x.1, q, c⟩ = A ++ (x.1, x.2 &&& ~~~c) :: B := by
  rw [makeE_app, makeE_cons, make_far (L := A) (fun y hy => by have := hA y hy; show (y.1 : Int) ≠ x.1; omega), make_far (L := B) (fun y hy => by have := hB y hy; show (y.1 : Int) ≠ x.1; omega)]
  simp [makeOf]
theorem make_gone_part {A B : Lt} {x : Nat × BitVec 32} {k q : Int} {c : BitVec 32} (hk : k ≠ 1) (hA : ∀ y ∈ A, y.1 ≠ x.1) (hB : ∀ y ∈ B, y.1 ≠ x.1) : makeE (A ++ x :: B) ⟨k, x.1, q, c⟩ = A ++ B := by
  rw [makeE_app, makeE_cons, make_far (L := A) (fun y hy => by have := hA y hy; show (y.1 : Int) ≠ x.1; omega), make_far (L := B) (fun y hy => by have := hB y hy; show (y.1 : Int) ≠ x.1; omega)]
  simp [makeOf, hk]
/-- How many edges have lonely vertices that are not kept. -/
def phiE (L : Lt) (keep : BitVec 32) : Nat := L.countP fun x => !(cutE L keep x == 0#32)
theorem phi_le (L : Lt) (keep : BitVec 32) : phiE L keep ≤ L.length := List.countP_le_length
def trims (ss : List Stp) : Nat := ss.countP fun s => s.kind == 1
theorem count_one {p q : Nat × BitVec 32 → Bool} {e : Nat} : ∀ {L : Lt}, Srt L → (∀ z ∈ L, z.1 ≠ e → q z = true → p z = true) → L.countP q ≤ L.countP p + 1
  | [], _, _ => by simp
  | a :: L, hs, h => by
    have ih := count_one (L := L) (List.pairwise_cons.1 hs).2 fun z hz => h z (List.mem_cons_of_mem _ hz)
    rw [List.countP_cons, List.countP_cons]
    by_cases c : a.1 = e
    · have hm : L.countP q ≤ L.countP p := List.countP_mono_left fun z hz hq => h z (List.mem_cons_of_mem _ hz) (by
        have := (List.pairwise_cons.1 hs).1 z hz; omega) hq
      by_cases d : q a = true
      · rw [if_pos d]; omega
      · rw [if_neg d]; omega
    · have ha := h a (List.mem_cons_self ..) c
      by_cases d : q a = true
      · simp only [d, ha d, if_true]; omega
      · rw [if_neg d]; omega
theorem phi_trim {L : Lt} {keep : BitVec 32} (hs : Srt L) {x : Nat × BitVec 32} (hx : x ∈ L) (hc : cutE L keep x ≠ 0#32) : phiE (makeE L ⟨1, x.1, 0, cutE L keep x⟩) keep + 1 ≤ phiE L keep := by
  obtain ⟨A, B, rfl, hA, hB⟩ := srt_part hs hx
  rw [make_trim_part hA hB]
  have hp : (!(cutE (A ++ x :: B) keep x == 0#32)) = true := by simpa using hc
  have same : ∀ z, (z ∈ A ∨ z ∈ B) → cutE (A ++ (x.1, x.2 &&& ~~~cutE (A ++ x :: B) keep x) :: B) keep z = cutE (A ++ x :: B) keep z := fun z hz => hv_ext fun v => by
    have hzL : z ∈ A ++ x :: B := by rcases hz with h | h <;> simp [h]
    have hzx : z.1 ≠ x.1 := hz.elim (hA z) (hB z)
    rw [hv_cut, hv_cut]
    refine and_congr_right fun a => and_congr_right fun _ => ⟨fun h y hy hne => ?_, fun h y hy hne => ?_⟩
    · rcases List.mem_append.1 hy with b | b
      · exact h y (List.mem_append_left _ b) hne
      · rcases List.mem_cons.1 b with rfl | b
        · intro hyv
          refine h (y.1, y.2 &&& ~~~cutE (A ++ y :: B) keep y) (by simp) hne ((hv_andNot _ _ _).2 ⟨hyv, fun d => ?_⟩)
          exact ((hv_cut _ _ _ _).1 d).2.2 z hzL hzx a
        · exact h y (List.mem_append_right _ (List.mem_cons_of_mem _ b)) hne
    · rcases List.mem_append.1 hy with b | b
      · exact h y (List.mem_append_left _ b) hne
      · rcases List.mem_cons.1 b with rfl | b
        · exact fun hyv => h x (by simp) hne ((hv_andNot _ _ _).1 hyv).1
        · exact h y (List.mem_append_right _ (List.mem_cons_of_mem _ b)) hne
  have gone : cutE (A ++ (x.1, x.2 &&& ~~~cutE (A ++ x :: B) keep x) :: B) keep (x.1, x.2 &&& ~~~cutE (A ++ x :: B) keep x) = 0#32 := (eq_zero_iff _).2 fun v h => by
    obtain ⟨a, b, c⟩ := (hv_cut _ _ _ _).1 h
    obtain ⟨a1, a2⟩ := (hv_andNot _ _ _).1 a
    refine a2 ((hv_cut _ _ _ _).2 ⟨a1, b, fun y hy hne => ?_⟩)
    rcases List.mem_append.1 hy with d | d
    · exact c y (List.mem_append_left _ d) hne
    · rcases List.mem_cons.1 d with rfl | d
      · exact absurd rfl hne
      · exact c y (List.mem_append_right _ (List.mem_cons_of_mem _ d)) hne
  unfold phiE
  rw [List.countP_append, List.countP_append, List.countP_cons, List.countP_cons, if_pos hp, gone]
  have e1 : A.countP (fun z => !(cutE (A ++ (x.1, x.2 &&& ~~~cutE (A ++ x :: B) keep x) :: B) keep z == 0#32)) = A.countP fun z => !(cutE (A ++ x :: B) keep z == 0#32) := List.countP_congr fun z hz => by rw [same z (.inl hz)]
  have e2 : B.countP (fun z => !(cutE (A ++ (x.1, x.2 &&& ~~~cutE (A ++ x :: B) keep x) :: B) keep z == 0#32)) = B.countP fun z => !(cutE (A ++ x :: B) keep z == 0#32) := List.countP_congr fun z hz => by rw [same z (.inr hz)]
  rw [e1, e2]
  simp; omega
theorem phi_gone {L : Lt} {keep : BitVec 32} (hs : Srt L) {k : Int} (hk : k ≠ 1) {x y : Nat × BitVec 32} (hx : x ∈ L) (hy : y ∈ L) (hne : x.1 ≠ y.1) (hsub : ∀ v, hv x.2 v → hv y.2 v) : phiE (makeE L ⟨k, x.1, y.1, 0#32⟩) keep ≤ phiE L keep + 1 ∧ (makeE L ⟨k, x.1, y.1, 0#32⟩).length + 1 = L.length := by
  have hM : Srt (makeE L ⟨k, x.1, y.1, 0#32⟩) := hs.make
  obtain ⟨A, B, rfl, hA, hB⟩ := srt_part hs hx
  rw [make_gone_part hk hA hB] at hM ⊢
  refine ⟨?_, by simp; omega⟩
  have h1 : (A ++ B).countP (fun z => !(cutE (A ++ B) keep z == 0#32)) ≤ (A ++ B).countP (fun z => !(cutE (A ++ x :: B) keep z == 0#32)) + 1 := count_one (e := y.1) hM fun z hz hzy hq => by
    simp only [Bool.not_eq_true', beq_eq_false_iff_ne] at hq ⊢
    obtain ⟨v, hh⟩ := (ne_zero_iff _).1 hq
    refine (ne_zero_iff _).2 ⟨v, ?_⟩
    obtain ⟨a, b, c⟩ := (hv_cut _ _ _ _).1 hh
    refine (hv_cut _ _ _ _).2 ⟨a, b, fun w hw hwz => ?_⟩
    rcases List.mem_append.1 hw with d | d
    · exact c w (List.mem_append_left _ d) hwz
    · rcases List.mem_cons.1 d with rfl | d
      · intro hwv
        refine c y ?_ (Ne.symm hzy) (hsub v hwv)
        rcases List.mem_append.1 hy with f | f
        · exact List.mem_append_left _ f
        · rcases List.mem_cons.1 f with rfl | f
          · exact absurd rfl hne
          · exact List.mem_append_right _ f
      · exact c w (List.mem_append_right _ d) hwz
  have h2 : (A ++ B).countP (fun z => !(cutE (A ++ x :: B) keep z == 0#32)) ≤ (A ++ x :: B).countP (fun z => !(cutE (A ++ x :: B) keep z == 0#32)) := by
    rw [List.countP_append, List.countP_append, List.countP_cons]; omega
  unfold phiE; omega
theorem make_trim_len {L : Lt} (hs : Srt L) {x : Nat × BitVec 32} (hx : x ∈ L) (c : BitVec 32) (q : Int) : (makeE L ⟨1, x.1, q, c⟩).length = L.length := by
  obtain ⟨A, B, rfl, hA, hB⟩ := srt_part hs hx
  rw [make_trim_part hA hB]; simp
/-- Trims are at most the edges and the merges; each merge takes one edge off. -/
theorem rch_count {keep : BitVec 32} {L M : Lt} {ss : List Stp} (r : Rch keep L ss M) (hs : Srt L) : ss.length + M.length = trims ss + L.length ∧ 2 * trims ss + phiE M keep ≤ phiE L keep + ss.length := by
  induction r with
  | nil L => simp [trims]
  | @cons L M s ss h _ ih =>
    obtain ⟨h1, h2⟩ := ih hs.make
    rcases h.cases hs with ⟨x, hx, hc, rfl⟩ | ⟨x, hx, y, hy, k, hne, hk, hsub, rfl⟩
    · have a := phi_trim hs hx hc
      have b := make_trim_len hs hx (cutE L keep x) 0
      have e : trims (⟨1, x.1, 0, cutE L keep x⟩ :: ss) = trims ss + 1 := by simp [trims]
      rw [e, List.length_cons]; omega
    · obtain ⟨a, b⟩ := phi_gone (keep := keep) hs hk hx hy hne hsub
      have e : trims (⟨k, x.1, y.1, 0#32⟩ :: ss) = trims ss := by simp [trims, hk]
      rw [e, List.length_cons]; omega
end Go.Proofs.YtbgbjodehbcgiaaGreatDoor
