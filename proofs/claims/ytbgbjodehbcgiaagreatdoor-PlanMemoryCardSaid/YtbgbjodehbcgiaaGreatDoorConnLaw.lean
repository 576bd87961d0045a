/- The plain law of the first phase: the removal that keeps the head's vertices ends with sets of the head alone just if the extended graph has a join tree. No program in sight. -/
import Derived.Test.YtbgbjodehbcgiaaGreatDoorBG
namespace Go.Proofs.YtbgbjodehbcgiaaGreatDoor

theorem Rch.trans {keep : BitVec 32} {L M N : Lt} {ss tt : List Stp} (r : Rch keep L ss M) (q : Rch keep M tt N) : Rch keep L (ss ++ tt) N := by
  induction r with
  | nil => exact q
  | cons h _ ih => exact .cons h (ih q)
theorem makeE_beside {L : Lt} {s : Stp} {n : Nat} {H : BitVec 32} (h : s.edge ≠ (n : Int)) : makeE (L ++ [(n, H)]) s = makeE L s ++ [(n, H)] := by
  unfold makeE
  rw [List.flatMap_append]
  congr 1
  simp [makeOf, Ne.symm h]
theorem cut_beside {L : Lt} {head H : BitVec 32} {n : Nat} {x : Nat × BitVec 32} (hn : x.1 ≠ n) (hs : ∀ v, hv x.2 v → (hv H v ↔ hv head v)) : cutE (L ++ [(n, H)]) 0#32 x = cutE L head x := hv_ext fun v => by
  rw [hv_cut, hv_cut]
  constructor
  · rintro ⟨a, _, c⟩
    exact ⟨a, fun d => c (n, H) (by simp) (Ne.symm hn) ((hs v a).2 d), fun y hy hne => c y (List.mem_append_left _ hy) hne⟩
  · rintro ⟨a, b, c⟩
    refine ⟨a, hv_zero v, fun y hy hne => ?_⟩
    rcases List.mem_append.1 hy with h | h
    · exact c y h hne
    · obtain rfl := List.mem_singleton.1 h
      exact fun d => b ((hs v a).1 d)
theorem head_cov {E : List (BitVec 32)} {L : Lt} (h : InvE E L) (head : BitVec 32) {x : Nat × BitVec 32} (hx : x ∈ L) (v : Nat) (hh : hv x.2 v) : hv (head &&& covB E) v ↔ hv head v := by
  rw [hv_and]
  obtain ⟨h1, h2⟩ := h.cut x hx
  exact ⟨fun a => a.1, fun a => ⟨a, (hv_cov E v).2 ⟨_, ed_mem E x.1 h1, ((h2 v).1 hh).1⟩⟩⟩
theorem rch_beside {E : List (BitVec 32)} {head : BitVec 32} {L M : Lt} {ss : List Stp} (r : Rch head L ss M) (h : InvE E L) :
    Rch 0#32 (L ++ [(E.length, head &&& covB E)]) ss (M ++ [(E.length, head &&& covB E)]) := by
  induction r with
  | nil => exact .nil _
  | @cons L M s ss hs _ ih =>
    have ih := ih (h.step hs)
    have hlt : ∀ x ∈ L, x.1 ≠ E.length := fun x hx => Nat.ne_of_lt (h.cut x hx).1
    have hne : s.edge ≠ (E.length : Int) := by
      obtain ⟨x, hx, e⟩ := step_edge h.srt hs
      have := hlt x hx
      omega
    refine .cons ?_ (by rw [makeE_beside hne]; exact ih)
    rcases hs with ⟨x, hx, h1, rfl⟩ | ⟨x, hx, y, hy, h1, h2, rfl⟩ | ⟨x, hx, y, hy, h1, h2, rfl⟩
    · have e := cut_beside (L := L) (H := head &&& covB E) (head := head) (hlt x hx) (fun v hh => head_cov h head hx v hh)
      exact .inl ⟨x, List.mem_append_left _ hx, by rw [e]; exact h1, by rw [e]⟩
    · exact .inr (.inl ⟨x, List.mem_append_left _ hx, y, List.mem_append_left _ hy, h1, h2, rfl⟩)
    · exact .inr (.inr ⟨x, List.mem_append_left _ hx, y, List.mem_append_left _ hy, h1, h2, rfl⟩)
theorem make_away {n k : Nat} {c : Int} (hc : c ≠ 1) : ∀ {L : Lt}, (∀ y ∈ L, y.1 ≠ k) → makeE L ⟨c, k, n, 0#32⟩ = L
  | [], _ => rfl
  | a :: L, h => by
    rw [makeE_cons, make_away hc fun y hy => h y (List.mem_cons_of_mem _ hy)]
    have : (a.1 : Int) ≠ (k : Int) := by have := h a (List.mem_cons_self ..); omega
    simp [makeOf, this]
/-- Sets that are part of one are taken into it. -/
theorem rch_all {n : Nat} {H : BitVec 32} : ∀ {L : Lt}, Srt L → (∀ x ∈ L, x.1 < n) → (∀ x ∈ L, ∀ v, hv x.2 v → hv H v) → ∃ tt, Rch 0#32 (L ++ [(n, H)]) tt [(n, H)]
  | [], _, _, _ => ⟨[], .nil _⟩
  | x :: L, hs, hl, hh => by
    obtain ⟨tt, r⟩ := rch_all (L := L) (List.pairwise_cons.1 hs).2 (fun y hy => hl y (List.mem_cons_of_mem _ hy)) fun y hy => hh y (List.mem_cons_of_mem _ hy)
    have hx := hl x (List.mem_cons_self ..)
    have hsub := hh x (List.mem_cons_self ..)
    have key : ∀ c : Int, c ≠ 1 → makeE ((x :: L) ++ [(n, H)]) ⟨c, x.1, n, 0#32⟩ = L ++ [(n, H)] := fun c hc => by
      rw [List.cons_append, makeE_cons]
      have h1 : makeOf ⟨c, x.1, n, 0#32⟩ x = [] := by simp [makeOf, hc]
      rw [h1, List.nil_append]
      refine make_away hc fun y hy => ?_
      rcases List.mem_append.1 hy with h | h
      · have := (List.pairwise_cons.1 hs).1 y h; omega
      · obtain rfl := List.mem_singleton.1 h
        show n ≠ x.1
        omega
    by_cases e : x.2 = H
    · refine ⟨⟨2, x.1, n, 0#32⟩ :: tt, .cons (.inr (.inl ⟨(n, H), by simp, x, by simp, by show n ≠ x.1; omega, e.symm, rfl⟩)) ?_⟩
      rw [key 2 (by omega)]; exact r
    · refine ⟨⟨3, x.1, n, 0#32⟩ :: tt, .cons (.inr (.inr ⟨x, by simp, (n, H), by simp, e, (subB_iff _ _).2 hsub, rfl⟩)) ?_⟩
      rw [key 3 (by omega)]; exact r
theorem begin_ext (E : List (BitVec 32)) (head : BitVec 32) : beginE (extE E head) = beginE E ++ [(E.length, head &&& covB E)] := by
  unfold beginE
  rw [extE_length, List.range_succ, List.map_append]
  congr 1
  · refine List.map_congr_left fun i hi => ?_
    have hi' := List.mem_range.1 hi
    simp [extE, ed, List.getElem?_append_left hi', hi']
  · simp [extE, ed]
/-- Where the first phase comes to an end the extended graph has a join tree. -/
theorem conn_back {E : List (BitVec 32)} {head : BitVec 32} {M : Lt} {ss : List Stp} (r : Rch head (beginE E) ss M) (ha : ∀ x ∈ M, ∀ v, hv x.2 v → hv head v) : ∃ p, JT (extE E head) p := by
  have i := r.inv (inv_begin E)
  have r2 := rch_beside r (inv_begin E)
  obtain ⟨tt, r3⟩ := rch_all (n := E.length) (H := head &&& covB E) i.srt (fun x hx => (i.cut x hx).1) fun x hx v hh => (head_cov i head hx v hh).2 (ha x hx v hh)
  rw [← begin_ext] at r2
  exact ⟨_, jt_of_reach (r2.trans r3) (by simp)⟩
end Go.Proofs.YtbgbjodehbcgiaaGreatDoor
