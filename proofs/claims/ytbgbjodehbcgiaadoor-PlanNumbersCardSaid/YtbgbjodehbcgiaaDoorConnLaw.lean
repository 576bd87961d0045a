/- The plain law of the first phase: the removal that keeps the head's vertices ends with sets of the head alone just if the extended graph has a join tree. No program in sight. -/
import Derived.Test.YtbgbjodehbcgiaaDoorBG
namespace Go.Proofs.YtbgbjodehbcgiaaDoor

theorem Rch.trans {keep : BitVec 32} {L M N : Lt} {ss tt : List Stp} (r : Rch keep L ss M) (q : Rch keep M tt N) : Rch keep L (ss ++ tt) N := by
  induction r with
  | nil => exact q
  | cons h _ ih => exact .cons h (ih q)
theorem makeE_beside {L : Lt} {s : Stp} {n : Nat} {H : BitVec 32} (h : s.edge ≠ (n : Int)) : makeE (L ++ [(n, H)]) s = makeE L s ++ [(n, H)] := by
  unfold makeE
  rw [List.flatMap_append]
  congr 1
  simp [makeOf, Ne.symm h]
theorem cut_beside {L : Lt} {head H : BitVec 32} {n : Nat} {x : Nat × BitVec 32} (hn : x.1 ≠ n) (hs : ∀ v, hv x.2 v → (hv H v ↔ hv head v)) : cutE (L ++ [(n, H)]) 0#32 x = cutE L head x := hv_ext fun v => by
  rw [hv_cut, hv_cut]
  constructor
  · rintro ⟨a, _, c⟩
    exact ⟨a, fun d => c (n, H) (by simp) (Ne.symm hn) ((hs v a).2 d), fun y hy hne => c y (List.mem_append_left _ hy) hne⟩
  · rintro ⟨a, b, c⟩
    refine ⟨a, hv_zero v, fun y hy hne => ?_⟩
    rcases List.mem_append.1 hy with h | h
    · exact c y h hne
    · obtain rfl := List.mem_singleton.1 h
      exact fun d => b ((hs v a).1 d)
theorem head_cov {E : List (BitVec 32)} {L : Lt} (h : InvE E L) (head : BitVec 32) {x : Nat × BitVec 32} (hx : x ∈ L) (v : Nat) (hh : hv x.2 v) : hv (head &&& covB E) v ↔ hv head v := by
  rw [hv_and]
  obtain ⟨h1, h2⟩ := h.cut x hx
  exact ⟨fun a => a.1, fun a => ⟨a, (hv_cov E v).2 ⟨_, ed_mem E x.1 h1, ((h2 v).1 hh).1⟩⟩⟩
theorem rch_beside {E : List (BitVec 32)} {head : BitVec 32} {L M : Lt} {ss : List Stp} (r : Rch head L ss M) (h : InvE E L) :
    Rch 0#32 (L ++ [(E.length, head &&& covB E)]) ss (M ++ [(E.length, head &&& covB E)]) := by
  induction r with
  | nil => exact .nil _
  | @cons L M s ss hs _ ih =>
    have ih := ih (h.step hs)
    have hlt : ∀ x ∈ L, x.1 ≠ E.length := fun x hx => Nat.ne_of_lt (h.cut x hx).1
    have hne : s.edge ≠ (E.length : Int) := by
      obtain ⟨x, hx, e⟩ := step_edge h.srt hs
      have := hlt x hx
      omega
    refine .cons ?_ (by rw [makeE_beside hne]; exact ih)
    rcases hs with ⟨x, hx, h1, rfl⟩ | ⟨x, hx, y, hy, h1, h2, rfl⟩ | ⟨x, hx, y, hy, h1, h2, rfl⟩
    · have e := cut_beside (L := L) (H := head &&& covB E) (head := head) (hlt x hx) (fun v hh => head_cov h head hx v hh)
      exact .inl ⟨x, List.mem_append_left _ hx, by rw [e]; exact h1, by rw [e]⟩
    · exact .inr (.inl ⟨x, List.mem_append_left _ hx, y, List.mem_append_left _ hy, h1, h2, rfl⟩)
    · exact .inr (.inr ⟨x, List.mem_append_left _ hx, y, List.mem_append_left _ hy, h1, h2, rfl⟩)
theorem make_away {n k : Nat} {c : Int} (hc : c ≠ 1) : ∀ {L : Lt}, (∀ y ∈ L, y.1 ≠ k) → makeE L ⟨c, k, n, 0#32⟩ = L
  | [], _ => rfl
  | a :: L, h => by
    rw [makeE_cons, make_away hc fun y hy => h y (List.mem_cons_of_mem _ hy)]
    have : (a.1 : Int) ≠ (k : Int) := by have := h a (List.mem_cons_self ..); omega
    simp [makeOf, this]
/-- Sets that are part of one are taken into it. -/
theorem rch_all {n : Nat} {H : BitVec 32} : ∀ {L : Lt}, Srt L → (∀ x ∈ L, x.1 < n) → (∀ x ∈ L, ∀ v, hv x.2 v → hv H v) → ∃ tt, Rch 0#32 (L ++ [(n, H)]) tt [(n, H)]
  | [], _, _, _ => ⟨[], .nil _⟩
  | x :: L, hs, hl, hh => by
    obtain ⟨tt, r⟩ := rch_all (L := L) (List.pairwise_cons.1 hs).2 (fun y hy => hl y (List.mem_cons_of_mem _ hy)) fun y hy => hh y (List.mem_cons_of_mem _ hy)
    have hx := hl x (List.mem_cons_self ..)
    have hsub := hh x (List.mem_cons_self ..)
    have key : ∀ c : Int, c ≠ 1 → makeE ((x :: L) ++ [(n, H)]) ⟨c, x.1, n, 0#32⟩ = L ++ [(n, H)] := fun c hc => by
      rw [List.cons_append, makeE_cons]
      have h1 : makeOf ⟨c, x.1, n, 0#32⟩ x = [] := by simp [makeOf, hc]
      rw [h1, List.nil_append]
      refine make_away hc fun y hy => ?_
      rcases List.mem_append.1 hy with h | h
      · have := (List.pairwise_cons.1 hs).1 y h; omega
      · obtain rfl := List.mem_singleton.1 h
        show n ≠ x.1
        omega
    by_cases e : x.2 = H
    · refine ⟨⟨2, x.1, n, 0#32⟩ :: tt, .cons (.inr (.inl ⟨(n, H), by simp, x, by simp, by show n ≠ x.1; omega, e.symm, rfl⟩)) ?_⟩
      rw [key 2 (by omega)]; exact r
    · refine ⟨⟨3, x.1, n, 0#32⟩ :: tt, .cons (.inr (.inr ⟨x, by simp, (n, H), by simp, e, (subB_iff _ _).2 hsub, rfl⟩)) ?_⟩
      rw [key 3 (by omega)]; exact r
theorem begin_ext (E : List (BitVec 32)) (head : BitVec 32) : beginE (extE E head) = beginE E ++ [(E.length, head &&& covB E)] := by
  unfold beginE
  rw [extE_length, List.range_succ, List.map_append]
  congr 1
  · refine List.map_congr_left fun i hi => ?_
    have hi' := List.mem_range.1 hi
    simp [extE, ed, List.getElem?_append_left hi', hi']
  · simp [extE, ed]
/-- Where the first phase comes to an end the extended graph has a join tree. -/
theorem conn_back {E : List (BitVec 32)} {head : BitVec 32} {M : Lt} {ss : List Stp} (r : Rch head (beginE E) ss M) (ha : ∀ x ∈ M, ∀ v, hv x.2 v → hv head v) : ∃ p, JT (extE E head) p := by
  have i := r.inv (inv_begin E)
  have r2 := rch_beside r (inv_begin E)
  obtain ⟨tt, r3⟩ := rch_all (n := E.length) (H := head &&& covB E) i.srt (fun x hx => (i.cut x hx).1) fun x hx v hh => (head_cov i head hx v hh).2 (ha x hx v hh)
  rw [← begin_ext] at r2
  exact ⟨_, jt_of_reach (r2.trans r3) (by simp)⟩
theorem knot_up {E R : List (BitVec 32)} {L : Lt} (i : InvE E L) (k : Knot (setsL L) R) : Knot E R := by
  have hl : (setsL L).length = L.length := by simp [setsL]
  have hX : ∀ v, inR R v → inX L v := by
    rintro v ⟨b, hb, hh⟩
    obtain ⟨j, hj, e⟩ := k.edge b hb
    exact (inR_sets L v).1 ⟨_, ed_mem _ j hj, ((e v).1 hh).1⟩
  refine ⟨k.ne, k.anti, k.twice, fun a ha => ?_, fun j hj => ?_⟩
  · obtain ⟨j, hj, e⟩ := k.edge a ha
    rw [hl] at hj
    obtain ⟨h1, h2⟩ := i.cut L[j] (List.getElem_mem hj)
    rw [ed_sets L j hj] at e
    exact ⟨_, h1, fun v => ⟨fun h => ⟨((h2 v).1 ((e v).1 h).1).1, ((e v).1 h).2⟩, fun h => (e v).2 ⟨(h2 v).2 ⟨h.1, hX v h.2⟩, h.2⟩⟩⟩
  · obtain ⟨x, hx, hc⟩ := i.cov j hj
    obtain ⟨a, ha, rfl⟩ := List.getElem_of_mem hx
    obtain ⟨b, hb, hp⟩ := k.part a (by omega)
    rw [ed_sets L a ha] at hp
    exact ⟨b, hb, fun v h1 h2 => hp v (hc v h1 (hX v h2)) h2⟩
/-- Where the extended graph has a join tree the first phase comes to an end. -/
theorem conn_end {E : List (BitVec 32)} {head : BitVec 32} {M : Lt} {ss : List Stp} (h6 : E.length ≤ 6) (r : Rch head (beginE E) ss M) (st : Stuck M head) (j : ∃ p, JT (extE E head) p) :
    ∀ x ∈ M, ∀ v, hv x.2 v → hv head v := by
  have iM := r.inv (inv_begin E)
  have r2 := rch_beside r (inv_begin E)
  rw [← begin_ext] at r2
  have i := r2.inv (inv_begin _)
  have hlM : M.length ≤ 6 := by have := r.len; rw [begin_len] at this; omega
  have hl : (setsL (M ++ [(E.length, head &&& covB E)])).length = M.length + 1 := by simp [setsL]
  obtain ⟨p, hp⟩ := (jt_iff (E := setsL (M ++ [(E.length, head &&& covB E)])) (by omega)).2 fun ⟨R, k⟩ => (jt_iff (E := extE E head) (by rw [extE_length]; omega)).1 j ⟨R, knot_up i k⟩
  have hF : ∀ k (hk : k < M.length), ed (setsL (M ++ [(E.length, head &&& covB E)])) k = M[k].2 := fun k hk => by
    rw [ed_sets _ k (by simp; omega), List.getElem_append_left hk]
  have hR : ed (setsL (M ++ [(E.length, head &&& covB E)])) M.length = head &&& covB E := by
    rw [ed_sets _ _ (by simp)]; simp
  generalize setsL (M ++ [(E.length, head &&& covB E)]) = F at hl hp hF hR
  obtain ⟨q, hq, hroot⟩ := jt_root hp M.length (by omega)
  obtain ⟨d, hd⟩ := hq.1.rank
  apply Classical.byContradiction
  intro c
  have c1 : ∃ k, k < F.length ∧ ∃ v, hv (ed F k) v ∧ ¬ hv head v := by
    apply Classical.byContradiction
    intro c2
    refine c fun x hx v hh => Classical.byContradiction fun c3 => c2 ?_
    obtain ⟨k, hk, rfl⟩ := List.getElem_of_mem hx
    exact ⟨k, by omega, v, by rw [hF k hk]; exact hh, c3⟩
  obtain ⟨a, ha, ⟨w, hw1, hw2⟩, hmax⟩ := exists_max (fun k => ∃ v, hv (ed F k) v ∧ ¬ hv head v) d F.length c1
  have hne : a ≠ M.length := fun e => by
    rw [e, hR, hv_and] at hw1
    exact hw2 hw1.1
  have haM : a < M.length := by omega
  have hqa : q a ≠ -1 := fun e => hne (hq.1.one a M.length ha (by omega) e hroot)
  have hrng := hq.1.rng a ha
  obtain ⟨y, hy⟩ : ∃ y : Nat, q a = y := ⟨(q a).toNat, by omega⟩
  have hdy := hd a ha (by omega)
  rw [hy] at hdy
  have hsub : ∀ v, hv (ed F a) v → hv (ed F y) v := by
    intro v hh
    apply Classical.byContradiction
    intro c2
    have htop : Top F q v a := ⟨hh, .inr (by rw [hy]; exact c2)⟩
    have hh2 := hh
    rw [hF a haM] at hh2
    by_cases hv1 : hv head v
    · have h3 := (head_cov iM head (List.getElem_mem haM) v hh2).2 hv1
      exact hne (hq.2 v a M.length ha (by omega) htop ⟨by rw [hR]; exact h3, .inl hroot⟩)
    · obtain ⟨z, hz, hzne, hzv⟩ := st.twice (List.getElem_mem haM) hh2 hv1
      obtain ⟨b, hb, rfl⟩ := List.getElem_of_mem hz
      have key : ∀ m k, d k ≤ m → k < F.length → hv (ed F k) v → k = a ∨ d a < d k := by
        intro m
        induction m with
        | zero =>
          intro k hm hk hkv
          by_cases e : k = a
          · exact .inl e
          · exfalso
            have nt : ¬ Top F q v k := fun t => e (hq.2 v k a hk ha t htop)
            have h1 : q k ≠ -1 := fun e1 => nt ⟨hkv, .inl e1⟩
            have h2 := hq.1.rng k hk
            have h3 := hd k hk (by omega)
            omega
        | succ m ih =>
          intro k hm hk hkv
          by_cases e : k = a
          · exact .inl e
          · have nt : ¬ Top F q v k := fun t => e (hq.2 v k a hk ha t htop)
            have h1 : q k ≠ -1 := fun e1 => nt ⟨hkv, .inl e1⟩
            have h2 := hq.1.rng k hk
            have h3 := hd k hk (by omega)
            have h4 : hv (ed F (q k).toNat) v := Classical.byContradiction fun e1 => nt ⟨hkv, .inr e1⟩
            rcases ih (q k).toNat (by omega) (by omega) h4 with e2 | e2
            · rw [e2] at h3; exact .inr h3
            · exact .inr (by omega)
      have h5 := hmax b (by omega) ⟨v, by rw [hF b hb]; exact hzv, hv1⟩
      rcases key (d b) b (Nat.le_refl _) (by omega) (by rw [hF b hb]; exact hzv) with e | e
      · subst e; exact hzne rfl
      · omega
  by_cases e : y = M.length
  · have := hsub w hw1
    rw [e, hR, hv_and] at this
    exact hw2 this.1
  · have hyM : y < M.length := by omega
    have h1 := st.anti iM.srt (List.getElem_mem haM) (List.getElem_mem hyM) fun v hh => by
      have := hsub v (by rw [hF a haM]; exact hh)
      rwa [hF y hyM] at this
    have h2 := srt_idx iM.srt haM hyM h1
    subst h2
    have h3 : d (Int.toNat ((a : Nat) : Int)) = d a := by simp
    omega
end Go.Proofs.YtbgbjodehbcgiaaDoor
