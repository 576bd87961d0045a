/- A graph that is acyclic and, with its head as one more edge, not: two vertices of the head that have no edge in common, and are joined by a way over other vertices. No program in sight. -/
import Derived.Test.YtbgbjodehbcgiaaDoorBF
namespace Go.Proofs.YtbgbjodehbcgiaaDoor

/-- Have they an edge in common? -/
def AdjE (E : List (BitVec 32)) (x y : Nat) : Prop := ∃ e ∈ E, hv e x ∧ hv e y
/-- Joined by steps over vertices outside h. -/
inductive Lnk (E : List (BitVec 32)) (h : BitVec 32) (c : Nat) : Nat → Prop
  | here (hc : ¬ hv h c) : Lnk E h c c
  | step {v w : Nat} (r : Lnk E h c v) (hw : ¬ hv h w) (a : AdjE E v w) : Lnk E h c w
theorem Lnk.out {E : List (BitVec 32)} {h : BitVec 32} {c v : Nat} (r : Lnk E h c v) : ¬ hv h v := by
  cases r <;> assumption
theorem AdjE.symm {E : List (BitVec 32)} {x y : Nat} (h : AdjE E x y) : AdjE E y x := by
  obtain ⟨e, he, a, b⟩ := h; exact ⟨e, he, b, a⟩
theorem Lnk.pre {E : List (BitVec 32)} {h : BitVec 32} {c v : Nat} (r : Lnk E h c v) : ∀ {b : Nat}, ¬ hv h b → AdjE E b c → Lnk E h b v := by
  induction r with
  | here hc => intro b hb a; exact .step (.here hb) hc a
  | step _ hw a ih => intro b hb a2; exact .step (ih hb a2) hw a
theorem Lnk.symm {E : List (BitVec 32)} {h : BitVec 32} {c v : Nat} (r : Lnk E h c v) : Lnk E h v c := by
  induction r with
  | here hc => exact .here hc
  | step _ hw a ih => exact ih.pre hw a.symm
theorem Lnk.trans {E : List (BitVec 32)} {h : BitVec 32} {c v w : Nat} (r : Lnk E h c v) (s : Lnk E h v w) : Lnk E h c w := by
  induction s with
  | here _ => exact r
  | step _ hw a ih => exact .step ih hw a
/-- Free: no edge in common, and joined over vertices outside h. -/
def FreeP (E : List (BitVec 32)) (h : BitVec 32) (x y : Nat) : Prop := x ≠ y ∧ hv h x ∧ hv h y ∧ ¬ AdjE E x y ∧ ∃ c d, AdjE E x c ∧ Lnk E h c d ∧ AdjE E d y
theorem top_depth {E : List (BitVec 32)} {p : Nat → Int} (h : Tree E.length p) (ho : OneTop E p) {d : Nat → Nat} (hd : ∀ i, i < E.length → 0 ≤ p i → d (p i).toNat < d i) {v t : Nat} (ht : t < E.length) (htop : Top E p v t) :
    ∀ m k, d k ≤ m → k < E.length → hv (ed E k) v → d t ≤ d k := by
  intro m
  induction m with
  | zero =>
    intro k hm hk hh
    by_cases e : k = t
    · subst e; exact Nat.le_refl _
    · have hnt : ¬ Top E p v k := fun x => e (ho v k t hk ht x htop)
      have h1 := h.rng k hk
      have h0 : p k ≠ -1 := fun c => hnt ⟨hh, .inl c⟩
      have := hd k hk (by omega)
      omega
  | succ m ih =>
    intro k hm hk hh
    by_cases e : k = t
    · subst e; exact Nat.le_refl _
    · have hnt : ¬ Top E p v k := fun x => e (ho v k t hk ht x htop)
      have h1 := h.rng k hk
      have h0 : p k ≠ -1 := fun c => hnt ⟨hh, .inl c⟩
      have h2 := hd k hk (by omega)
      have h3 : hv (ed E (p k).toNat) v := Classical.byContradiction fun c => hnt ⟨hh, .inr c⟩
      have := ih (p k).toNat (by omega) (by omega) h3
      omega
/-- Vertices of which any two have an edge in common all stand in one edge. -/
theorem clique_edge {E : List (BitVec 32)} {p : Nat → Int} (h : JT E p) (P : Nat → Prop) (hn : 0 < E.length) (hP : ∀ x y, P x → P y → AdjE E x y) : ∃ i, i < E.length ∧ ∀ x, P x → hv (ed E i) x := by
  obtain ⟨ht, ho⟩ := h
  obtain ⟨d, hd⟩ := ht.rank
  by_cases hne : ∃ x, P x
  · obtain ⟨x0, hx0⟩ := hne
    obtain ⟨e0, he0, hx1, _⟩ := hP x0 x0 hx0 hx0
    obtain ⟨j0, hj0, rfl⟩ := mem_ed he0
    obtain ⟨t0, ht0, top0⟩ := exists_top ht j0 hj0 hx1
    obtain ⟨i, hi, ⟨x, hPx, htop⟩, hmax⟩ := exists_max (fun i => ∃ x, P x ∧ Top E p x i) d E.length ⟨t0, ht0, x0, hx0, top0⟩
    refine ⟨i, hi, fun y hPy => ?_⟩
    obtain ⟨e, he, hex, hey⟩ := hP x y hPx hPy
    obtain ⟨k, hk, rfl⟩ := mem_ed he
    have key : ∀ m k, d k ≤ m → k < E.length → hv (ed E k) x → hv (ed E k) y → hv (ed E i) y := by
      intro m
      induction m with
      | zero =>
        intro k hm hk hx hy
        by_cases e : k = i
        · subst e; exact hy
        · have hnt : ¬ Top E p x k := fun z => e (ho x k i hk hi z htop)
          have h1 := ht.rng k hk
          have h0 : p k ≠ -1 := fun c => hnt ⟨hx, .inl c⟩
          have := hd k hk (by omega)
          omega
      | succ m ih =>
        intro k hm hk hx hy
        by_cases e : k = i
        · subst e; exact hy
        · have hnt : ¬ Top E p x k := fun z => e (ho x k i hk hi z htop)
          have h1 := ht.rng k hk
          have h0 : p k ≠ -1 := fun c => hnt ⟨hx, .inl c⟩
          have h2 := hd k hk (by omega)
          have h3 : hv (ed E (p k).toNat) x := Classical.byContradiction fun c => hnt ⟨hx, .inr c⟩
          by_cases h4 : hv (ed E (p k).toNat) y
          · exact ih (p k).toNat (by omega) (by omega) h3 h4
          · have h5 := hmax k hk ⟨y, hPy, hy, .inr h4⟩
            have h6 := top_depth ht ho hd hi htop _ _ (Nat.le_refl _) (by omega : (p k).toNat < E.length) h3
            omega
    exact key _ k (Nat.le_refl _) hk hex hey
  · exact ⟨0, hn, fun x hx => absurd ⟨x, hx⟩ hne⟩
theorem free_exists {E : List (BitVec 32)} {head : BitVec 32} (h6 : E.length ≤ 6) (hj : ∃ p, JT E p) (hx : ¬ ∃ p, JT (extE E head) p) : ∃ x y, FreeP E (head &&& covB E) x y := by
  apply Classical.byContradiction
  intro hno
  have hadj : ∀ x y c d, x ≠ y → hv (head &&& covB E) x → hv (head &&& covB E) y → AdjE E x c → Lnk E (head &&& covB E) c d → AdjE E d y → AdjE E x y := by
    intro x y c d hxy h1 h2 a b e
    apply Classical.byContradiction
    intro z
    exact hno ⟨x, y, hxy, h1, h2, z, c, d, a, b, e⟩
  have hcov : ∀ v, hv (head &&& covB E) v → ∃ e ∈ E, hv e v := fun v h => (hv_cov E v).1 ((hv_and _ _ _).1 h).2
  clear hno
  obtain ⟨R, k⟩ : ∃ R, Knot (extE E head) R := by
    apply Classical.byContradiction
    intro c
    exact hx ((jt_iff (by rw [extE_length]; omega)).2 c)
  clear hx
  have hF : ∀ j, j < E.length → ed (extE E head) j = ed E j := fun j hj => by unfold extE; rw [ed_app, if_pos hj]
  have hH : ed (extE E head) E.length = head &&& covB E := by unfold extE; rw [ed_app, if_neg (Nat.lt_irrefl _), if_pos rfl]
  have hl : (extE E head).length = E.length + 1 := extE_length E head
  generalize extE E head = F at k hF hH hl
  generalize head &&& covB E = h at hadj hcov hH
  -- a vertex of the knot outside the head
  obtain ⟨c0, hc0R, hc0⟩ : ∃ c, inR R c ∧ ¬ hv h c := by
    apply Classical.byContradiction
    intro z
    have hall : ∀ v, inR R v → hv h v := fun v hv1 => Classical.byContradiction fun hv2 => z ⟨v, hv1, hv2⟩
    obtain ⟨v, hvR⟩ := k.ne
    obtain ⟨a, b, ha, hb, hab, _, _⟩ := k.twice v hvR
    obtain ⟨m, hm, hpart⟩ := k.part E.length (by omega)
    rw [hH] at hpart
    have sub : ∀ a, a < R.length → a = m := fun a ha => k.anti a m ha hm fun u hu =>
      hpart u (hall u ⟨_, ed_mem R a ha, hu⟩) ⟨_, ed_mem R a ha, hu⟩
    exact hab (by rw [sub a ha, sub b hb])
  let C : Nat → Prop := fun v => inR R v ∧ Lnk E h c0 v
  let N : Nat → Prop := fun x => hv h x ∧ ∃ c, C c ∧ AdjE E x c
  have hn : 0 < E.length := by
    obtain ⟨a, ha, hca⟩ := hc0R
    obtain ⟨j, hj, ej⟩ := k.edge a ha
    rcases Nat.eq_zero_or_pos E.length with z | z
    · exfalso
      obtain rfl : j = E.length := by omega
      have := ((ej c0).1 hca).1
      rw [hH] at this
      exact hc0 this
    · exact z
  have hN : ∀ x y, N x → N y → AdjE E x y := by
    rintro x y ⟨hx1, c, ⟨_, hc⟩, hxc⟩ ⟨hy1, d, ⟨_, hd⟩, hyd⟩
    by_cases e : x = y
    · subst e
      obtain ⟨e, he, hex⟩ := hcov x hx1
      exact ⟨e, he, hex, hex⟩
    · exact hadj x y c d e hx1 hy1 hxc (hc.symm.trans hd) hyd.symm
  obtain ⟨p, hp⟩ := hj
  obtain ⟨i0, hi0, hroot⟩ := clique_edge hp N hn hN
  obtain ⟨q, ⟨ht, ho⟩, hq⟩ := jt_root hp i0 hi0
  obtain ⟨d, hd⟩ := ht.rank
  -- the deepest of C's topmost edges
  obtain ⟨a0, ha0, hca0⟩ := hc0R
  obtain ⟨j0, hj0, ej0⟩ := k.edge a0 ha0
  have hin : ∀ j, j < F.length → ∀ c, ¬ hv h c → hv (ed F j) c → j < E.length := by
    intro j hj c hc hjc
    rcases Nat.lt_or_ge j E.length with z | z
    · exact z
    · exfalso
      obtain rfl : j = E.length := by omega
      rw [hH] at hjc
      exact hc hjc
  have hj0' := hin j0 hj0 c0 hc0 ((ej0 c0).1 hca0).1
  have h0 := ((ej0 c0).1 hca0).1
  rw [hF j0 hj0'] at h0
  obtain ⟨t0, ht0, top0⟩ := exists_top ht j0 hj0' h0
  obtain ⟨t, htl, ⟨c, hcC, htop⟩, hmax⟩ := exists_max (fun i => ∃ v, C v ∧ Top E q v i) d E.length ⟨t0, ht0, c0, ⟨⟨a0, ha0, hca0⟩, .here hc0⟩, top0⟩
  have key : ∀ m k, d k ≤ m → k < E.length → hv (ed E k) c → ∀ u, inR R u → hv (ed E k) u → hv (ed E t) u := by
    have stepK : ∀ k, k < E.length → k ≠ t → hv (ed E k) c → q k ≠ -1 ∧ hv (ed E (q k).toNat) c ∧ ∀ u, inR R u → hv (ed E k) u → hv (ed E (q k).toNat) u := by
      intro k hk e hkc
      have hnt : ¬ Top E q c k := fun z => e (ho c k t hk htl z htop)
      have h0 : q k ≠ -1 := fun z => hnt ⟨hkc, .inl z⟩
      have h1 := ht.rng k hk
      have h3 : hv (ed E (q k).toNat) c := Classical.byContradiction fun z => hnt ⟨hkc, .inr z⟩
      refine ⟨h0, h3, fun u huR hku => ?_⟩
      apply Classical.byContradiction
      intro h4
      have htu : Top E q u k := ⟨hku, .inr h4⟩
      by_cases huh : hv h u
      · have huN : N u := ⟨huh, c, hcC, ⟨_, ed_mem E k hk, hku, hkc⟩⟩
        have h5 : Top E q u i0 := ⟨hroot u huN, .inl hq⟩
        have h6 := ho u k i0 hk hi0 htu h5
        rw [h6] at h0
        exact h0 hq
      · have huC : C u := ⟨huR, .step hcC.2 huh ⟨_, ed_mem E k hk, hkc, hku⟩⟩
        have h5 := hmax k hk ⟨u, huC, htu⟩
        have h6 := top_depth ht ho hd htl htop _ _ (Nat.le_refl _) (by omega : (q k).toNat < E.length) h3
        have h7 := hd k hk (by omega)
        omega
    intro m
    induction m with
    | zero =>
      intro k hm hk hkc u huR hku
      by_cases e : k = t
      · subst e; exact hku
      · obtain ⟨s1, _, _⟩ := stepK k hk e hkc
        have h1 := ht.rng k hk
        have := hd k hk (by omega)
        omega
    | succ m ih =>
      intro k hm hk hkc u huR hku
      by_cases e : k = t
      · subst e; exact hku
      · obtain ⟨s1, s2, s3⟩ := stepK k hk e hkc
        have h1 := ht.rng k hk
        have h2 := hd k hk (by omega)
        exact ih (q k).toNat (by omega) (by omega) s2 u huR (s3 u huR hku)
  have hcout : ¬ hv h c := hcC.2.out
  obtain ⟨a, b, ha, hb, hab, hca, hcb⟩ := k.twice c hcC.1
  obtain ⟨m, hm, hpart⟩ := k.part t (by omega)
  have fin : ∀ a, a < R.length → hv (ed R a) c → a = m := by
    intro a ha hca
    obtain ⟨j, hj, ej⟩ := k.edge _ (ed_mem R a ha)
    have hj' := hin j hj c hcout ((ej c).1 hca).1
    refine k.anti a m ha hm fun u hu => ?_
    obtain ⟨h1, h2⟩ := (ej u).1 hu
    have h3 := ((ej c).1 hca).1
    rw [hF j hj'] at h1 h3
    refine hpart u ?_ h2
    rw [hF t htl]
    exact key _ j (Nat.le_refl _) hj' h3 u h2 h1
  exact hab (by rw [fin a ha hca, fin b hb hcb])
end Go.Proofs.YtbgbjodehbcgiaaDoor
