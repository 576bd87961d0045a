/- The plain law of EarsAnyOrder: steps taken in any order leave the same sets. -/
import Derived.Test.YtkenbmelhfhidaaReplLaw
import Derived.Test.YtkenbmelhfhidaaStuckLaw
import Derived.Test.YtkenbmelhfhidaaR15d
namespace Go.Proofs.Ytkenbmelhfhidaa

theorem mkTo_cons (M : Lt) (s : Stp) (ss : List Stp) : ∀ k, mkTo M (s :: ss) (k + 1) = mkTo (makeE M s) ss k
  | 0 => rfl
  | k + 1 => by
    show makeE (mkTo M (s :: ss) (k + 1)) (stp (s :: ss) (k + 1)) = makeE (mkTo (makeE M s) ss k) (stp ss k)
    rw [mkTo_cons M s ss k]; rfl
theorem rch_repl {keep : BitVec 32} {M L : Lt} {ss : List Stp} (r : Rch keep M ss L) : mkTo M ss ss.length = L ∧ legalTo keep M ss ss.length := by
  induction r with
  | nil M => exact ⟨rfl, fun i hi => absurd hi (Nat.not_lt_zero i)⟩
  | @cons M L s ss h _ ih =>
    refine ⟨by rw [List.length_cons, mkTo_cons]; exact ih.1, fun i hi => ?_⟩
    rcases i with _ | i
    · exact (mem_steps _ _ _).2 h
    · rw [mkTo_cons]
      exact ih.2 i (by simpa using hi)
theorem rch_is {V : Int} {E : List (BitVec 32)} {keep : BitVec 32} {ss : List Stp} {L : Lt} (hv : validB V E = true) (r : Rch keep (beginE E) ss L) : ReplIs V E keep ss L ss.length 0 := by
  obtain ⟨h1, h2⟩ := rch_repl r
  exact .inr ⟨hv, rfl, ss.length, rfl, Nat.le_refl _, h1.symm, h2, .inl rfl⟩
theorem perm_of_mem {α : Type} [DecidableEq α] : ∀ {Z Y : List α}, Z.Nodup → Y.Nodup → (∀ a, a ∈ Z ↔ a ∈ Y) → Z.Perm Y
  | [], Y, _, _, h => by
    have : Y = [] := List.eq_nil_iff_forall_not_mem.2 fun a ha => by have := (h a).2 ha; cases this
    rw [this]
  | a :: Z, Y, hz, hy, h => by
    have haY := (h a).1 List.mem_cons_self
    obtain ⟨h1, h2⟩ := List.nodup_cons.1 hz
    refine (List.Perm.cons a (perm_of_mem h2 (hy.erase a) fun b => ?_)).trans (List.perm_cons_erase haY).symm
    rw [hy.mem_erase_iff]
    constructor
    · intro hb
      exact ⟨fun e => h1 (e ▸ hb), (h b).1 (List.mem_cons_of_mem _ hb)⟩
    · rintro ⟨hne, hb⟩
      rcases List.mem_cons.1 ((h b).2 hb) with e | e
      · exact absurd e hne
      · exact e
theorem apart_nodup {Z : List (BitVec 32)} (h : Z.Pairwise Apart) : Z.Nodup := h.imp fun hab e => by
  subst e
  exact hab.1 fun _ x => x
theorem any_order {V : Int} {E : List (BitVec 32)} {keep : BitVec 32} {Z Y : List (BitVec 32)} {code : Int} {ss : List Stp} {L : Lt} (hv : validB V E = true) (hZ : RestIs V E keep Z code) (r : Rch keep (beginE E) ss L) (st : Stuck L keep) (hy : risesB Y) (hp : Y.Perm (setsOf L)) : Z = Y ∧ code = 0 := by
  rcases hZ with ⟨h, _⟩ | ⟨_, hc, hr, hq⟩
  · rw [hv] at h; cases h
  · refine ⟨rises_uniq hr hy ?_, hc⟩
    have h7 := (validB_of hv).2.2.1
    have r2 := runE_rch E keep
    have st2 := runE_Stuck (E := E) keep h7
    refine hq.trans (List.Perm.trans (perm_of_mem (apart_nodup (sets_apart (r2.srt (srt_begin E)) st2)) (apart_nodup (sets_apart (r.srt (srt_begin E)) st)) fun a => ?_) hp.symm)
    rw [setsOf_mem, setsOf_mem, (order_free r2 r st2 st).2 a]
theorem stuck_of {L : Lt} {keep : BitVec 32} (h : stepsE L keep = []) : Stuck L keep := fun s hs => by
  have := (mem_steps L keep s).2 hs
  rw [h] at this
  cases this
theorem rch_mu {keep : BitVec 32} {M L : Lt} {ss : List Stp} (r : Rch keep M ss L) (hs : Srt M) : mu L + ss.length ≤ mu M := by
  induction r with
  | nil M => simp
  | cons h _ ih =>
    have := mu_step hs h
    have := ih hs.make
    rw [List.length_cons]; omega
end Go.Proofs.Ytkenbmelhfhidaa
