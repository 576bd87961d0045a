/- The contracts of osierref14.Less and of osierref15.others, Begin, Make. -/
import Derived.Test.YtkenbmelhfhidaaEars6
import Derived.Test.YtkenbmelhfhidaaStMem2
namespace Go.Proofs.Ytkenbmelhfhidaa
open Go.RowKit

attribute [local go_sem ↓] uz_and uz_or uz_andNot uz_and_one uz_shr uz_shl_one uz_shl uz_sub uz_sub_one uz_add uz_beq_zero uz_bne_zero uz_beq uz_bne uz_beq_one

theorem r14less_any (a b : BitVec 32) (w : World) :
    Calls Try.prog 74 #[.int .u32 (uz a), .int .u32 (uz b)] w fun e w' => e = .returned (.int .u32 (uz (a &&& ~~~b))) ∧ w = w' := by
  have HS := Lib.hid (sub_and a b)
  go_enter Try.func74, Try.ntmps74
  go_wp2_with (go_at_call 41; refine (both_any _ _ _).mono ?_; rintro e w' ⟨rfl, rfl⟩)
  go_ret
  exact ⟨(congrArg (fun x => Ending.returned (.int .u32 (uz x))) HS.out : _), rfl⟩
theorem add_less (s x : BitVec 32) : s + (x &&& ~~~s) = s ||| x := by
  have h0 : s &&& (x &&& ~~~s) = 0#32 := by
    rw [eq_zero_iff]; intro v hh
    rw [hv_and, hv_andNot] at hh
    exact hh.2.2 hh.1
  rw [BitVec.add_eq_or_of_and_eq_zero _ _ h0]
  refine hv_ext fun v => ?_
  rw [hv_or, hv_or, hv_andNot]
  constructor
  · rintro (a | a)
    · exact .inl a
    · exact .inr a.1
  · rintro (a | a)
    · exact .inl a
    · by_cases c : hv s v
      · exact .inl c
      · exact .inr ⟨a, c⟩
/-- The vertices of the others among the first m. -/
def othTo (L : Lt) (k : Nat) : Nat → BitVec 32
  | 0 => 0#32
  | m + 1 => if m = k then othTo L k m else othTo L k m ||| (lft L m).2
theorem othTo_same (L : Lt) (k : Nat) : othTo L k (k + 1) = othTo L k k := by show (if k = k then _ else _) = _; rw [if_pos rfl]
theorem othTo_next {L : Lt} {k m : Nat} (h : m ≠ k) : othTo L k (m + 1) = othTo L k m ||| (lft L m).2 := by show (if m = k then _ else _) = _; rw [if_neg h]
theorem hv_othTo (L : Lt) (k v : Nat) : ∀ m, hv (othTo L k m) v ↔ ∃ j, j < m ∧ j ≠ k ∧ hv (lft L j).2 v
  | 0 => by simp [othTo, hv_zero]
  | m + 1 => by
    have ih := hv_othTo L k v m
    by_cases c : m = k
    · subst c
      rw [othTo_same, ih]
      constructor
      · rintro ⟨j, h1, h2, h3⟩; exact ⟨j, by omega, h2, h3⟩
      · rintro ⟨j, h1, h2, h3⟩; exact ⟨j, by omega, h2, h3⟩
    · rw [othTo_next c, hv_or, ih]
      constructor
      · rintro (⟨j, h1, h2, h3⟩ | h)
        · exact ⟨j, by omega, h2, h3⟩
        · exact ⟨m, by omega, c, h⟩
      · rintro ⟨j, h1, h2, h3⟩
        by_cases d : j = m
        · subst d; exact .inr h3
        · exact .inl ⟨j, by omega, h2, h3⟩
theorem lft_mem {L : Lt} {k : Nat} (h : k < L.length) : lft L k ∈ L := by rw [← lft_eq L k h]; exact List.getElem_mem _
theorem mem_lft {L : Lt} {x : Nat × BitVec 32} (h : x ∈ L) : ∃ k, k < L.length ∧ lft L k = x := by
  obtain ⟨k, hk, rfl⟩ := List.getElem_of_mem h
  exact ⟨k, hk, (lft_eq L k hk).symm⟩
theorem Srt.lft_lt {L : Lt} (h : Srt L) {i j : Nat} (hij : i < j) (hj : j < L.length) : (lft L i).1 < (lft L j).1 := by
  rw [← lft_eq L i (by omega), ← lft_eq L j hj]
  exact List.pairwise_iff_getElem.1 h i j (by omega) hj hij
theorem Srt.lft_inj {L : Lt} (h : Srt L) {i j : Nat} (hi : i < L.length) (hj : j < L.length) (e : (lft L i).1 = (lft L j).1) : i = j := by
  rcases Nat.lt_trichotomy i j with c | c | c
  · have := h.lft_lt c hj; omega
  · exact c
  · have := h.lft_lt c hi; omega
theorem othTo_all {L : Lt} (hs : Srt L) {k : Nat} (hk : k < L.length) : othTo L k L.length = othersE L (lft L k).1 := hv_ext fun v => by
  rw [hv_othTo, hv_others]
  constructor
  · rintro ⟨j, h1, h2, h3⟩
    exact ⟨_, lft_mem h1, fun e => h2 (hs.lft_inj h1 hk e), h3⟩
  · rintro ⟨x, hx, h2, h3⟩
    obtain ⟨j, hj, rfl⟩ := mem_lft hx
    exact ⟨j, hj, fun e => h2 (by rw [e]), h3⟩

theorem r15others_any (A : Option Addr) (L : Lt) (c k : Nat) (w : World) (hl : L.length ≤ 7) (hs : Srt L) (hk : k < L.length) (hL : Rd w w.heap.size A (lfs L)) :
    Calls Try.prog 95 #[.slice A L.length c, .int .i64 k] w fun e w' => e = .returned (.int .u32 (uz (othersE L (lft L k).1))) ∧ w = w' := by
  have HA := Lib.hid (othTo_all hs hk)
  clear hs
  go_enter Try.func95, Try.ntmps95
  go_wp2_with fail
  go_loop [5, 6] (fun s i => ∃ m : Nat, m ≤ L.length ∧ i = .int .i64 m ∧ s = .int .u32 (uz (othTo L k m))) (fun _ i => L.length - (intOf i).toNat)
  case atStart => exact ⟨0, Nat.zero_le _, rfl, rfl⟩
  case round =>
    obtain ⟨m, hm, rfl, rfl⟩ := hrel
    by_cases hlt : m < L.length
    · obtain ⟨ad, hA, hbl, q0, q1⟩ := hL.lf_cells hlt
      subst hA
      have b1 : (0 : Int) ≤ m := by omega
      have b2 : (m : Int) < L.length := by omega
      by_cases hmk : m = k
      · subst hmk
        have HN := Lib.hid (othTo_same L m)
        have hb : ((m : Int) != (m : Int)) = false := by simp
        go_wp2_with fail
        go_round
        case rel => exact ⟨m + 1, by omega, by go_num, by rw [HN.out]⟩
        case measure => simp [intOf]; omega
      · have HN := Lib.hid (othTo_next (L := L) hmk)
        have hb : ((m : Int) != (k : Int)) = true := by simp; omega
        generalize lft L m = x at q0 q1 HN
        generalize othTo L k m = s at HN ⊢
        have HAD := Lib.hid (add_less s x.2)
        clear hmk
        go_wp2_with (go_at_call 74; refine (r14less_any _ _ _).mono ?_; rintro e w' ⟨rfl, rfl⟩)
        go_round
        case rel => exact ⟨m + 1, by omega, by go_num, by rw [HN.out, ← HAD.out]⟩
        case measure => simp [intOf]; omega
    · obtain rfl : m = L.length := by omega
      rw [HA.out]
      go_wp2_with fail
      go_ret
      exact ⟨rfl, rfl⟩

/-! ### Appending -/
section
variable {wr : World} {ops : Array Oper} {rest : List Oper} {o : Oper} {a : Act} {Q : Exit → Act → World → Prop}
theorem Try.info_rLeft : (Try.prog.info? 119).map (fun i => (i.zero, i.size, i.bytes)) = some (some (.agg #[.int .i64 0, .int .u32 0]), 2, 16) := by kernel_rfl
theorem Try.info_rStep : (Try.prog.info? 68).map (fun i => (i.zero, i.size, i.bytes)) = some (some (.agg #[.int .i64 0, .int .i64 0, .int .i64 0, .int .u32 0]), 4, 32) := by kernel_rfl
theorem app_rleft (hgd : o.guard = none) (s x : Operand) (ho : o.op = .call { callee := .builtin .append, args := #[s, x], argTypes := #[59, 59] })
    (base : Nat) (v : Value) (L : Lt) (y : Nat × BitVec 32) (hs : a.eval s = v) (hx : a.eval x = .slice (some ⟨wr.heap.size, 0, none⟩) 1 1) (hown : wr.ownsRow base 119 2 v L.length (lfs L))
    (hn : L.length + 1 ≤ 2199023255552) (hbase : base ≤ wr.heap.size)
    (h : ∀ v' w', w'.ownsRow base 119 2 v' (L ++ [y]).length (lfs (L ++ [y])) → wr.grownBy w' v.ownBlock → Below base wr w' → wpList Try.prog ops Q rest (a.put o.dst v') w') : wpList Try.prog ops Q (o :: rest) a (wr.alloc (.cells #[.int .i64 (y.1 : Nat), .int .u32 (uz y.2)] 119)) :=
  app_row Try.underlying59 Try.info_rLeft rfl (by decide) (by decide) hgd s x ho base v L.length (lfs L) _ hs hx hown rfl (by simp [Value.oneCell']) hn hbase fun v' w' h1 h2 h3 _ => h v' w' (by rw [lfs_snoc, List.length_append]; exact h1) h2 h3
theorem app_rstep (hgd : o.guard = none) (s x : Operand) (ho : o.op = .call { callee := .builtin .append, args := #[s, x], argTypes := #[58, 58] })
    (base : Nat) (v : Value) (ss : List Stp) (y : Stp) (hs : a.eval s = v) (hx : a.eval x = .slice (some ⟨wr.heap.size, 0, none⟩) 1 1) (hown : wr.ownsRow base 68 4 v ss.length (sts ss))
    (hn : ss.length + 1 ≤ 2199023255552) (hbase : base ≤ wr.heap.size)
    (h : ∀ v' w', w'.ownsRow base 68 4 v' (ss ++ [y]).length (sts (ss ++ [y])) → wr.grownBy w' v.ownBlock → Below base wr w' → wpList Try.prog ops Q rest (a.put o.dst v') w') : wpList Try.prog ops Q (o :: rest) a (wr.alloc (.cells #[.int .i64 y.kind, .int .i64 y.edge, .int .i64 y.into, .int .u32 (uz y.cut)] 68)) :=
  app_row Try.underlying58 Try.info_rStep rfl (by decide) (by decide) hgd s x ho base v ss.length (sts ss) _ hs hx hown rfl (by simp [Value.oneCell']) hn hbase fun v' w' h1 h2 h3 _ => h v' w' (by rw [sts_snoc, List.length_append]; exact h1) h2 h3
end

/-! ### Begin -/
def begL (E : List (BitVec 32)) (k : Nat) : Lt := (List.range k).map fun i => (i, ed E i)
theorem begL_len (E : List (BitVec 32)) (k : Nat) : (begL E k).length = k := by simp [begL]
theorem begL_next (E : List (BitVec 32)) (k : Nat) : begL E (k + 1) = begL E k ++ [(k, ed E k)] := by simp [begL, List.range_succ]
set_option maxHeartbeats 2000000 in
set_option maxRecDepth 100000 in
theorem r15begin_any (V : Int) (A : Option Addr) (E : List (BitVec 32)) (c : Nat) (w : World) (h7 : E.length ≤ 7) (hE : Rd w w.heap.size A (us E)) :
    Calls Try.prog 63 #[.agg #[.int .i64 V, .slice A E.length c]] w fun e w' => ∃ v, e = .returned v ∧ w'.ownsRow w.heap.size 119 2 v (beginE E).length (lfs (beginE E)) ∧ Below w.heap.size w w' := by
  go_enter Try.func63, Try.ntmps63
  go_upto_region 1 with fail
  have hb0 := below_alloc w (.cells #[.int .i64 V, .slice A E.length c] 24)
  have hG0 : Row (w.alloc (.cells #[.int .i64 V, .slice A E.length c] 24)) w.heap.size 24 [.int .i64 V, .slice A E.length c] := Row.new _ _ _
  generalize w.alloc _ = w0 at hb0 hG0 ⊢
  have hE0 := hE.later hb0
  go_wp2_with fail
  go_loopw [3, 4] (fun v i wr => ∃ k : Nat, k ≤ E.length ∧ i = .int .i64 k ∧ wr.ownsRow w0.heap.size 119 2 v (begL E k).length (lfs (begL E k)) ∧ Below w0.heap.size w0 wr) (fun _ i _ => E.length - (intOf i).toNat)
  case atStart => exact ⟨0, Nat.zero_le _, rfl, ⟨rfl, .inl ⟨rfl, rfl⟩⟩, Below.refl _ _⟩
  case round =>
    obtain ⟨k, hk, rfl, hown, hb⟩ := hrel
    have hGr := hG0.later hb
    have d1 : World.cell? _ ⟨w.heap.size, 1, none⟩ = some (.slice A E.length c) := hGr.cell 1
    by_cases hlt : k < E.length
    · obtain ⟨ad, hA, _, hc⟩ := (hE0.later hb).e_at hlt
      subst hA
      have HN := Lib.hid (begL_next E k)
      have HL := Lib.hid (begL_len E k)
      have hll : (begL E k).length ≤ 7 := by rw [begL_len]; omega
      have b1 : (0 : Int) ≤ k := by omega
      have b2 : (k : Int) < E.length := by omega
      generalize ed E k = x at hc HN
      generalize begL E k = M at hown HN HL hll
      go_wp2_with ((with_reducible show wpList _ _ _ _ _ _); refine app_rleft rfl (.tmp 12) (.tmp 20) rfl w0.heap.size _ M (k, x) rfl (by go_simp) hown (by omega) hb.size ?_)
      intro v' w' hown' _ hb'
      go_wp2_with fail
      go_roundw
      case rel => exact ⟨k + 1, by omega, by go_num, by rw [HN.out, List.length_append]; exact hown', hb.trans hb'⟩
      case measure => simp [intOf]; omega
    · obtain rfl : k = E.length := by omega
      go_wp2_with fail
      go_ret
      exact ⟨_, rfl, own_less hown hb0.size, bthen hb0 hb⟩

/-! ### Make -/
theorem makeE_take {L : Lt} {s : Stp} {k : Nat} (h : k < L.length) : makeE (L.take (k + 1)) s = makeE (L.take k) s ++ makeOf s (lft L k) := by
  rw [take_snoc L k h, lft_eq L k h]; simp [makeE]
set_option maxHeartbeats 4000000 in
set_option maxRecDepth 100000 in
theorem r15make_any (A : Option Addr) (L : Lt) (c : Nat) (s : Stp) (w : World) (hl : L.length ≤ 7) (hL : Rd w w.heap.size A (lfs L)) :
    Calls Try.prog 65 #[.slice A L.length c, .agg #[.int .i64 s.kind, .int .i64 s.edge, .int .i64 s.into, .int .u32 (uz s.cut)]] w fun e w' => ∃ v, e = .returned v ∧ w'.ownsRow w.heap.size 119 2 v (makeE L s).length (lfs (makeE L s)) ∧ Below w.heap.size w w' := by
  obtain ⟨kd, eg, io, ct⟩ := s
  simp only
  go_enter Try.func65, Try.ntmps65
  go_upto_region 1 with fail
  have hb0 := below_alloc w (.cells #[.int .i64 kd, .int .i64 eg, .int .i64 io, .int .u32 (uz ct)] 68)
  have hG0 : Row (w.alloc (.cells #[.int .i64 kd, .int .i64 eg, .int .i64 io, .int .u32 (uz ct)] 68)) w.heap.size 68 [.int .i64 kd, .int .i64 eg, .int .i64 io, .int .u32 (uz ct)] := Row.new _ _ _
  generalize w.alloc _ = w0 at hb0 hG0 ⊢
  have hL0 := hL.later hb0
  go_wp2_with fail
  go_loopw [5, 6, 7] (fun v i _ wr => ∃ k : Nat, k ≤ L.length ∧ i = .int .i64 k ∧ wr.ownsRow w0.heap.size 119 2 v (makeE (L.take k) ⟨kd, eg, io, ct⟩).length (lfs (makeE (L.take k) ⟨kd, eg, io, ct⟩)) ∧ Below w0.heap.size w0 wr) (fun _ i _ _ => L.length - (intOf i).toNat)
  case atStart => exact ⟨0, Nat.zero_le _, rfl, ⟨rfl, .inl ⟨rfl, rfl⟩⟩, Below.refl _ _⟩
  case round =>
    obtain ⟨k, hk, rfl, hown, hb⟩ := hrel
    obtain ⟨wr, ewr, hb⟩ : ∃ wr : World, wr = _ ∧ Below w0.heap.size w0 wr := ⟨_, rfl, hb⟩
    subst ewr
    have hGr := hG0.later hb
    have hglt := hGr.lt
    have d0 : wr.cell? ⟨w.heap.size, 0, none⟩ = some (.int .i64 kd) := hGr.cell 0
    have d1 : wr.cell? ⟨w.heap.size, 1, none⟩ = some (.int .i64 eg) := hGr.cell 1
    have d3 : wr.cell? ⟨w.heap.size, 3, none⟩ = some (.int .u32 (uz ct)) := hGr.cell 3
    by_cases hlt : k < L.length
    · obtain ⟨ad, hA, hbl, q0, q1⟩ := (hL0.later hb).lf_cells hlt
      subst hA
      have HN := Lib.hid (makeE_take (s := ⟨kd, eg, io, ct⟩) hlt)
      have hll : (makeE (L.take k) ⟨kd, eg, io, ct⟩).length ≤ 7 := Nat.le_trans (make_len _ _) (by rw [List.length_take]; omega)
      have b1 : (0 : Int) ≤ k := by omega
      have b2 : (k : Int) < L.length := by omega
      generalize lft L k = x at q0 q1 HN
      obtain ⟨i, x⟩ := x
      simp only at q0 q1
      generalize makeE (L.take k) ⟨kd, eg, io, ct⟩ = M at hown HN hll
      by_cases he : (i : Int) = eg
      · subst he
        by_cases hk1 : kd = 1
        · subst hk1
          have HN2 : Hid (makeE (L.take (k + 1)) ⟨1, i, io, ct⟩ = M ++ [(i, x &&& ~~~ct)]) := Lib.hid (by rw [HN.out]; simp [makeOf])
          clear HN
          go_wp2_with (first | (go_at_call 74; refine (r14less_any _ _ _).mono ?_; rintro e w' ⟨rfl, rfl⟩) | ((with_reducible show wpList _ _ _ _ _ _); refine app_rleft rfl (.tmp 32) (.tmp 34) rfl w0.heap.size _ M (i, x &&& ~~~ct) rfl (by go_simp) (hown.alloc _) (by omega) (by have := hb.size; simp; omega) ?_))
          intro v' w' hown' _ hb'
          go_wp2_with fail
          go_roundw
          case rel => exact ⟨k + 1, by omega, by go_num, by rw [HN2.out, List.length_append]; exact hown', (hb.alloc hb.size _).trans hb'⟩
          case measure => simp [intOf]; omega
        · have hkb : (kd != 1) = true := by simp [hk1]
          have HN2 : Hid (makeE (L.take (k + 1)) ⟨kd, i, io, ct⟩ = M) := Lib.hid (by rw [HN.out]; simp [makeOf, hk1])
          clear HN hk1
          go_wp2_with fail
          go_roundw
          case rel => exact ⟨k + 1, by omega, by go_num, by rw [HN2.out]; exact hown.alloc _, hb.alloc hb.size _⟩
          case measure => simp [intOf]; omega
      · have heb : ((i : Int) == eg) = false := by simp [he]
        have HN2 : Hid (makeE (L.take (k + 1)) ⟨kd, eg, io, ct⟩ = M ++ [(i, x)]) := Lib.hid (by rw [HN.out]; simp [makeOf, he])
        clear HN he
        go_wp2_with ((with_reducible show wpList _ _ _ _ _ _); refine app_rleft rfl (.tmp 32) (.tmp 34) rfl w0.heap.size _ M (i, x) rfl (by go_simp) (hown.alloc _) (by omega) (by have := hb.size; simp; omega) ?_)
        intro v' w' hown' _ hb'
        go_wp2_with fail
        go_roundw
        case rel => exact ⟨k + 1, by omega, by go_num, by rw [HN2.out, List.length_append]; exact hown', (hb.alloc hb.size _).trans hb'⟩
        case measure => simp [intOf]; omega
    · obtain rfl : k = L.length := by omega
      rw [List.take_length] at hown
      go_wp2_with fail
      go_ret
      exact ⟨_, rfl, own_less hown hb0.size, bthen hb0 hb⟩
end Go.Proofs.Ytkenbmelhfhidaa
