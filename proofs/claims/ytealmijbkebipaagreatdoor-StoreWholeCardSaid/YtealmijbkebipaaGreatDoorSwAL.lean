/- Layer 7 (bits), walked on. Layer 7 (bits), walked to its end. What the store does, in plain words: pages in memory, pages on the device. -/
import Derived.Test.YtealmijbkebipaaGreatDoorSwAK
import Derived.Test.YtealmijbkebipaaGreatDoorSwAJ
namespace Go.Proofs.YtealmijbkebipaaGreatDoor
open Go
attribute [local irreducible] own pe nf

theorem s_bits_Set_Clear {s : Nat} {st : SetA} {i : Int} : FnSpec Tryz.prog 62 #[.pointer (some ⟨s, 0, none⟩), .int .i64 i] [SetH s st]
    (fun _ : Unit => .bool (decide (0 ≤ i) && st.has i.toNat)) (fun _ => True) (fun _ R => SetH s (if (decide (0 ≤ i) && st.has i.toNat) = true then st.put i.toNat false else st) :: R) := by
  refine fn_spec Tryz.func62 rfl rfl rfl rfl fun G R => ?_
  dsimp only [List.append_eq, List.cons_append, List.nil_append]
  refine wk_seq ?_
  refine wk_region ?_
  refine wo_v (v_assign rfl) ?_
  refine wo_nil ?_
  refine wk_seq ?_
  refine wk_seq ?_
  refine wk_region ?_
  refine wo_v (v_move rfl) ?_
  refine wo_v (v_move rfl) ?_
  refine wo_w (w_call s_bits_Set_Has rfl (by repeat constructor) ?_)
  rintro ⟨⟩ -
  refine wo_v (v_not rfl) ?_
  refine wo_nil ?_
  refine wk_if rfl (fun hb => ?_) (fun hb => ?_)
  · refine wk_seq ?_
    refine wk_region ?_
    refine wo_v (v_assign rfl) ?_
    refine wo_nil ?_
    refine wk_ret Tryz.func62 rfl rfl (res_tmp rfl res_nil) fun W h => ?_
    have hf : (decide (0 ≤ i) && st.has i.toNat) = false := by
      rcases hb with hb | hb
      · simp [hb]
      · simp [hb]
    rw [if_neg (by rw [hf]; decide), hf]
    exact ⟨(), rfl, trivial, h⟩
  · refine wk_nf fun ⟨b, words, T1, T2, T3, fz⟩ hw => ?_
    dsimp only [List.append_eq, List.cons_append, List.nil_append] at hw ⊢
    obtain ⟨k, rfl⟩ := Int.eq_ofNat_of_zero_le hb.1
    have hf : (decide (0 ≤ (k : Int)) && st.has (k : Int).toNat) = true := by simp; simpa using hb.2
    have hk : st.has k = true := by simpa using hb.2
    have hkn : k < st.n := by
      refine Nat.lt_of_not_le fun hle => ?_
      unfold SetA.has at hk
      rw [List.getElem?_eq_none (by rw [hw.tl]; omega)] at hk; exact absurd hk (by simp)
    obtain ⟨w, hg, hwl, hbit⟩ := hw.get (i := k) hkn
    have hle := hw.le
    have hlen := hw.len
    have hlt := (List.getElem?_eq_some_iff.1 hg).1
    have e1 : (((k : Int) / 64)).toNat = k / 64 := by omega
    refine wk_skip ?_
    refine wk_seq ?_
    refine wk_draw (n := 14) (pend := 16383) ⟨14, fun _ => True⟩ mixed (by kernel_rfl) rfl (fun _ _ => trivial) rfl ?_
    refine wd_a 0 rfl (v_move rfl) ?_
    refine wd_a 1 rfl (v_nilCheck rfl) ?_
    refine wd_a 2 rfl (v_fieldAddr tyF_160_2 rfl) ?_
    refine wd_a 3 rfl (v_load tyS_158 rfl rfl) ?_
    refine wd_a 4 rfl (v_move rfl) ?_
    refine wd_a 5 rfl (v_quoI rfl rfl) ?_
    refine wd_a 6 rfl (v_indexAddr tyU_158 tyN_33 rfl rfl) ?_
    refine wd_a 7 rfl (v_load tyS_33 rfl (show _ = some (.int .u64 (w : Int)) from by rw [e1]; exact u64_get hg)) ?_
    refine wd_a 8 rfl (v_move rfl) ?_
    refine wd_a 9 rfl (v_remN (b := 64) rfl rfl) ?_
    refine wd_a 10 rfl (v_shlUN (a := 1) rfl rfl) ?_
    refine wd_a 11 rfl (v_andNotUN rfl rfl) ?_
    refine wd_a 12 rfl (v_indexAddr tyU_158 tyN_33 rfl rfl) ?_
    refine wd_l0 13 rfl (w_store1 tyN_33 rfl rfl rfl (blt_of (b := (words.map u64v).length) (by rw [e1, List.length_map]; omega)) (by repeat constructor) ?_)
    refine ⟨fun _ _ _ => trivial, ?_⟩
    refine wd_done ?_
    refine wk_seq ?_
    refine wk_region ?_
    refine wo_v (v_assign rfl) ?_
    refine wo_nil ?_
    refine wk_ret Tryz.func62 rfl rfl (res_tmp rfl res_nil) fun W h => ?_
    rw [if_pos hf, hf]
    refine ⟨(), rfl, trivial, Ent.sat ?_ h⟩
    rw [e1, u64_set]
    refine ent_nf ⟨b, words.set (k / 64) (w &&& (18446744073709551615 - 1 * 2 ^ (k % 64) % 18446744073709551616)), T1, T2, T3, fz⟩ (hw.put hkn hg (Nat.lt_of_le_of_lt Nat.and_le_left hwl) ?_) ?_
    · intro j hj
      rw [one_shl, clear_bit hwl (Nat.mod_lt _ (by decide))]
      by_cases e : j = k % 64
      · subst e; simp
      · have : ¬ k % 64 = j := fun h => e h.symm
        simp [e, this]
    · exact ent_tail

/-! The first that is free. -/
def SetA.first (st : SetA) (a : Nat) : Option Nat := (List.range st.n).find? fun i => decide (a ≤ i) && !st.has i
def optI : Option Nat → Int
  | none => -1
  | some i => i

theorem SetA.first_some {st : SetA} {a i : Nat} (h1 : i < st.n) (h2 : a ≤ i) (h3 : st.has i = false) (h4 : ∀ j, a ≤ j → j < i → st.has j = true) : st.first a = some i := by
  unfold SetA.first
  rw [List.find?_range_eq_some]
  refine ⟨by simp [h2, h3], List.mem_range.2 h1, fun j hj => ?_⟩
  by_cases hja : a ≤ j
  · simp [hja, h4 j hja hj]
  · simp [hja]
theorem SetA.first_none {st : SetA} {a : Nat} (h : ∀ j, a ≤ j → j < st.n → st.has j = true) : st.first a = none := by
  unfold SetA.first
  rw [List.find?_eq_none]
  intro j hj
  have hj := List.mem_range.1 hj
  by_cases hja : a ≤ j
  · simp [hja, h j hja hj]
  · simp [hja]

/-- What is known of the numbers below the w-th word, and of those that are left. -/
def LeftOK (st : SetA) (a w left : Nat) : Prop :=
  left < 18446744073709551616 ∧ (∀ j, j < 64 → left.testBit j = true → st.has (w * 64 + j) = false) ∧ (∀ j, j < 64 → a ≤ w * 64 + j → st.has (w * 64 + j) = false → left.testBit j = true)
def Below (st : SetA) (a m : Nat) : Prop := ∀ j, a ≤ j → j < m → st.has j = true

theorem Below.left {st : SetA} {a w left : Nat} (hB : Below st a (w * 64)) (hL : LeftOK st a w left) (h0 : left ≠ 0) : Below st a (w * 64 + Lib.ctz 64 left) := by
  intro j h1 h2
  by_cases hj : j < w * 64
  · exact hB j h1 hj
  · obtain ⟨k, rfl⟩ : ∃ k, j = w * 64 + k := ⟨j - w * 64, by omega⟩
    have hk : k < Lib.ctz 64 left := by omega
    have hle := ctz_le left hL.1
    cases hh : st.has (w * 64 + k)
    · have := hL.2.2 k (by omega) h1 hh
      rw [(low_bit h0 hL.1).2 k hk] at this; exact absurd this (by decide)
    · rfl
theorem LeftOK.next {st : SetA} {a w left : Nat} (hL : LeftOK st a w left) (h0 : left ≠ 0) (ha : w * 64 + Lib.ctz 64 left < a) : LeftOK st a w (left &&& (left - 1)) := by
  have hk := low_out h0 hL.1
  refine ⟨Nat.lt_of_lt_of_le hk.2 (Nat.le_of_lt hL.1), fun j hj h => ?_, fun j hj h1 h2 => ?_⟩
  · rw [hk.1 j, Bool.and_eq_true] at h; exact hL.2.1 j hj h.1
  · rw [hk.1 j, hL.2.2 j hj h1 h2]; simp; omega
theorem LeftOK.done {st : SetA} {a w : Nat} (hL : LeftOK st a w 0) (hB : Below st a (w * 64)) : Below st a ((w + 1) * 64) := by
  intro j h1 h2
  by_cases hj : j < w * 64
  · exact hB j h1 hj
  · obtain ⟨k, rfl⟩ : ∃ k, j = w * 64 + k := ⟨j - w * 64, by omega⟩
    cases hh : st.has (w * 64 + k)
    · have := hL.2.2 k (by omega) h1 hh
      rw [Nat.zero_testBit] at this; exact absurd this (by decide)
    · rfl
theorem LeftOK.start {st : SetA} {words : List Nat} {a w x : Nat} (h : st.Wf words) (hg : words[w]? = some x) (hx : x < 18446744073709551616) : LeftOK st a w (18446744073709551615 ^^^ x) := by
  have key : ∀ j, j < 64 → st.has (w * 64 + j) = x.testBit j := by
    intro j hj
    have := h.bits (w * 64 + j)
    rw [show (w * 64 + j) / 64 = w from by omega, show (w * 64 + j) % 64 = j from by omega, hg] at this
    exact this.symm
  refine ⟨?_, fun j hj hb => ?_, fun j hj _ hb => ?_⟩
  · have : 18446744073709551615 ^^^ x < 2 ^ 64 := Nat.xor_lt_two_pow (by decide) hx
    exact this
  · rw [testBit_not64 hj] at hb; rw [key j hj]; simpa using hb
  · rw [testBit_not64 hj]; rw [key j hj] at hb; simp [hb]

theorem s_bits_Set_free {s a : Nat} {st : SetA} (ha : a ≤ 65536) : FnSpec Tryz.prog 82 #[.pointer (some ⟨s, 0, none⟩), .int .i64 a] [SetH s st]
    (fun _ : Unit => .int .i64 (optI (st.first a))) (fun _ => True) (fun _ R => SetH s st :: R) := by
  refine fn_spec Tryz.func82 rfl rfl rfl rfl fun G R => ?_
  refine wk_nf fun ⟨b, words, T1, T2, T3, fz⟩ hw => ?_
  dsimp only [List.append_eq, List.cons_append, List.nil_append] at hw ⊢
  have hle := hw.le
  have hlen := hw.len
  refine wk_seq ?_
  refine wk_region ?_
  refine wo_v (v_assign rfl) ?_
  refine wo_nil ?_
  refine wk_scope ?_
  refine wk_seq ?_
  refine wk_label ?_
  refine wk_seq ?_
  refine wk_seq ?_
  refine wk_region ?_
  refine wo_v (v_move rfl) ?_
  refine wo_v (v_quoN (b := 64) rfl rfl) ?_
  refine wo_v (v_assign rfl) ?_
  refine wo_nil ?_
  refine wk_block ?_
  refine wk_loop (fun w : Nat => Below st a (w * 64)) (fun w => [(0, .pointer (some ⟨s, 0, none⟩)), (1, .int .i64 a), (5, .int .i64 w)]) (fun _ => blk s _ T1 :: blk b _ T2 :: pe (tabP T3 fz) :: R) (fun w => words.length - w) (a / 64) (fun j h1 h2 => by omega) ⟨rfl, rfl, rfl, trivial⟩ ent_tail fun w hB next => ?_
  refine wk_seq ?_
  refine wk_seq ?_
  refine wk_region ?_
  refine wo_v (v_move rfl) ?_
  refine wo_v (v_move rfl) ?_
  refine wo_v (v_nilCheck rfl) ?_
  refine wo_v (v_fieldAddr tyF_160_2 rfl) ?_
  refine wo_v (v_load tyS_158 rfl rfl) ?_
  refine wo_v (v_len tyU_158 rfl) ?_
  refine wo_v (v_lss rfl rfl) ?_
  refine wo_nil ?_
  refine wk_if rfl (fun hb => ?_) (fun hb => ?_)
  · have hlt : w < words.length := by omega
    have hg : words[w]? = some words[w] := List.getElem?_eq_getElem hlt
    have hxl := hw.word _ (List.getElem_mem hlt)
    generalize words[w] = x at hg hxl
    refine wk_skip ?_
    refine wk_seq ?_
    refine wk_block ?_
    refine wk_seq ?_
    refine wk_region ?_
    refine wo_v (v_move rfl) ?_
    refine wo_v (v_nilCheck rfl) ?_
    refine wo_v (v_fieldAddr tyF_160_2 rfl) ?_
    refine wo_v (v_load tyS_158 rfl rfl) ?_
    refine wo_v (v_move rfl) ?_
    refine wo_v (v_indexAddr tyU_158 tyN_33 rfl rfl) ?_
    refine wo_v (v_load tyS_33 rfl (show _ = some (.int .u64 (x : Int)) from by rw [Int.toNat_natCast]; exact u64_get hg)) ?_
    refine wo_v (v_un_xorUN rfl) ?_
    refine wo_v (v_assign rfl) ?_
    refine wo_nil ?_
    refine wk_block ?_
    refine wk_loop (fun left : Nat => LeftOK st a w left) (fun left => [(0, .pointer (some ⟨s, 0, none⟩)), (1, .int .i64 a), (5, .int .i64 w), (6, .int .u64 left)]) (fun _ => blk s _ T1 :: blk b _ T2 :: pe (tabP T3 fz) :: R) (fun left => left) (18446744073709551615 ^^^ x) (LeftOK.start hw hg hxl) ⟨rfl, rfl, rfl, rfl, trivial⟩ ent_tail fun left hL next2 => ?_
    refine wk_seq ?_
    refine wk_seq ?_
    refine wk_region ?_
    refine wo_v (v_move rfl) ?_
    refine wo_v (v_neq rfl rfl) ?_
    refine wo_nil ?_
    refine wk_if rfl (fun h0 => ?_) (fun h0 => ?_)
    · have hct := ctz_le left hL.1
      have h0' : left ≠ 0 := by omega
      have hB2 := hB.left hL h0'
      have hll := hL.1
      refine wk_skip ?_
      refine wk_seq ?_
      refine wk_block ?_
      refine wk_seq ?_
      refine wk_region ?_
      refine wo_v (v_move rfl) ?_
      refine wo_v (v_mulI rfl rfl) ?_
      refine wo_v (v_move rfl) ?_
      refine wo_w (w_call (s_math_bits_TrailingZeros64 hL.1) rfl (by repeat constructor) ?_)
      rintro ⟨⟩ -
      refine wo_v (v_addI rfl rfl) ?_
      refine wo_v (v_assign rfl) ?_
      refine wo_nil ?_
      refine wk_block ?_
      refine wk_seq ?_
      refine wk_region ?_
      refine wo_v (v_move rfl) ?_
      refine wo_v (v_move rfl) ?_
      refine wo_v (v_nilCheck rfl) ?_
      refine wo_v (v_fieldAddr tyF_160_0 rfl) ?_
      refine wo_v (v_load tyS_3 rfl rfl) ?_
      refine wo_v (v_geq rfl rfl) ?_
      refine wo_v (v_assign rfl) ?_
      refine wo_nil ?_
      refine wk_if rfl (fun hge => ?_) (fun hge => ?_)
      · refine wk_exit rfl ?_
        refine wk_seq ?_
        refine wk_region ?_
        refine wo_v (v_assign rfl) ?_
        refine wo_nil ?_
        refine wk_ret Tryz.func82 rfl rfl (res_tmp rfl res_nil) fun W h => ?_
        have hf : st.first a = none := SetA.first_none fun j h1 h2 => hB2 j h1 (by omega)
        rw [hf]
        exact ⟨(), rfl, trivial, Ent.sat (by refine ent_nf ⟨b, words, T1, T2, T3, fz⟩ hw ?_; exact ent_tail) h⟩
      · refine wk_seq ?_
        refine wk_region ?_
        refine wo_v (v_move rfl) ?_
        refine wo_v (v_move rfl) ?_
        refine wo_v (v_geq rfl rfl) ?_
        refine wo_v (v_assign rfl) ?_
        refine wo_nil ?_
        refine wk_if rfl (fun hfr => ?_) (fun hfr => ?_)
        · refine wk_seq ?_
          refine wk_region ?_
          refine wo_v (v_move rfl) ?_
          refine wo_v (v_assign rfl) ?_
          refine wo_nil ?_
          refine wk_ret Tryz.func82 rfl rfl (res_tmp rfl res_nil) fun W h => ?_
          have hct2 : Lib.ctz 64 left < 64 := (low_spec h0' hL.1).choose_spec.2
          have hf : st.first a = some (w * 64 + Lib.ctz 64 left) := SetA.first_some (by omega) (by omega) (hL.2.1 _ hct2 (low_bit h0' hL.1).1) hB2
          rw [hf]
          refine ⟨(), ?_, trivial, Ent.sat (by refine ent_nf ⟨b, words, T1, T2, T3, fz⟩ hw ?_; exact ent_tail) h⟩
          simp [mkRes, optI]
        · refine wk_skip ?_
          refine wk_inBlock ?_
          refine wk_inBlock ?_
          refine wk_region ?_
          refine wo_v (v_move rfl) ?_
          refine wo_v (v_move rfl) ?_
          refine wo_v (v_subUN (b := 1) rfl rfl) ?_
          refine wo_v (v_andUN rfl rfl) ?_
          refine wo_v (v_assign rfl) ?_
          refine wo_nil ?_
          exact (next2 (left &&& (left - 1)) (hL.next h0' (by omega)) (low_out h0' hL.1).2).use ⟨rfl, rfl, rfl, rfl, trivial⟩ ent_tail
    · have h0' : left = 0 := by omega
      subst h0'
      refine wk_exit rfl ?_
      refine wk_inBlock ?_
      refine wk_region ?_
      refine wo_v (v_move rfl) ?_
      refine wo_v (v_addI rfl rfl) ?_
      refine wo_v (v_assign rfl) ?_
      refine wo_nil ?_
      exact (next (w + 1) (hL.done hB) (by omega)).use ⟨rfl, rfl, rfl, trivial⟩ ent_tail
  · refine wk_exit rfl ?_
    refine wk_seq ?_
    refine wk_region ?_
    refine wo_v (v_assign rfl) ?_
    refine wo_nil ?_
    refine wk_ret Tryz.func82 rfl rfl (res_tmp rfl res_nil) fun W h => ?_
    have hf : st.first a = none := SetA.first_none fun j h1 h2 => hB j h1 (by omega)
    rw [hf]
    exact ⟨(), rfl, trivial, Ent.sat (by refine ent_nf ⟨b, words, T1, T2, T3, fz⟩ hw ?_; exact ent_tail) h⟩

end Go.Proofs.YtealmijbkebipaaGreatDoor

namespace Go.Proofs.YtealmijbkebipaaGreatDoor
open Go
attribute [local irreducible] own pe nf

/-- The number that a take gives. -/
def SetA.pick (st : SetA) : Option Nat := match st.first st.hand with
  | some i => some i
  | none => st.first 0
def SetA.took (st : SetA) : SetA := match st.pick with
  | some i => ⟨st.n, st.taken.set i true, (i + 1) % st.n⟩
  | none => st
def optN : Option Nat → Nat
  | none => 0
  | some i => i

theorem SetA.first_get {st : SetA} {a i : Nat} (h : st.first a = some i) : i < st.n ∧ st.has i = false := by
  unfold SetA.first at h
  rw [List.find?_range_eq_some] at h
  have h1 := h.1
  simp at h1
  exact ⟨List.mem_range.1 h.2.1, h1.2⟩
theorem SetA.isFree_of {st : SetA} {a i : Nat} (h : st.first a = some i) : st.isFree i = true := by
  obtain ⟨h1, h2⟩ := SetA.first_get h
  unfold SetA.isFree
  simp [h1, h2]
theorem optI_neg {o : Option Nat} : optI o < 0 ↔ o = none := by
  cases o <;> simp [optI]

theorem s_bits_Set_Take {s : Nat} {st : SetA} : FnSpec Tryz.prog 53 #[.pointer (some ⟨s, 0, none⟩)] [SetH s st]
    (fun _ : Unit => .tuple #[.int .i64 (optN st.pick), .bool st.pick.isSome]) (fun _ => True) (fun _ R => SetH s st.took :: R) := by
  refine fn_spec Tryz.func53 rfl rfl rfl rfl fun G R => ?_
  refine wk_nf fun ⟨b, words, T1, T2, T3, fz⟩ hw => ?_
  dsimp only [List.append_eq, List.cons_append, List.nil_append] at hw ⊢
  have hle := hw.le
  have hhand := hw.hand
  refine wk_seq ?_
  refine wk_region ?_
  refine wo_v (v_assign rfl) ?_
  refine wo_v (v_assign rfl) ?_
  refine wo_nil ?_
  refine wk_seq ?_
  refine wk_seq ?_
  refine wk_region ?_
  refine wo_v (v_move rfl) ?_
  refine wo_v (v_eqSome tyU_70 rfl rfl) ?_
  refine wo_nil ?_
  refine wk_condF rfl ?_
  refine wk_skip ?_
  refine wk_seq ?_
  refine wk_region ?_
  refine wo_v (v_move rfl) ?_
  refine wo_v (v_move rfl) ?_
  refine wo_v (v_nilCheck rfl) ?_
  refine wo_v (v_fieldAddr tyF_160_1 rfl) ?_
  refine wo_v (v_load tyS_3 rfl rfl) ?_
  refine wo_ent (M := SetH s st :: _) (ent_nf ⟨b, words, T1, T2, T3, fz⟩ hw (Ent.refl _)) ?_
  refine wo_w (w_call (s_bits_Set_free (a := st.hand) (by omega)) rfl (by repeat constructor) ?_)
  rintro ⟨⟩ -
  refine wo_v (v_assign rfl) ?_
  refine wo_nil ?_
  refine wk_seq ?_
  refine wk_seq ?_
  refine wk_region ?_
  refine wo_v (v_move rfl) ?_
  refine wo_v (v_lss rfl rfl) ?_
  refine wo_nil ?_
  refine wk_if rfl (fun h1 => ?_) (fun h1 => ?_)
  · refine wk_region ?_
    refine wo_v (v_move rfl) ?_
    refine wo_w (w_call (s_bits_Set_free (a := 0) (by omega)) rfl (by repeat constructor) ?_)
    rintro ⟨⟩ -
    refine wo_v (v_assign rfl) ?_
    refine wo_nil ?_
    refine wk_seq ?_
    refine wk_seq ?_
    refine wk_region ?_
    refine wo_v (v_move rfl) ?_
    refine wo_v (v_lss rfl rfl) ?_
    refine wo_nil ?_
    refine wk_if rfl (fun h2 => ?_) (fun h2 => ?_)
    · refine wk_seq ?_
      refine wk_region ?_
      refine wo_v (v_assign rfl) ?_
      refine wo_v (v_assign rfl) ?_
      refine wo_nil ?_
      refine wk_ret Tryz.func53 rfl rfl (res_tmp rfl (res_tmp rfl res_nil)) fun W h => ?_
      have hp : st.pick = none := by unfold SetA.pick; rw [optI_neg.1 h1, optI_neg.1 h2]
      have ht : st.took = st := by unfold SetA.took; rw [hp]
      rw [ht, hp]
      exact ⟨(), rfl, trivial, Ent.sat (by refine ent_take ?_; exact ent_tail) h⟩
    · obtain ⟨i, hi⟩ : ∃ i, st.first 0 = some i := Option.ne_none_iff_exists'.1 fun e => h2 (optI_neg.2 e)
      have hp : st.pick = some i := by unfold SetA.pick; rw [optI_neg.1 h1]; exact hi
      rw [hi]
      dsimp only [optI]
      have hfree := SetA.isFree_of hi
      obtain ⟨hin, hih⟩ := SetA.first_get hi
      refine wk_skip ?_
      refine wk_seq ?_
      refine wk_region ?_
      refine wo_v (v_move rfl) ?_
      refine wo_v (v_move rfl) ?_
      refine wo_w (w_call (s_bits_Set_Mark (i := (i : Int))) rfl (by repeat constructor) ?_)
      rintro ⟨⟩ -
      rw [if_pos hfree, Int.toNat_natCast]
      refine wo_nf fun ⟨b2, words2, T12, T22, T32, fz2⟩ hw2 => ?_
      dsimp only [List.append_eq, List.cons_append, List.nil_append] at hw2 ⊢
      refine wo_nil ?_
      refine wk_seq ?_
      refine wk_region ?_
      refine wo_v (v_move rfl) ?_
      refine wo_v (v_move rfl) ?_
      refine wo_v (v_addI rfl rfl) ?_
      refine wo_v (v_move rfl) ?_
      refine wo_v (v_nilCheck rfl) ?_
      refine wo_v (v_fieldAddr tyF_160_0 rfl) ?_
      refine wo_v (v_load tyS_3 rfl rfl) ?_
      refine wo_v (v_remN (a := i + 1) (b := (st.put i true).n) rfl rfl hw.pos) ?_
      refine wo_v (v_nilCheck rfl) ?_
      refine wo_v (v_fieldAddr tyF_160_1 rfl) ?_
      refine wo_w0 (w_storeN1 tyN_3 rfl rfl rfl (by repeat constructor) (by repeat constructor) ?_)
      refine wo_nil ?_
      refine wk_seq ?_
      refine wk_region ?_
      refine wo_v (v_move rfl) ?_
      refine wo_v (v_assign rfl) ?_
      refine wo_v (v_assign rfl) ?_
      refine wo_nil ?_
      refine wk_ret Tryz.func53 rfl rfl (res_tmp rfl (res_tmp rfl res_nil)) fun W h => ?_
      have ht : st.took = ⟨st.n, st.taken.set i true, (i + 1) % st.n⟩ := by unfold SetA.took; rw [hp]
      rw [ht, hp]
      refine ⟨(), rfl, trivial, Ent.sat (by refine ent_nf ⟨b2, words2, T12, T22, T32, fz2⟩ ⟨hw2.pos, hw2.tl, hw2.le, hw2.len, Nat.mod_lt _ hw.pos, hw2.word, hw2.bits⟩ ?_; exact ent_tail) h⟩
  · refine wk_skip ?_
    refine wk_seq ?_
    refine wk_seq ?_
    refine wk_region ?_
    refine wo_v (v_move rfl) ?_
    refine wo_v (v_lss rfl rfl) ?_
    refine wo_nil ?_
    refine wk_if rfl (fun h2 => ?_) (fun h2 => ?_)
    · exact absurd h2 h1
    · obtain ⟨i, hi⟩ : ∃ i, st.first st.hand = some i := Option.ne_none_iff_exists'.1 fun e => h1 (optI_neg.2 e)
      have hp : st.pick = some i := by unfold SetA.pick; rw [hi]
      rw [hi]
      dsimp only [optI]
      have hfree := SetA.isFree_of hi
      obtain ⟨hin, hih⟩ := SetA.first_get hi
      refine wk_skip ?_
      refine wk_seq ?_
      refine wk_region ?_
      refine wo_v (v_move rfl) ?_
      refine wo_v (v_move rfl) ?_
      refine wo_w (w_call (s_bits_Set_Mark (i := (i : Int))) rfl (by repeat constructor) ?_)
      rintro ⟨⟩ -
      rw [if_pos hfree, Int.toNat_natCast]
      refine wo_nf fun ⟨b2, words2, T12, T22, T32, fz2⟩ hw2 => ?_
      dsimp only [List.append_eq, List.cons_append, List.nil_append] at hw2 ⊢
      refine wo_nil ?_
      refine wk_seq ?_
      refine wk_region ?_
      refine wo_v (v_move rfl) ?_
      refine wo_v (v_move rfl) ?_
      refine wo_v (v_addI rfl rfl) ?_
      refine wo_v (v_move rfl) ?_
      refine wo_v (v_nilCheck rfl) ?_
      refine wo_v (v_fieldAddr tyF_160_0 rfl) ?_
      refine wo_v (v_load tyS_3 rfl rfl) ?_
      refine wo_v (v_remN (a := i + 1) (b := (st.put i true).n) rfl rfl hw.pos) ?_
      refine wo_v (v_nilCheck rfl) ?_
      refine wo_v (v_fieldAddr tyF_160_1 rfl) ?_
      refine wo_w0 (w_storeN1 tyN_3 rfl rfl rfl (by repeat constructor) (by repeat constructor) ?_)
      refine wo_nil ?_
      refine wk_seq ?_
      refine wk_region ?_
      refine wo_v (v_move rfl) ?_
      refine wo_v (v_assign rfl) ?_
      refine wo_v (v_assign rfl) ?_
      refine wo_nil ?_
      refine wk_ret Tryz.func53 rfl rfl (res_tmp rfl (res_tmp rfl res_nil)) fun W h => ?_
      have ht : st.took = ⟨st.n, st.taken.set i true, (i + 1) % st.n⟩ := by unfold SetA.took; rw [hp]
      rw [ht, hp]
      refine ⟨(), rfl, trivial, Ent.sat (by refine ent_nf ⟨b2, words2, T12, T22, T32, fz2⟩ ⟨hw2.pos, hw2.tl, hw2.le, hw2.len, Nat.mod_lt _ hw.pos, hw2.word, hw2.bits⟩ ?_; exact ent_tail) h⟩


/-! Going through what is taken. -/
def SetA.upto (st : SetA) (m : Nat) : List Nat := (List.range m).filter st.has
def SetA.list (st : SetA) : List Nat := st.upto st.n

theorem SetA.upto_skip {st : SetA} {a c : Nat} (hac : a ≤ c) (h : ∀ j, a ≤ j → j < c → st.has j = false) : st.upto c = st.upto a := by
  obtain ⟨d, rfl⟩ := Nat.exists_eq_add_of_le hac
  clear hac
  induction d with
  | zero => rfl
  | succ d ih =>
    have hf := h (a + d) (by omega) (by omega)
    unfold SetA.upto at *
    rw [← Nat.add_assoc, List.range_succ, List.filter_append, ih (fun j h1 h2 => h j h1 (by omega))]
    simp [hf]
theorem SetA.upto_step {st : SetA} {a c : Nat} (hac : a ≤ c) (h : ∀ j, a ≤ j → j < c → st.has j = false) (hc : st.has c = true) : st.upto (c + 1) = st.upto a ++ [c] := by
  rw [← SetA.upto_skip hac h]
  unfold SetA.upto
  rw [List.range_succ, List.filter_append]
  simp [hc]
theorem SetA.has_big {st : SetA} {words : List Nat} (h : st.Wf words) {j : Nat} (hj : st.n ≤ j) : st.has j = false := by
  unfold SetA.has
  rw [List.getElem?_eq_none (by rw [h.tl]; exact hj)]; rfl
theorem SetA.upto_all {st : SetA} {words : List Nat} (h : st.Wf words) {m : Nat} (hm : st.n ≤ m) : st.upto m = st.list := SetA.upto_skip hm fun _ h1 _ => SetA.has_big h h1

theorem SetA.upto_prefix {st : SetA} {a : Nat} (h : a ≤ st.n) : st.upto a <+: st.list := by
  obtain ⟨d, hd⟩ := Nat.exists_eq_add_of_le h
  unfold SetA.list SetA.upto
  rw [hd, List.range_add, List.filter_append]
  exact List.prefix_append _ _
theorem SetA.list_len {st : SetA} : st.list.length ≤ st.n := by
  have := List.length_filter_le st.has (List.range st.n)
  simpa [SetA.list, SetA.upto] using this

/-- What is left of a word whose bits below p were gone through. -/
def RestOK (st : SetA) (w p rest : Nat) : Prop := rest < 18446744073709551616 ∧ p ≤ 64 ∧ ∀ j, j < 64 → rest.testBit j = (decide (p ≤ j) && st.has (w * 64 + j))
theorem RestOK.start {st : SetA} {words : List Nat} {w x : Nat} (h : st.Wf words) (hg : words[w]? = some x) (hx : x < 18446744073709551616) : RestOK st w 0 x := by
  refine ⟨hx, by omega, fun j hj => ?_⟩
  have := h.bits (w * 64 + j)
  rw [show (w * 64 + j) / 64 = w from by omega, show (w * 64 + j) % 64 = j from by omega, hg] at this
  simpa [SetA.has] using this
theorem RestOK.at {st : SetA} {w p x : Nat} (h : RestOK st w p x) (h0 : x ≠ 0) : Lib.ctz 64 x < 64 ∧ p ≤ Lib.ctz 64 x ∧ st.has (w * 64 + Lib.ctz 64 x) = true ∧ (∀ j, w * 64 + p ≤ j → j < w * 64 + Lib.ctz 64 x → st.has j = false) := by
  have hlt : Lib.ctz 64 x < 64 := (low_spec h0 h.1).choose_spec.2
  have hb := low_bit h0 h.1
  have h1 := h.2.2 _ hlt
  rw [hb.1] at h1
  have h1 := Bool.and_eq_true _ _ ▸ h1.symm
  refine ⟨hlt, by simpa using h1.1, h1.2, fun j hj1 hj2 => ?_⟩
  obtain ⟨k, rfl⟩ : ∃ k, j = w * 64 + k := ⟨j - w * 64, by omega⟩
  have h2 := h.2.2 k (by omega)
  rw [hb.2 k (by omega)] at h2
  have hpk : decide (p ≤ k) = true := by simp; omega
  rw [hpk, Bool.true_and] at h2
  exact h2.symm
theorem RestOK.next {st : SetA} {w p x : Nat} (h : RestOK st w p x) (h0 : x ≠ 0) : RestOK st w (Lib.ctz 64 x + 1) (x &&& (x - 1)) := by
  have hk := low_out h0 h.1
  have ha := h.at h0
  refine ⟨Nat.lt_trans hk.2 h.1, by omega, fun j hj => ?_⟩
  rw [hk.1 j, h.2.2 j hj]
  by_cases h1 : j < Lib.ctz 64 x
  · have hn : decide (Lib.ctz 64 x + 1 ≤ j) = false := by simp; omega
    rw [hn]
    by_cases h2 : p ≤ j
    · rw [ha.2.2.2 (w * 64 + j) (by omega) (by omega)]; simp
    · simp [h2]
  · by_cases h2 : j = Lib.ctz 64 x
    · simp [h2]; intro hh; omega
    · have h3 : decide (p ≤ j) = true := by simp; omega
      have h4 : decide (Lib.ctz 64 x + 1 ≤ j) = true := by simp; omega
      rw [h3, h4]; simp [h2]
theorem RestOK.done {st : SetA} {w p : Nat} (h : RestOK st w p 0) : st.upto ((w + 1) * 64) = st.upto (w * 64 + p) := by
  refine SetA.upto_skip (by have := h.2.1; omega) fun q h1 h2 => ?_
  obtain ⟨k, rfl⟩ : ∃ k, q = w * 64 + k := ⟨q - w * 64, by omega⟩
  have := h.2.2 k (by omega)
  rw [Nat.zero_testBit] at this
  have hpk : decide (p ≤ k) = true := by simp; omega
  rw [hpk, Bool.true_and] at this
  exact this.symm

theorem s_bits_Set_taken_1 {s c : Nat} {T : TypeId} {st : SetA} {yv : Value} (J : List Nat → HP) (D : HP)
    (hy : ∀ seen x, seen ++ [x] <+: st.list → FvSpec Tryz.prog yv #[.int .i64 (x : Nat)] [J seen] (fun b : Bool => .bool b) (fun _ => True) (fun b R => (bif b then J (seen ++ [x]) else D) :: R)) :
    FnSpec Tryz.prog 118 #[yv, .pointer (some ⟨c, 0, none⟩)] [J [], SetH s st, blk c [.pointer (some ⟨s, 0, none⟩)] T]
    (fun _ : Bool => .tuple #[]) (fun _ => True) (fun b R => (bif b then J st.list else D) :: SetH s st :: R) := by
  refine fn_spec Tryz.func118 rfl rfl rfl rfl fun G R => ?_
  dsimp only [List.append_eq, List.cons_append, List.nil_append]
  refine wk_ent (M := SetH s st :: J [] :: blk c [.pointer (some ⟨s, 0, none⟩)] T :: R) (by refine ent_take ?_; refine ent_take ?_; refine ent_take ?_; exact ent_tail) ?_
  refine wk_nf fun ⟨b, words, T1, T2, T3, fz⟩ hw => ?_
  dsimp only [List.append_eq, List.cons_append, List.nil_append] at hw ⊢
  have hle := hw.le
  have hlen := hw.len
  refine wk_seq ?_
  refine wk_region ?_
  refine wo_v (v_load tyS_70 rfl rfl) ?_
  refine wo_v (v_nilCheck rfl) ?_
  refine wo_v (v_fieldAddr tyF_160_2 rfl) ?_
  refine wo_v (v_load tyS_158 rfl rfl) ?_
  refine wo_v (v_len tyU_158 rfl) ?_
  refine wo_v (v_move rfl) ?_
  refine wo_nil ?_
  refine wk_block ?_
  refine wk_loop (fun w : Nat => w ≤ words.length) (fun w => [(0, yv), (8, .slice (some ⟨b, 0, none⟩) ((st.n + 63) / 64 : Nat) ((st.n + 63) / 64 : Nat)), (9, .int .i64 ((st.n + 63) / 64 : Nat)), (10, .int .i64 w)]) (fun w => J (st.upto (w * 64)) :: blk s _ T1 :: blk b _ T2 :: pe (tabP T3 fz) :: R) (fun w => words.length - w) 0 (Nat.zero_le _) ⟨rfl, rfl, rfl, rfl, trivial⟩ (by refine ent_take ?_; refine ent_take ?_; refine ent_take ?_; refine ent_take ?_; exact ent_tail) fun w hwl next => ?_
  refine wk_seq ?_
  refine wk_region ?_
  refine wo_v (v_lss rfl rfl) ?_
  refine wo_nil ?_
  refine wk_seq ?_
  refine wk_if rfl (fun hb => ?_) (fun hb => ?_)
  · have hlt : w < words.length := by omega
    have hg : words[w]? = some words[w] := List.getElem?_eq_getElem hlt
    have hxl := hw.word _ (List.getElem_mem hlt)
    generalize words[w] = x at hg hxl
    refine wk_skip ?_
    refine wk_seq ?_
    refine wk_block ?_
    refine wk_seq ?_
    refine wk_region ?_
    refine wo_v (v_move rfl) ?_
    refine wo_v (v_indexAddr tyU_158 tyN_33 rfl rfl) ?_
    refine wo_v (v_load tyS_33 rfl (show _ = some (.int .u64 (x : Int)) from by rw [Int.toNat_natCast]; exact u64_get hg)) ?_
    refine wo_v (v_assign rfl) ?_
    refine wo_v (v_assign rfl) ?_
    refine wo_nil ?_
    refine wk_block ?_
    refine wk_loop (fun p : Nat × Nat => RestOK st w p.1 p.2) (fun p => [(0, yv), (8, .slice (some ⟨b, 0, none⟩) ((st.n + 63) / 64 : Nat) ((st.n + 63) / 64 : Nat)), (9, .int .i64 ((st.n + 63) / 64 : Nat)), (10, .int .i64 w), (3, .int .i64 w), (4, .int .u64 p.2)]) (fun p => J (st.upto (w * 64 + p.1)) :: blk s _ T1 :: blk b _ T2 :: pe (tabP T3 fz) :: R) (fun p => p.2) (0, x) (RestOK.start hw hg hxl) ⟨rfl, rfl, rfl, rfl, rfl, rfl, trivial⟩ (by refine ent_take ?_; refine ent_take ?_; refine ent_take ?_; refine ent_take ?_; exact ent_tail) fun p0 hL next2 => ?_
    obtain ⟨p, rest⟩ := p0
    dsimp only at hL next2 ⊢
    refine wk_seq ?_
    refine wk_seq ?_
    refine wk_region ?_
    refine wo_v (v_move rfl) ?_
    refine wo_v (v_neq rfl rfl) ?_
    refine wo_nil ?_
    refine wk_if rfl (fun h0 => ?_) (fun h0 => ?_)
    · have h0' : rest ≠ 0 := by omega
      have hA := hL.at h0'
      have hct := hA.1
      have hll := hL.1
      refine wk_skip ?_
      refine wk_seq ?_
      refine wk_block ?_
      refine wk_seq ?_
      refine wk_region ?_
      refine wo_v (v_move rfl) ?_
      refine wo_v (v_move rfl) ?_
      refine wo_v (v_mulI rfl rfl) ?_
      refine wo_v (v_move rfl) ?_
      refine wo_w (w_call (s_math_bits_TrailingZeros64 hL.1) rfl (by repeat constructor) ?_)
      rintro ⟨⟩ -
      have hpre : st.upto (w * 64 + p) ++ [w * 64 + Lib.ctz 64 rest] <+: st.list := by
        rw [← SetA.upto_step (by omega) hA.2.2.2 hA.2.2.1]
        refine SetA.upto_prefix (Nat.lt_of_not_le fun hge => ?_)
        rw [SetA.has_big hw hge] at hA; exact absurd hA.2.2.1 (by decide)
      refine wo_v (v_addI rfl rfl) ?_
      refine wo_w (w_callv rfl (hy (st.upto (w * 64 + p)) (w * 64 + Lib.ctz 64 rest) hpre) rfl (by repeat constructor) ?_)
      rintro y -
      refine wo_v (v_not rfl) ?_
      refine wo_nil ?_
      refine wk_if rfl (fun hyb => ?_) (fun hyb => ?_)
      · refine wk_ret Tryz.func118 rfl rfl res_nil fun W h => ?_
        subst hyb
        refine ⟨false, rfl, trivial, Ent.sat (ent_take ?_) h⟩
        refine ent_nf ⟨b, words, T1, T2, T3, fz⟩ hw ?_; exact ent_tail
      · subst hyb
        refine wk_skip ?_
        refine wk_inBlock ?_
        refine wk_region ?_
        refine wo_v (v_move rfl) ?_
        refine wo_v (v_move rfl) ?_
        refine wo_v (v_subUN (b := 1) rfl rfl) ?_
        refine wo_v (v_andUN rfl rfl) ?_
        refine wo_v (v_assign rfl) ?_
        refine wo_nil ?_
        refine (next2 (Lib.ctz 64 rest + 1, rest &&& (rest - 1)) (hL.next h0') (low_out h0' hL.1).2).use ⟨rfl, rfl, rfl, rfl, rfl, rfl, trivial⟩ ?_
        dsimp only [cond_true]
        rw [← Nat.add_assoc, SetA.upto_step (by omega) hA.2.2.2 hA.2.2.1]
        exact ent_tail
    · have h0' : rest = 0 := by omega
      subst h0'
      refine wk_exit rfl ?_
      refine wk_inBlock ?_
      refine wk_region ?_
      refine wo_v (v_addI rfl rfl) ?_
      refine wo_v (v_move rfl) ?_
      refine wo_nil ?_
      refine (next (w + 1) hlt (by omega)).use ⟨rfl, rfl, rfl, rfl, trivial⟩ ?_
      rw [hL.done]
      exact ent_tail
  · refine wk_exit rfl ?_
    refine wk_end Tryz.func118 rfl rfl res_nil fun W h => ?_
    refine ⟨true, rfl, trivial, Ent.sat ?_ h⟩
    dsimp only [cond_true]
    rw [← SetA.upto_all hw (m := w * 64) (by omega)]
    refine ent_take ?_
    refine ent_nf ⟨b, words, T1, T2, T3, fz⟩ hw ?_; exact ent_tail

theorem s_bits_Set_taken {s : Nat} : FnSpec Tryz.prog 97 #[.pointer (some ⟨s, 0, none⟩)] []
    (fun c : Nat => .func (.func 118) #[] #[.pointer (some ⟨c, 0, none⟩)]) (fun _ => True) (fun c R => blk c [.pointer (some ⟨s, 0, none⟩)] 70 :: R) := by
  refine fn_spec Tryz.func97 rfl rfl rfl rfl fun G R => ?_
  dsimp only [List.append_eq, List.cons_append, List.nil_append]
  refine wk_seq ?_
  refine wk_region ?_
  refine wo_w (w_box1 rfl rfl fun b1 => ?_)
  refine wo_v (v_assign rfl) ?_
  refine wo_nil ?_
  refine wk_seq ?_
  refine wk_region ?_
  refine wo_v (v_makeFunc rfl rfl) ?_
  refine wo_v (v_assign rfl) ?_
  refine wo_nil ?_
  refine wk_ret Tryz.func97 rfl rfl (res_tmp rfl res_nil) fun W h => ?_
  exact ⟨_, rfl, trivial, h⟩


def i64v (n : Nat) : Value := .int .i64 n
def allJ (LP : HP) (o : Nat) (seen : List Nat) : HP := nf (fun x : SV => x.n = seen.length) fun x => [LP, blk o [x.v] 23, osl x (seen.map i64v) 1 3]

theorem s_bits_Set_All {s : Nat} {st : SetA} : FnSpec Tryz.prog 75 #[.pointer (some ⟨s, 0, none⟩)] [SetH s st]
    (fun x : SV => x.v) (fun x => x.n = st.list.length) (fun x R => osl x (st.list.map i64v) 1 3 :: SetH s st :: R) := by
  refine fn_spec Tryz.func75 rfl rfl rfl rfl fun G R => ?_
  refine wk_nf fun ⟨b, words, T1, T2, T3, fz⟩ hw => ?_
  dsimp only [List.append_eq, List.cons_append, List.nil_append] at hw ⊢
  have hle := hw.le
  have hll := st.list_len
  refine wk_ent (M := SetH s st :: R) (by refine ent_nf ⟨b, words, T1, T2, T3, fz⟩ hw ?_; exact ent_tail) ?_
  refine wk_seq ?_
  refine wk_region ?_
  refine wo_v (v_assign rfl) ?_
  refine wo_nil ?_
  refine wk_seq ?_
  refine wk_region ?_
  refine wo_w (w_alloc1 tyZ_23 rfl fun b1 => ?_)
  refine wo_nil ?_
  refine wk_seq ?_
  refine wk_seq ?_
  refine wk_region ?_
  refine wo_v (v_move rfl) ?_
  refine wo_v (v_eqSome tyU_70 rfl rfl) ?_
  refine wo_nil ?_
  refine wk_condF rfl ?_
  refine wk_skip ?_
  refine wk_seq ?_
  refine wk_seq ?_
  refine wk_region ?_
  refine wo_v (v_move rfl) ?_
  refine wo_w (w_call s_bits_Set_taken rfl (by repeat constructor) ?_)
  rintro c -
  refine wo_nil ?_
  refine wk_block ?_
  refine Wk.use (E := [(3, .pointer (some ⟨b1, 0, none⟩)), (8, .func (.func 118) #[] #[.pointer (some ⟨c, 0, none⟩)])]) (M := SetH s st :: blk c [.pointer (some ⟨s, 0, none⟩)] 70 :: blk b1 [nilSV.v] 23 :: osl nilSV [] 1 3 :: defH [] :: R) ?_ ⟨rfl, rfl, trivial⟩ (by refine ent_take (ent_take (ent_take (ent_oslNil (ent_defNil ?_)))); exact ent_tail)
  refine wk_rangeFunc (rs := []) rfl rfl (by repeat constructor) fun l r => ?_
  generalize hLP : loopH l _ _ _ _ _ _ _ _ r = LP
  have hy : ∀ seen x, seen ++ [x] <+: st.list → FvSpec Tryz.prog (.func (.yield l) #[] #[]) #[.int .i64 (x : Nat)] [allJ LP b1 seen] (fun b : Bool => .bool b) (fun _ => True) (fun b R => (bif b then allJ LP b1 (seen ++ [x]) else noH) :: R) := by
    intro seen x hpre
    have hsl := hpre.length_le
    rw [List.length_append] at hsl
    refine FvSpec.nf fun y hy => ?_
    have hyn : y.n = seen.length := hy
    subst hLP
    refine fv_yield (args := [_]) rfl rfl fun G R => ?_
    dsimp only [List.append_eq, List.cons_append, List.nil_append]
    refine wk_region ?_
    refine wo_v (v_assign rfl) ?_
    refine wo_nil ?_
    refine wk_beginRound rfl (by repeat constructor) ?_
    refine wk_block ?_
    refine wk_region ?_
    refine wo_v (v_load tyS_23 rfl rfl) ?_
    refine wo_v (v_move rfl) ?_
    refine wo_w (w_buildSlice1 tyU_23 tyN_3 tyZ_3 rfl rfl rfl rfl fun b2 => ?_)
    refine wo_w (w_append tyU_23 tyU_23 (.inl ⟨_, rfl⟩) tyB_3 tyN_3 tyZ_3 rfl (by decide) rfl rfl (src_blk (vs := [i64v x]) rfl (Nat.le_refl _)) rfl (by repeat constructor) (by (try dsimp only); omega) (by (try dsimp only); omega) rfl fun b3 hb3 => ?_)
    refine wo_w0 (w_storeN1 tyN_23 rfl rfl rfl (by repeat constructor) (by repeat constructor) ?_)
    refine wo_nil ?_
    refine wk_inBlock ?_
    refine wk_roundEnd rfl (by repeat constructor) fun W h => ?_
    refine ⟨true, rfl, trivial, ?_⟩
    dsimp only [cond_true]
    unfold allJ
    rw [List.map_append]
    refine Ent.sat ?_ h
    refine ent_nf b3 (by rw [List.length_append, hb3, hyn]; rfl) ?_
    exact ent_tail
  refine callw_ent (M := allJ LP b1 [] :: _) (ent_nf nilSV rfl (Ent.refl _)) ?_
  refine callw_spec (FnSpec.fv (first := #[]) (args := #[_]) (cap := #[_]) (s_bits_Set_taken_1 (allJ LP b1) noH hy)) (by repeat constructor) fun y _ => ?_
  rcases y with _ | _
  · exact wk_no
  dsimp only [cond_true]
  refine wk_nf fun z hz => ?_
  subst hLP
  dsimp only [List.append_eq, List.cons_append, List.nil_append]
  refine wk_endRange (by repeat constructor) (by simp) ?_
  dsimp only [Option.map, Option.toList, List.nil_append]
  refine wk_inBlock ?_
  refine wk_seq ?_
  refine wk_region ?_
  refine wo_v (v_load tyS_23 rfl rfl) ?_
  refine wo_v (v_assign rfl) ?_
  refine wo_nil ?_
  refine wk_retD Tryz.func75 rfl rfl (by repeat constructor) (res_tmp rfl res_nil) fun W h => ?_
  exact ⟨z, rfl, hz, Ent.sat (by refine ent_take ?_; refine ent_take ?_; exact ent_tail) h⟩


def SetA.new (n : Nat) : SetA := ⟨n, List.replicate n false, 0⟩
theorem SetA.new_wf {n : Nat} (h1 : 1 ≤ n) (h2 : n ≤ 65536) : (SetA.new n).Wf (List.replicate ((n + 63) / 64) 0) where
  pos := h1
  tl := by simp [SetA.new]
  le := h2
  len := by simp [SetA.new]
  hand := h1
  word := fun w hw => by have := List.eq_of_mem_replicate hw; omega
  bits := fun i => by
    simp only [SetA.new, List.getElem?_replicate]
    split <;> split <;> simp

theorem s_bits_New {n : Nat} {T : TypeId} {fz : Nat × Nat} (h1 : 1 ≤ n) (h2 : n ≤ 65536) : FnSpec Tryz.prog 44 #[.int .i64 n] [pe (tabP T fz)]
    (fun s : Nat => .pointer (some ⟨s, 0, none⟩)) (fun _ => True) (fun s R => SetH s (SetA.new n) :: R) := by
  refine fn_spec Tryz.func44 rfl rfl rfl rfl fun G R => ?_
  dsimp only [List.append_eq, List.cons_append, List.nil_append]
  refine wk_seq ?_
  refine wk_region ?_
  refine wo_v (v_assign rfl) ?_
  refine wo_nil ?_
  refine wk_seq ?_
  refine wk_seq ?_
  refine wk_region ?_
  refine wo_v (v_move rfl) ?_
  refine wo_v (v_lss rfl rfl) ?_
  refine wo_v (v_move rfl) ?_
  refine wo_if (t := 5) rfl (fun hb => ?_) (fun hb => ?_)
  · exact absurd hb (by omega)
  · refine wo_gv (v_move rfl) ?_
    refine wo_gv (v_gtr rfl rfl) ?_
    refine wo_v (v_pickF rfl rfl) ?_
    refine wo_nil ?_
    refine wk_if rfl (fun hc => ?_) (fun hc => ?_)
    · exact absurd hc (by omega)
    · refine wk_skip ?_
      refine wk_seq ?_
      refine wk_region ?_
      refine wo_v (v_move rfl) ?_
      refine wo_v (v_move rfl) ?_
      refine wo_v (v_addI rfl rfl) ?_
      refine wo_v (v_subI rfl rfl) ?_
      refine wo_v (v_quoI rfl rfl) ?_
      refine wo_w (w_makeSliceN tyU_158 tyB_33 tyN_33 tyZ_33 rfl rfl rfl (show _ = (((n + 63) / 64 : Nat) : Int) by omega) (by omega) (by omega) fun b1 => ?_)
      refine wo_v (v_buildN tyBu_160 rfl (by repeat constructor)) ?_
      refine wo_w (w_boxA rfl fun b2 => ?_)
      refine wo_v (v_assign rfl) ?_
      refine wo_nil ?_
      refine wk_ret Tryz.func44 rfl rfl (res_tmp rfl res_nil) fun W h => ?_
      rw [show List.replicate ((n + 63) / 64) (Value.int .u64 0) = (List.replicate ((n + 63) / 64) 0).map u64v from by rw [List.map_replicate]; rfl] at h
      exact ⟨b2, rfl, trivial, Ent.sat (by refine ent_nf ⟨b1, List.replicate ((n + 63) / 64) 0, 160, 33, T, fz⟩ (SetA.new_wf h1 h2) ?_; exact ent_tail) h⟩

end Go.Proofs.YtealmijbkebipaaGreatDoor

namespace Go.Proofs.YtealmijbkebipaaGreatDoor
open Go

/-- A page that is in memory. -/
structure PageA where
  stamp : Int
  load : List UInt8
  dirty : Bool
abbrev MemA := Int → Option PageA
def mset (m : MemA) (k : Int) (p : PageA) : MemA := fun j => if j = k then some p else m j
def mout (m : MemA) (k : Int) : MemA := fun j => if j = k then none else m j

/-- A page is put in; another one may go. -/
inductive PutR (m : MemA) (k : Int) (p : PageA) : Option (Int × PageA) → MemA → Prop
  | stay : PutR m k p none (mset m k p)
  | goes {g : Int} {w : PageA} : m k = none → m g = some w → PutR m k p (some (g, w)) (mset (mout m g) k p)

structure StA where
  first : Nat
  pages : Nat
  room : Nat
  gen : Int
  taken : SetA
  fresh : Int → Bool
  dying : Int → Bool
  dead : Int → Bool
  mem : MemA
def sset (f : Int → Bool) (k : Int) : Int → Bool := fun j => if j = k then true else f j
def sout (f : Int → Bool) (k : Int) : Int → Bool := fun j => if j = k then false else f j
def snone : Int → Bool := fun _ => false

def StA.leaf (n : Int) (p : PageA) : LeafA := ⟨2, n, p.stamp, p.load⟩
abbrev StA.out (S : StA) (st : DevA) (n : Int) (p : PageA) : Nat × DevA := st.put (S.first + n) (StA.leaf n p)
def StA.gone1 (S : StA) (st : DevA) : Option (Int × PageA) → Nat × DevA
  | none => (0, st)
  | some (g, w) => if w.dirty = true then S.out st g w else (0, st)

/-- A page is kept. -/
inductive KeepR (S : StA) (st : DevA) (k : Int) (p : PageA) : Nat → StA → DevA → Prop
  | mk {res : Option (Int × PageA)} {mem' : MemA} : PutR S.mem k p res mem' → KeepR S st k p (S.gone1 st res).1 { S with mem := mem' } (S.gone1 st res).2

structure RefA where
  page : Int
  stamp : Int
def noRef : RefA := ⟨0, 0⟩

/-- A page is made. -/
inductive NewR (S : StA) (st : DevA) (load : List UInt8) : RefA → Nat → StA → DevA → Prop
  | long : S.room < load.length → NewR S st load noRef 9 S st
  | full : ¬ S.room < load.length → S.taken.pick = none → NewR S st load noRef 6 S st
  | made {n e : Nat} {S' : StA} {st' : DevA} : ¬ S.room < load.length → S.taken.pick = some n →
      KeepR { S with taken := S.taken.took, fresh := sset S.fresh n } st n ⟨S.gen, load, true⟩ e S' st' → NewR S st load (if e = 0 then ⟨n, S.gen⟩ else noRef) e S' st'

def StA.inE (S : StA) (k : Int) : Nat := if k < 0 ∨ (S.pages : Int) ≤ k then 2 else 0

/-- A page is read. -/
inductive ReadR (S : StA) (st : DevA) (r : RefA) : List UInt8 → Nat → StA → DevA → Prop
  | range : S.inE r.page ≠ 0 → ReadR S st r [] (S.inE r.page) S st
  | mem {p : PageA} : S.inE r.page = 0 → S.mem r.page = some p → ReadR S st r (if p.stamp = r.stamp then p.load else []) (if p.stamp = r.stamp then 0 else 5) S st
  | bad : S.inE r.page = 0 → S.mem r.page = none → (st.get (S.first + r.page) 2 r.page).2 ≠ 0 → ReadR S st r [] (st.get (S.first + r.page) 2 r.page).2 S st
  | out {x : LeafA} {e : Nat} {S' : StA} {st' : DevA} : S.inE r.page = 0 → S.mem r.page = none → st.get (S.first + r.page) 2 r.page = (some x, 0) → KeepR S st r.page ⟨x.stamp, x.load, false⟩ e S' st' → e ≠ 0 → ReadR S st r [] e S' st'
  | dev {x : LeafA} {S' : StA} {st' : DevA} : S.inE r.page = 0 → S.mem r.page = none → st.get (S.first + r.page) 2 r.page = (some x, 0) → KeepR S st r.page ⟨x.stamp, x.load, false⟩ 0 S' st' →
      ReadR S st r (if x.stamp = r.stamp then x.load else []) (if x.stamp = r.stamp then 0 else 5) S' st'

/-- A page goes. -/
def StA.goneS (S : StA) (n : Int) : StA :=
  if S.fresh n = true then { S with fresh := sout S.fresh n, taken := S.taken.put n.toNat false, mem := mout S.mem n } else { S with dying := sset S.dying n }

/-- A page is written. -/
inductive WriteR (S : StA) (st : DevA) (r : RefA) (load : List UInt8) : RefA → Nat → StA → DevA → Prop
  | long : S.room < load.length → WriteR S st r load noRef 9 S st
  | range : ¬ S.room < load.length → S.inE r.page ≠ 0 → WriteR S st r load noRef (S.inE r.page) S st
  | none : ¬ S.room < load.length → S.inE r.page = 0 → S.taken.has r.page.toNat = false → WriteR S st r load noRef 7 S st
  | fresh {e : Nat} {S' : StA} {st' : DevA} : ¬ S.room < load.length → S.inE r.page = 0 → S.taken.has r.page.toNat = true → S.fresh r.page = true → KeepR S st r.page ⟨S.gen, load, true⟩ e S' st' → WriteR S st r load ⟨r.page, S.gen⟩ e S' st'
  | new {q : RefA} {e : Nat} {S' : StA} {st' : DevA} : ¬ S.room < load.length → S.inE r.page = 0 → S.taken.has r.page.toNat = true → S.fresh r.page = false → NewR S st load q e S' st' → WriteR S st r load q e (if e = 0 then S'.goneS r.page else S') st'

/-- What a Free answers. -/
def StA.freeE (S : StA) (r : RefA) : Nat := if S.inE r.page ≠ 0 then S.inE r.page else if S.taken.has r.page.toNat = false ∨ S.dying r.page = true ∨ S.dead r.page = true then 7 else 0

/-- All dirty pages are written, in this order. -/
def StA.flushL (S : StA) (st : DevA) : List Int → Nat × StA × DevA
  | [] => (0, S, st)
  | k :: ks => match S.mem k with
    | some p => if p.dirty = true then
        if (S.out st k p).1 = 0 then StA.flushL { S with mem := mset S.mem k { p with dirty := false } } (S.out st k p).2 ks else ((S.out st k p).1, S, (S.out st k p).2)
      else StA.flushL S st ks
    | none => StA.flushL S st ks
/-- These are the pages in memory. -/
structure KeysR (m : MemA) (ks : List Int) (room : Nat) : Prop where
  nodup : ks.Nodup
  mem : ∀ k, k ∈ ks ↔ (m k).isSome = true
  len : ks.length ≤ room

/-- A commit. -/
def StA.commit (S : StA) : StA :=
  { S with taken := { S.taken with taken := S.taken.taken.mapIdx fun i b => b && !S.dead i }, mem := fun k => if S.dead k = true then none else S.mem k, dead := S.dying, dying := snone, fresh := snone, gen := S.gen + 1 }

end Go.Proofs.YtealmijbkebipaaGreatDoor
