/- The references 01 and 03. -/
import Derived.Test.YtealmijbkebipaaGreatDoorSwAR
namespace Go.Proofs.YtealmijbkebipaaGreatDoor
open Go
attribute [local irreducible] own pe nf

structure ApI (i a b out : Nat) : Prop where
  hi : i ≤ 32
  ha : a < 2 ^ (32 - i)
  hb : b < 2 ^ (32 - i)
  ho : out < 2 ^ i
theorem ApI.lt {i a b out : Nat} (h : ApI i a b out) (hab : 0 < a ∨ 0 < b) : i < 32 := by
  rcases Nat.lt_or_ge i 32 with h1 | h1
  · exact h1
  · have hi := h.hi
    obtain rfl : i = 32 := by omega
    have h2 := h.ha
    have h3 := h.hb
    simp at h2 h3
    omega
theorem ApI.next {i a b out : Nat} (h : ApI i a b out) (hi : i < 32) : ApI (i + 1) (a / 2) (b / 2) out ∧ ApI (i + 1) (a / 2) (b / 2) (out + 2 ^ i) := by
  have h1 := h.ha
  have h2 := h.hb
  have h3 := h.ho
  rw [show 32 - i = (32 - (i + 1)) + 1 from by omega, Nat.pow_succ] at h1 h2
  have h4 : 2 ^ (i + 1) = 2 ^ i * 2 := Nat.pow_succ ..
  exact ⟨⟨hi, by omega, by omega, by omega⟩, ⟨hi, by omega, by omega, by omega⟩⟩
theorem ApI.bound {i a b out : Nat} (h : ApI i a b out) : out < 4294967296 := by
  have : 2 ^ i ≤ 2 ^ 32 := Nat.pow_le_pow_right (by decide) h.hi
  have := h.ho
  omega

theorem s_sgraffitoref01_apart {a b : Nat} (ha : a < 4294967296) (hb : b < 4294967296) : FnSpec Tryz.prog 113 #[.int .i64 a, .int .i64 b] []
    (fun c : Nat => .int .i64 c) (fun c => c < 4294967296) (fun _ R => R) := by
  refine fn_spec Tryz.func113 rfl rfl rfl rfl fun G R => ?_
  dsimp only [List.append_eq, List.cons_append, List.nil_append]
  refine wk_seq ?_
  refine wk_region ?_
  refine wo_v (v_assign rfl) ?_
  refine wo_nil ?_
  refine wk_seq ?_
  refine wk_region ?_
  refine wo_v (v_assign rfl) ?_
  refine wo_v (v_assign rfl) ?_
  refine wo_nil ?_
  refine wk_seq ?_
  refine wk_block ?_
  refine wk_loop (fun x : Nat × Nat × Nat × Nat => ApI x.1 x.2.1 x.2.2.1 x.2.2.2) (fun x => [(0, .int .i64 x.2.1), (1, .int .i64 x.2.2.1), (5, .int .i64 x.2.2.2), (6, .int .i64 (2 ^ x.1 : Nat))]) (fun _ => R) (fun x => 32 - x.1) (0, a, b, 0) ⟨Nat.zero_le _, ha, hb, Nat.zero_lt_one⟩ ⟨rfl, rfl, rfl, rfl, trivial⟩ (Ent.refl _) fun x0 hI next => ?_
  obtain ⟨i, a, b, out⟩ := x0
  dsimp only at hI next ⊢
  have hob := hI.bound
  have hp32 : 2 ^ i ≤ 2 ^ 32 := Nat.pow_le_pow_right (by decide) hI.hi
  have h32 : 2 ^ (32 - i) ≤ 2 ^ 32 := Nat.pow_le_pow_right (by decide) (by omega)
  have hab : a < 4294967296 := Nat.lt_of_lt_of_le hI.ha h32
  have hbb : b < 4294967296 := Nat.lt_of_lt_of_le hI.hb h32
  clear h32
  have hnx := hI.next (i := i)
  have hlt := hI.lt
  generalize hq : 2 ^ i = q at hp32 hnx ⊢
  refine wk_seq ?_
  refine wk_seq ?_
  refine wk_region ?_
  refine wo_v (v_move rfl) ?_
  refine wo_v (v_gtr rfl rfl) ?_
  refine wo_v (v_move rfl) ?_
  refine wo_if (t := 9) rfl (fun h1 => ?_) (fun h1 => ?_)
  · refine wo_gF ?_
    refine wo_gF ?_
    refine wo_v (v_pickT rfl rfl) ?_
    refine wo_nil ?_
    refine wk_condT rfl ?_
    have hi := hlt (.inl (by omega))
    refine wk_skip ?_
    refine wk_block ?_
    refine wk_seq ?_
    refine wk_seq ?_
    refine wk_region ?_
    refine wo_v (v_move rfl) ?_
    refine wo_v (v_remN (b := 2) rfl rfl) ?_
    refine wo_v (v_move rfl) ?_
    refine wo_v (v_remN (b := 2) rfl rfl) ?_
    refine wo_v (v_neq rfl rfl) ?_
    refine wo_nil ?_
    refine wk_if rfl (fun h2 => ?_) (fun h2 => ?_)
    · refine wk_region ?_
      refine wo_v (v_move rfl) ?_
      refine wo_v (v_move rfl) ?_
      refine wo_v (OpV.int (v_addI rfl rfl) (show _ = ((out + q : Nat) : Int) by omega)) ?_
      refine wo_v (v_assign rfl) ?_
      refine wo_nil ?_
      refine wk_region ?_
      refine wo_v (v_move rfl) ?_
      refine wo_v (v_quoN (b := 2) rfl rfl) ?_
      refine wo_v (v_move rfl) ?_
      refine wo_v (v_quoN (b := 2) rfl rfl) ?_
      refine wo_v (v_move rfl) ?_
      refine wo_v (OpV.int (v_mulI rfl rfl) (show _ = ((q * 2 : Nat) : Int) by omega)) ?_
      refine wo_v (v_assign rfl) ?_
      refine wo_v (v_assign rfl) ?_
      refine wo_v (v_assign rfl) ?_
      refine wo_nil ?_
      refine wk_inBlock ?_
      exact (next (i + 1, a / 2, b / 2, out + q) (hnx hi).2 (by dsimp only; omega)).use ⟨rfl, rfl, rfl, by dsimp only; rw [Nat.pow_succ, hq]; rfl, trivial⟩ (Ent.refl _)
    · refine wk_skip ?_
      refine wk_region ?_
      refine wo_v (v_move rfl) ?_
      refine wo_v (v_quoN (b := 2) rfl rfl) ?_
      refine wo_v (v_move rfl) ?_
      refine wo_v (v_quoN (b := 2) rfl rfl) ?_
      refine wo_v (v_move rfl) ?_
      refine wo_v (OpV.int (v_mulI rfl rfl) (show _ = ((q * 2 : Nat) : Int) by omega)) ?_
      refine wo_v (v_assign rfl) ?_
      refine wo_v (v_assign rfl) ?_
      refine wo_v (v_assign rfl) ?_
      refine wo_nil ?_
      refine wk_inBlock ?_
      exact (next (i + 1, a / 2, b / 2, out) (hnx hi).1 (by dsimp only; omega)).use ⟨rfl, rfl, rfl, by dsimp only; rw [Nat.pow_succ, hq]; rfl, trivial⟩ (Ent.refl _)
  · refine wo_gv (v_move rfl) ?_
    refine wo_gv (v_gtr rfl rfl) ?_
    refine wo_v (v_pickF rfl rfl) ?_
    refine wo_nil ?_
    refine wk_if rfl (fun h3 => ?_) (fun h3 => ?_)
    · have hi := hlt (.inr (by omega))
      refine wk_skip ?_
      refine wk_block ?_
      refine wk_seq ?_
      refine wk_seq ?_
      refine wk_region ?_
      refine wo_v (v_move rfl) ?_
      refine wo_v (v_remN (b := 2) rfl rfl) ?_
      refine wo_v (v_move rfl) ?_
      refine wo_v (v_remN (b := 2) rfl rfl) ?_
      refine wo_v (v_neq rfl rfl) ?_
      refine wo_nil ?_
      refine wk_if rfl (fun h2 => ?_) (fun h2 => ?_)
      · refine wk_region ?_
        refine wo_v (v_move rfl) ?_
        refine wo_v (v_move rfl) ?_
        refine wo_v (OpV.int (v_addI rfl rfl) (show _ = ((out + q : Nat) : Int) by omega)) ?_
        refine wo_v (v_assign rfl) ?_
        refine wo_nil ?_
        refine wk_region ?_
        refine wo_v (v_move rfl) ?_
        refine wo_v (v_quoN (b := 2) rfl rfl) ?_
        refine wo_v (v_move rfl) ?_
        refine wo_v (v_quoN (b := 2) rfl rfl) ?_
        refine wo_v (v_move rfl) ?_
        refine wo_v (OpV.int (v_mulI rfl rfl) (show _ = ((q * 2 : Nat) : Int) by omega)) ?_
        refine wo_v (v_assign rfl) ?_
        refine wo_v (v_assign rfl) ?_
        refine wo_v (v_assign rfl) ?_
        refine wo_nil ?_
        refine wk_inBlock ?_
        exact (next (i + 1, a / 2, b / 2, out + q) (hnx hi).2 (by dsimp only; omega)).use ⟨rfl, rfl, rfl, by dsimp only; rw [Nat.pow_succ, hq]; rfl, trivial⟩ (Ent.refl _)
      · refine wk_skip ?_
        refine wk_region ?_
        refine wo_v (v_move rfl) ?_
        refine wo_v (v_quoN (b := 2) rfl rfl) ?_
        refine wo_v (v_move rfl) ?_
        refine wo_v (v_quoN (b := 2) rfl rfl) ?_
        refine wo_v (v_move rfl) ?_
        refine wo_v (OpV.int (v_mulI rfl rfl) (show _ = ((q * 2 : Nat) : Int) by omega)) ?_
        refine wo_v (v_assign rfl) ?_
        refine wo_v (v_assign rfl) ?_
        refine wo_v (v_assign rfl) ?_
        refine wo_nil ?_
        refine wk_inBlock ?_
        exact (next (i + 1, a / 2, b / 2, out) (hnx hi).1 (by dsimp only; omega)).use ⟨rfl, rfl, rfl, by dsimp only; rw [Nat.pow_succ, hq]; rfl, trivial⟩ (Ent.refl _)
    · refine wk_exit rfl ?_
      refine wk_seq ?_
      refine wk_region ?_
      refine wo_v (v_move rfl) ?_
      refine wo_v (v_assign rfl) ?_
      refine wo_nil ?_
      refine wk_ret Tryz.func113 rfl rfl (res_tmp rfl res_nil) fun W h => ?_
      exact ⟨out, rfl, hob, h⟩

theorem s_sgraffitoref01_Place {n : Nat} (hn : n < 4294967296) : FnSpec Tryz.prog 112 #[.int .i64 n] []
    (fun c : Nat => .int .i64 c) (fun c => c < 4294967296) (fun _ R => R) := by
  refine fn_spec Tryz.func112 rfl rfl rfl rfl fun G R => ?_
  dsimp only [List.append_eq, List.cons_append, List.nil_append]
  refine wk_seq ?_
  refine wk_region ?_
  refine wo_v (v_assign rfl) ?_
  refine wo_nil ?_
  refine wk_seq ?_
  refine wk_seq ?_
  refine wk_region ?_
  refine wo_v (v_assign rfl) ?_
  refine wo_nil ?_
  refine wk_block ?_
  refine wk_loop (fun x : Nat × Nat => x.1 ≤ 8 ∧ x.2 < 4294967296) (fun x => [(0, .int .i64 x.2), (3, .int .i64 x.1)]) (fun _ => R) (fun x => 8 - x.1) (0, n) ⟨Nat.zero_le _, hn⟩ ⟨rfl, rfl, trivial⟩ (Ent.refl _) fun x0 hI next => ?_
  obtain ⟨i, m⟩ := x0
  obtain ⟨hi, hm⟩ := hI
  dsimp only at hi hm next ⊢
  refine wk_seq ?_
  refine wk_seq ?_
  refine wk_region ?_
  refine wo_v (v_move rfl) ?_
  refine wo_v (v_lss rfl rfl) ?_
  refine wo_nil ?_
  refine wk_if rfl (fun hb => ?_) (fun hb => ?_)
  · refine wk_skip ?_
    refine wk_seq ?_
    refine wk_block ?_
    refine wk_seq ?_
    refine wk_region ?_
    refine wo_v (v_move rfl) ?_
    refine wo_v (v_remN (b := 2) rfl rfl) ?_
    refine wo_v (v_assign rfl) ?_
    refine wo_nil ?_
    refine wk_seq ?_
    refine wk_region ?_
    refine wo_v (v_move rfl) ?_
    refine wo_v (v_quoN (b := 2) rfl rfl) ?_
    refine wo_v (v_assign rfl) ?_
    refine wo_nil ?_
    refine wk_seq ?_
    refine wk_region ?_
    refine wo_v (v_move rfl) ?_
    refine wo_v (v_eql rfl rfl) ?_
    refine wo_nil ?_
    refine wk_if rfl (fun h2 => ?_) (fun h2 => ?_)
    · refine wk_region ?_
      refine wo_v (v_move rfl) ?_
      refine wo_w (w_call (s_sgraffitoref01_apart (a := m / 2) (b := 2197175160) (by omega) (by decide)) rfl (by repeat constructor) ?_)
      rintro c hc
      refine wo_v (v_assign rfl) ?_
      refine wo_nil ?_
      refine wk_inBlock ?_
      refine wk_region ?_
      refine wo_v (v_move rfl) ?_
      refine wo_v (v_addI rfl rfl) ?_
      refine wo_v (v_assign rfl) ?_
      refine wo_nil ?_
      exact (next (i + 1, c) ⟨by show i + 1 ≤ 8; omega, hc⟩ (by dsimp only; omega)).use ⟨rfl, rfl, trivial⟩ (Ent.refl _)
    · refine wk_skip ?_
      refine wk_inBlock ?_
      refine wk_region ?_
      refine wo_v (v_move rfl) ?_
      refine wo_v (v_addI rfl rfl) ?_
      refine wo_v (v_assign rfl) ?_
      refine wo_nil ?_
      exact (next (i + 1, m / 2) ⟨by show i + 1 ≤ 8; omega, by show m / 2 < _; omega⟩ (by dsimp only; omega)).use ⟨rfl, rfl, trivial⟩ (Ent.refl _)
  · refine wk_exit rfl ?_
    refine wk_seq ?_
    refine wk_region ?_
    refine wo_v (v_move rfl) ?_
    refine wo_v (v_assign rfl) ?_
    refine wo_nil ?_
    refine wk_ret Tryz.func112 rfl rfl (res_tmp rfl res_nil) fun W h => ?_
    exact ⟨m, rfl, hm, h⟩

theorem u8s_at {bs : List UInt8} {i : Nat} {v : UInt8} (h : bs[i]? = some v) (sp : List Value) : (u8s bs ++ sp)[0 + i * 1]? = some (.int .u8 v.toNat) := by
  have hlt := (List.getElem?_eq_some_iff.1 h).1
  rw [Nat.zero_add, Nat.mul_one, List.getElem?_append_left (by simpa using hlt)]
  unfold u8s; rw [List.getElem?_map, h]; rfl

theorem s_sgraffitoref01_Sum {x : SV} {bs : List UInt8} {T : TypeId} : FnSpec Tryz.prog 91 #[x.v] [osl x (u8s bs) 1 T]
    (fun c : Nat => .int .i64 c) (fun c => c < 4294967296) (fun _ R => osl x (u8s bs) 1 T :: R) := by
  refine fn_spec Tryz.func91 rfl rfl rfl rfl fun G R => ?_
  dsimp only [List.append_eq, List.cons_append, List.nil_append]
  refine wk_fact (fun _ _ s => osl_fact s) fun hx => ?_
  have hxn : x.n = bs.length := by have := hx.1; simpa using this.symm
  refine wk_seq ?_
  refine wk_region ?_
  refine wo_v (v_assign rfl) ?_
  refine wo_nil ?_
  refine wk_seq ?_
  refine wk_region ?_
  refine wo_v (v_assign rfl) ?_
  refine wo_nil ?_
  refine wk_seq ?_
  refine wk_seq ?_
  refine wk_region ?_
  refine wo_v (v_assign rfl) ?_
  refine wo_nil ?_
  refine wk_block ?_
  refine wk_loop (fun a : Nat × Nat => a.1 ≤ bs.length ∧ a.2 < 4294967296) (fun a => [(0, x.v), (3, .int .i64 a.2), (4, .int .i64 a.1)]) (fun _ => osl x (u8s bs) 1 T :: R) (fun a => bs.length - a.1) (0, 4294967295) ⟨Nat.zero_le _, by decide⟩ ⟨rfl, rfl, rfl, trivial⟩ (Ent.refl _) fun a0 hI next => ?_
  obtain ⟨i, m⟩ := a0
  obtain ⟨hi, hm⟩ := hI
  dsimp only at hi hm next ⊢
  refine wk_seq ?_
  refine wk_seq ?_
  refine wk_region ?_
  refine wo_v (v_move rfl) ?_
  refine wo_v (v_move rfl) ?_
  refine wo_v (v_len tyU_45 rfl) ?_
  refine wo_v (v_lss rfl rfl) ?_
  refine wo_nil ?_
  refine wk_if rfl (fun hb => ?_) (fun hb => ?_)
  · have hil : i < bs.length := by omega
    have hg : bs[i]? = some bs[i] := List.getElem?_eq_getElem hil
    generalize bs[i] = v at hg
    have hv := v.toNat_lt
    refine wk_oslOpen (by omega) fun b sp ha q1 q2 q3 q4 => ?_
    refine wk_skip ?_
    refine wk_seq ?_
    refine wk_block ?_
    refine wk_region ?_
    refine wo_v (v_move rfl) ?_
    refine wo_v (v_move rfl) ?_
    refine wo_v (v_move rfl) ?_
    refine wo_v (v_indexAddrS tyU_45 tyN_5 rfl rfl ha (by omega)) ?_
    refine wo_v (v_load tyS_5 rfl (u8s_at hg sp)) ?_
    refine wo_v (v_convI tyU_3 tyU_5 rfl) ?_
    refine wo_ent (ent_oslClose ha q1 q2 q3 q4) ?_
    refine wo_w (w_call (s_sgraffitoref01_apart (a := m) (b := v.toNat) hm (by omega)) rfl (by repeat constructor) ?_)
    rintro c hc
    refine wo_w (w_call (s_sgraffitoref01_Place (n := c) hc) rfl (by repeat constructor) ?_)
    rintro c2 hc2
    refine wo_v (v_assign rfl) ?_
    refine wo_nil ?_
    refine wk_inBlock ?_
    refine wk_region ?_
    refine wo_v (v_move rfl) ?_
    refine wo_v (v_addI rfl rfl) ?_
    refine wo_v (v_assign rfl) ?_
    refine wo_nil ?_
    exact (next (i + 1, c2) ⟨by show i + 1 ≤ _; omega, hc2⟩ (by dsimp only; omega)).use ⟨rfl, rfl, rfl, trivial⟩ (Ent.refl _)
  · refine wk_exit rfl ?_
    refine wk_seq ?_
    refine wk_region ?_
    refine wo_v (v_move rfl) ?_
    refine wo_v (OpV.int (v_subI rfl rfl) (show _ = ((4294967295 - m : Nat) : Int) by omega)) ?_
    refine wo_v (v_assign rfl) ?_
    refine wo_nil ?_
    refine wk_ret Tryz.func91 rfl rfl (res_tmp rfl res_nil) fun W h => ?_
    exact ⟨4294967295 - m, rfl, by omega, h⟩

theorem s_sgraffitoref03_Of {x : SV} {bs : List UInt8} (hl : bs.length ≤ 8) : FnSpec Tryz.prog 69 #[x.v] [pe (bsl x bs)]
    (fun _ : Unit => .int .u64 (valB bs : Nat)) (fun _ => True) (fun _ R => R) := by
  refine fn_spec Tryz.func69 rfl rfl rfl rfl fun G R => ?_
  dsimp only [List.append_eq, List.cons_append, List.nil_append]
  refine wk_ro (x := x) (cells := u8s bs) (size := 1) (by repeat constructor) fun hx => ?_
  have hxn : x.n = bs.length := by have := hx.1; simpa using this.symm
  refine wk_seq ?_
  refine wk_region ?_
  refine wo_v (v_assign rfl) ?_
  refine wo_nil ?_
  refine wk_seq ?_
  refine wk_region ?_
  refine wo_v (v_assign rfl) ?_
  refine wo_nil ?_
  refine wk_seq ?_
  refine wk_seq ?_
  refine wk_region ?_
  refine wo_v (v_move rfl) ?_
  refine wo_v (v_len tyU_45 rfl) ?_
  refine wo_v (v_subI rfl rfl) ?_
  refine wo_v (v_assign rfl) ?_
  refine wo_nil ?_
  refine wk_block ?_
  refine wk_loop (fun i : Nat => i ≤ bs.length) (fun i => [(0, x.v), (3, .int .u64 (valB (bs.drop i) : Nat)), (4, .int .i64 ((i : Int) - 1))]) (fun _ => pe (bsl x bs) :: R) (fun i => i) bs.length (Nat.le_refl _) ⟨rfl, by rw [List.drop_length]; rfl, by rw [← hxn]; rfl, trivial⟩ (Ent.refl _) fun i hi next => ?_
  refine wk_seq ?_
  refine wk_seq ?_
  refine wk_region ?_
  refine wo_v (v_move rfl) ?_
  refine wo_v (v_geq rfl rfl) ?_
  refine wo_nil ?_
  refine wk_if rfl (fun hb => ?_) (fun hb => ?_)
  · obtain ⟨j, rfl⟩ : ∃ j, i = j + 1 := ⟨i - 1, by omega⟩
    rw [show (((j + 1 : Nat) : Int) - 1) = (j : Int) from by omega]
    have hjl : j < bs.length := by omega
    have hg : bs[j]? = some bs[j] := List.getElem?_eq_getElem hjl
    have hgu : (u8s bs)[j]? = some (.int .u8 bs[j].toNat) := by unfold u8s; rw [List.getElem?_map, hg]; rfl
    have hdr : valB (bs.drop j) = bs[j].toNat + 256 * valB (bs.drop (j + 1)) := by rw [List.drop_eq_getElem_cons hjl]; rfl
    have hvl : valB (bs.drop j) < 18446744073709551616 := by
      have h1 := valB_lt (bs.drop j)
      have h2 : 256 ^ (bs.drop j).length ≤ 256 ^ 8 := Nat.pow_le_pow_right (by decide) (by rw [List.length_drop]; omega)
      omega
    generalize bs[j] = v at hgu hdr
    have hv := v.toNat_lt
    refine wk_block' (x := x) (cells := u8s bs) (size := 1) (by repeat constructor) (by omega) fun b5 o5 vs5 T5 fz5 ha5 hv5 hle5 => ?_
    refine wk_skip ?_
    refine wk_seq ?_
    refine wk_block ?_
    refine wk_region ?_
    refine wo_v (v_move rfl) ?_
    refine wo_v (v_mulUN (a := 256) rfl rfl) ?_
    refine wo_v (v_move rfl) ?_
    refine wo_v (v_move rfl) ?_
    refine wo_v (v_indexAddrS tyU_45 tyN_5 rfl rfl ha5 (by omega)) ?_
    refine wo_v (v_load tyS_5 rfl (ro_get hv5 hgu)) ?_
    refine wo_v (v_convN tyU_33 tyU_5 rfl (wrapN_u64 (by omega))) ?_
    refine wo_v (v_addUN rfl rfl) ?_
    refine wo_v (v_assign rfl) ?_
    refine wo_nil ?_
    refine wk_inBlock ?_
    refine wk_region ?_
    refine wo_v (v_move rfl) ?_
    refine wo_v (v_subI rfl rfl) ?_
    refine wo_v (v_assign rfl) ?_
    refine wo_nil ?_
    have hval : valB (bs.drop j) = (256 * valB (bs.drop (j + 1)) % 18446744073709551616 + v.toNat) % 18446744073709551616 := by omega
    refine (next j (by omega) (by omega)).use ⟨rfl, by rw [hval]; rfl, rfl, trivial⟩ ?_
    exact ent_tail
  · refine wk_exit rfl ?_
    refine wk_seq ?_
    refine wk_region ?_
    refine wo_v (v_move rfl) ?_
    refine wo_v (v_assign rfl) ?_
    refine wo_nil ?_
    refine wk_ret Tryz.func69 rfl rfl (res_tmp rfl res_nil) fun W h => ?_
    obtain rfl : i = 0 := by omega
    rw [List.drop_zero]
    exact ⟨(), rfl, trivial, Ent.sat ent_tail h⟩

theorem u8v_ofNat (a : Nat) : Value.int .u8 ((a % 256 : Nat) : Int) = .int .u8 ((UInt8.ofNat (a % 256)).toNat : Int) := by rw [u8_ofNat]
theorem s_sgraffitoref03_Number {n k : Nat} (hn : n < 18446744073709551616) (hk : k = 1 ∨ k = 2 ∨ k = 4 ∨ k = 8) : FnSpec Tryz.prog 90 #[.int .u64 n, .int .i64 k] []
    (fun x : SV => x.v) (fun x => x.n = k) (fun x R => osl x (u8s (numB n k)) 1 5 :: R) := by
  refine fn_spec Tryz.func90 rfl rfl rfl rfl fun G R => ?_
  dsimp only [List.append_eq, List.cons_append, List.nil_append]
  refine wk_ent (M := osl nilSV (u8s (numB n 0)) 1 5 :: R) (ent_oslNil (Ent.refl _)) ?_
  rcases hk with rfl | rfl | rfl | rfl
  · skip
    refine wk_seq ?_
    refine wk_region ?_
    refine wo_v (v_assign rfl) ?_
    refine wo_nil ?_
    refine wk_seq ?_
    refine wk_region ?_
    refine wo_v (v_assign rfl) ?_
    refine wo_nil ?_
    refine wk_seq ?_
    refine wk_seq ?_
    refine wk_region ?_
    refine wo_v (v_move rfl) ?_
    refine wo_v (v_neq rfl rfl) ?_
    refine wo_v (v_move rfl) ?_
    refine wo_gF ?_
    refine wo_gF ?_
    refine wo_v (v_pickF rfl rfl) ?_
    refine wo_v (v_move rfl) ?_
    refine wo_gF ?_
    refine wo_gF ?_
    refine wo_v (v_pickF rfl rfl) ?_
    refine wo_v (v_move rfl) ?_
    refine wo_gF ?_
    refine wo_gF ?_
    refine wo_v (v_pickF rfl rfl) ?_
    refine wo_nil ?_
    refine wk_condF rfl ?_
    refine wk_skip ?_
    refine wk_seq ?_
    refine wk_seq ?_
    refine wk_region ?_
    refine wo_v (v_assign rfl) ?_
    refine wo_nil ?_
    refine wk_block ?_
    refine wk_loop (fun a : Nat × SV => a.1 ≤ 1 ∧ a.2.n = a.1) (fun a => [(0, .int .u64 (n / 256 ^ a.1 : Nat)), (1, .int .i64 (1 : Nat)), (5, a.2.v), (6, .int .i64 a.1)]) (fun a => osl a.2 (u8s (numB n a.1)) 1 5 :: R) (fun a => 1 - a.1) (0, nilSV) ⟨Nat.zero_le _, rfl⟩ ⟨by dsimp only; rw [Nat.pow_zero, Nat.div_one]; rfl, rfl, rfl, rfl, trivial⟩ (Ent.refl _) fun a0 hI next => ?_
    obtain ⟨i, x⟩ := a0
    obtain ⟨hi, hxn⟩ := hI
    dsimp only at hi hxn next ⊢
    have hdi : n / 256 ^ i < 18446744073709551616 := Nat.lt_of_le_of_lt (Nat.div_le_self _ _) hn
    refine wk_seq ?_
    refine wk_seq ?_
    refine wk_region ?_
    refine wo_v (v_move rfl) ?_
    refine wo_v (v_move rfl) ?_
    refine wo_v (v_lss rfl rfl) ?_
    refine wo_nil ?_
    refine wk_if rfl (fun hb => ?_) (fun hb => ?_)
    · refine wk_skip ?_
      refine wk_seq ?_
      refine wk_block ?_
      refine wk_seq ?_
      refine wk_region ?_
      refine wo_v (v_move rfl) ?_
      refine wo_v (v_move rfl) ?_
      refine wo_v (OpV.int (v_remU rfl rfl (Int.natCast_nonneg _) (by decide)) (show _ = ((n / 256 ^ i % 256 : Nat) : Int) from (Int.natCast_emod _ _).symm)) ?_
      refine wo_v (v_convN tyU_5 tyU_33 rfl wrapN_u8) ?_
      refine wo_w (w_buildSlice1 tyU_45 tyN_5 tyZ_5 rfl rfl rfl rfl fun b1 => ?_)
      refine wo_w (w_append (x := x) tyU_45 tyU_45 (.inl ⟨_, rfl⟩) tyB_5 tyN_5 tyZ_5 rfl (by decide) rfl rfl ((src_blk (vs := [.int .u8 ((n / 256 ^ i % 256 % 256 : Nat) : Int)]) (new := u8s [UInt8.ofNat (n / 256 ^ i % 256)]) (by show [_] = [_]; rw [Nat.mod_mod]; exact congrArg (fun x => [x]) (u8v_ofNat _)) (Nat.le_refl _))) rfl (by repeat constructor) (by (try dsimp only); omega) (by (try dsimp only); omega) rfl fun b2 hb2 => ?_)
      refine wo_v (v_assign rfl) ?_
      refine wo_nil ?_
      refine wk_region ?_
      refine wo_v (v_move rfl) ?_
      refine wo_v (OpV.int (v_quoU rfl rfl (Int.natCast_nonneg _) (by decide) (Int.ofNat_lt.2 hdi)) (show _ = ((n / 256 ^ i / 256 : Nat) : Int) from (Int.natCast_ediv _ _).symm)) ?_
      refine wo_v (v_assign rfl) ?_
      refine wo_nil ?_
      refine wk_inBlock ?_
      refine wk_region ?_
      refine wo_v (v_move rfl) ?_
      refine wo_v (v_addI rfl rfl) ?_
      refine wo_v (v_assign rfl) ?_
      refine wo_nil ?_
      have h8 : n / 256 ^ i / 256 = n / 256 ^ (i + 1) := by rw [Nat.div_div_eq_div_mul, ← Nat.pow_succ]
      refine (next (i + 1, b2) ⟨by dsimp only; omega, by dsimp only; rw [hb2, hxn]⟩ (by dsimp only; omega)).use ⟨by dsimp only; rw [← h8]; rfl, rfl, rfl, rfl, trivial⟩ ?_
      dsimp only
      rw [numB_snoc, u8s_append]
      exact (by refine ent_take ?_; exact ent_tail)
    · refine wk_exit rfl ?_
      refine wk_seq ?_
      refine wk_region ?_
      refine wo_v (v_move rfl) ?_
      refine wo_v (v_assign rfl) ?_
      refine wo_nil ?_
      refine wk_ret Tryz.func90 rfl rfl (res_tmp rfl res_nil) fun W h => ?_
      have hik : i = 1 := by omega
      subst hik
      exact ⟨x, rfl, hxn, h⟩
  · skip
    refine wk_seq ?_
    refine wk_region ?_
    refine wo_v (v_assign rfl) ?_
    refine wo_nil ?_
    refine wk_seq ?_
    refine wk_region ?_
    refine wo_v (v_assign rfl) ?_
    refine wo_nil ?_
    refine wk_seq ?_
    refine wk_seq ?_
    refine wk_region ?_
    refine wo_v (v_move rfl) ?_
    refine wo_v (v_neq rfl rfl) ?_
    refine wo_v (v_move rfl) ?_
    refine wo_gv (v_move rfl) ?_
    refine wo_gv (v_neq rfl rfl) ?_
    refine wo_v (v_pickT rfl rfl) ?_
    refine wo_v (v_move rfl) ?_
    refine wo_gF ?_
    refine wo_gF ?_
    refine wo_v (v_pickF rfl rfl) ?_
    refine wo_v (v_move rfl) ?_
    refine wo_gF ?_
    refine wo_gF ?_
    refine wo_v (v_pickF rfl rfl) ?_
    refine wo_nil ?_
    refine wk_condF rfl ?_
    refine wk_skip ?_
    refine wk_seq ?_
    refine wk_seq ?_
    refine wk_region ?_
    refine wo_v (v_assign rfl) ?_
    refine wo_nil ?_
    refine wk_block ?_
    refine wk_loop (fun a : Nat × SV => a.1 ≤ 2 ∧ a.2.n = a.1) (fun a => [(0, .int .u64 (n / 256 ^ a.1 : Nat)), (1, .int .i64 (2 : Nat)), (5, a.2.v), (6, .int .i64 a.1)]) (fun a => osl a.2 (u8s (numB n a.1)) 1 5 :: R) (fun a => 2 - a.1) (0, nilSV) ⟨Nat.zero_le _, rfl⟩ ⟨by dsimp only; rw [Nat.pow_zero, Nat.div_one]; rfl, rfl, rfl, rfl, trivial⟩ (Ent.refl _) fun a0 hI next => ?_
    obtain ⟨i, x⟩ := a0
    obtain ⟨hi, hxn⟩ := hI
    dsimp only at hi hxn next ⊢
    have hdi : n / 256 ^ i < 18446744073709551616 := Nat.lt_of_le_of_lt (Nat.div_le_self _ _) hn
    refine wk_seq ?_
    refine wk_seq ?_
    refine wk_region ?_
    refine wo_v (v_move rfl) ?_
    refine wo_v (v_move rfl) ?_
    refine wo_v (v_lss rfl rfl) ?_
    refine wo_nil ?_
    refine wk_if rfl (fun hb => ?_) (fun hb => ?_)
    · refine wk_skip ?_
      refine wk_seq ?_
      refine wk_block ?_
      refine wk_seq ?_
      refine wk_region ?_
      refine wo_v (v_move rfl) ?_
      refine wo_v (v_move rfl) ?_
      refine wo_v (OpV.int (v_remU rfl rfl (Int.natCast_nonneg _) (by decide)) (show _ = ((n / 256 ^ i % 256 : Nat) : Int) from (Int.natCast_emod _ _).symm)) ?_
      refine wo_v (v_convN tyU_5 tyU_33 rfl wrapN_u8) ?_
      refine wo_w (w_buildSlice1 tyU_45 tyN_5 tyZ_5 rfl rfl rfl rfl fun b1 => ?_)
      refine wo_w (w_append (x := x) tyU_45 tyU_45 (.inl ⟨_, rfl⟩) tyB_5 tyN_5 tyZ_5 rfl (by decide) rfl rfl ((src_blk (vs := [.int .u8 ((n / 256 ^ i % 256 % 256 : Nat) : Int)]) (new := u8s [UInt8.ofNat (n / 256 ^ i % 256)]) (by show [_] = [_]; rw [Nat.mod_mod]; exact congrArg (fun x => [x]) (u8v_ofNat _)) (Nat.le_refl _))) rfl (by repeat constructor) (by (try dsimp only); omega) (by (try dsimp only); omega) rfl fun b2 hb2 => ?_)
      refine wo_v (v_assign rfl) ?_
      refine wo_nil ?_
      refine wk_region ?_
      refine wo_v (v_move rfl) ?_
      refine wo_v (OpV.int (v_quoU rfl rfl (Int.natCast_nonneg _) (by decide) (Int.ofNat_lt.2 hdi)) (show _ = ((n / 256 ^ i / 256 : Nat) : Int) from (Int.natCast_ediv _ _).symm)) ?_
      refine wo_v (v_assign rfl) ?_
      refine wo_nil ?_
      refine wk_inBlock ?_
      refine wk_region ?_
      refine wo_v (v_move rfl) ?_
      refine wo_v (v_addI rfl rfl) ?_
      refine wo_v (v_assign rfl) ?_
      refine wo_nil ?_
      have h8 : n / 256 ^ i / 256 = n / 256 ^ (i + 1) := by rw [Nat.div_div_eq_div_mul, ← Nat.pow_succ]
      refine (next (i + 1, b2) ⟨by dsimp only; omega, by dsimp only; rw [hb2, hxn]⟩ (by dsimp only; omega)).use ⟨by dsimp only; rw [← h8]; rfl, rfl, rfl, rfl, trivial⟩ ?_
      dsimp only
      rw [numB_snoc, u8s_append]
      exact (by refine ent_take ?_; exact ent_tail)
    · refine wk_exit rfl ?_
      refine wk_seq ?_
      refine wk_region ?_
      refine wo_v (v_move rfl) ?_
      refine wo_v (v_assign rfl) ?_
      refine wo_nil ?_
      refine wk_ret Tryz.func90 rfl rfl (res_tmp rfl res_nil) fun W h => ?_
      have hik : i = 2 := by omega
      subst hik
      exact ⟨x, rfl, hxn, h⟩
  · skip
    refine wk_seq ?_
    refine wk_region ?_
    refine wo_v (v_assign rfl) ?_
    refine wo_nil ?_
    refine wk_seq ?_
    refine wk_region ?_
    refine wo_v (v_assign rfl) ?_
    refine wo_nil ?_
    refine wk_seq ?_
    refine wk_seq ?_
    refine wk_region ?_
    refine wo_v (v_move rfl) ?_
    refine wo_v (v_neq rfl rfl) ?_
    refine wo_v (v_move rfl) ?_
    refine wo_gv (v_move rfl) ?_
    refine wo_gv (v_neq rfl rfl) ?_
    refine wo_v (v_pickT rfl rfl) ?_
    refine wo_v (v_move rfl) ?_
    refine wo_gv (v_move rfl) ?_
    refine wo_gv (v_neq rfl rfl) ?_
    refine wo_v (v_pickT rfl rfl) ?_
    refine wo_v (v_move rfl) ?_
    refine wo_gF ?_
    refine wo_gF ?_
    refine wo_v (v_pickF rfl rfl) ?_
    refine wo_nil ?_
    refine wk_condF rfl ?_
    refine wk_skip ?_
    refine wk_seq ?_
    refine wk_seq ?_
    refine wk_region ?_
    refine wo_v (v_assign rfl) ?_
    refine wo_nil ?_
    refine wk_block ?_
    refine wk_loop (fun a : Nat × SV => a.1 ≤ 4 ∧ a.2.n = a.1) (fun a => [(0, .int .u64 (n / 256 ^ a.1 : Nat)), (1, .int .i64 (4 : Nat)), (5, a.2.v), (6, .int .i64 a.1)]) (fun a => osl a.2 (u8s (numB n a.1)) 1 5 :: R) (fun a => 4 - a.1) (0, nilSV) ⟨Nat.zero_le _, rfl⟩ ⟨by dsimp only; rw [Nat.pow_zero, Nat.div_one]; rfl, rfl, rfl, rfl, trivial⟩ (Ent.refl _) fun a0 hI next => ?_
    obtain ⟨i, x⟩ := a0
    obtain ⟨hi, hxn⟩ := hI
    dsimp only at hi hxn next ⊢
    have hdi : n / 256 ^ i < 18446744073709551616 := Nat.lt_of_le_of_lt (Nat.div_le_self _ _) hn
    refine wk_seq ?_
    refine wk_seq ?_
    refine wk_region ?_
    refine wo_v (v_move rfl) ?_
    refine wo_v (v_move rfl) ?_
    refine wo_v (v_lss rfl rfl) ?_
    refine wo_nil ?_
    refine wk_if rfl (fun hb => ?_) (fun hb => ?_)
    · refine wk_skip ?_
      refine wk_seq ?_
      refine wk_block ?_
      refine wk_seq ?_
      refine wk_region ?_
      refine wo_v (v_move rfl) ?_
      refine wo_v (v_move rfl) ?_
      refine wo_v (OpV.int (v_remU rfl rfl (Int.natCast_nonneg _) (by decide)) (show _ = ((n / 256 ^ i % 256 : Nat) : Int) from (Int.natCast_emod _ _).symm)) ?_
      refine wo_v (v_convN tyU_5 tyU_33 rfl wrapN_u8) ?_
      refine wo_w (w_buildSlice1 tyU_45 tyN_5 tyZ_5 rfl rfl rfl rfl fun b1 => ?_)
      refine wo_w (w_append (x := x) tyU_45 tyU_45 (.inl ⟨_, rfl⟩) tyB_5 tyN_5 tyZ_5 rfl (by decide) rfl rfl ((src_blk (vs := [.int .u8 ((n / 256 ^ i % 256 % 256 : Nat) : Int)]) (new := u8s [UInt8.ofNat (n / 256 ^ i % 256)]) (by show [_] = [_]; rw [Nat.mod_mod]; exact congrArg (fun x => [x]) (u8v_ofNat _)) (Nat.le_refl _))) rfl (by repeat constructor) (by (try dsimp only); omega) (by (try dsimp only); omega) rfl fun b2 hb2 => ?_)
      refine wo_v (v_assign rfl) ?_
      refine wo_nil ?_
      refine wk_region ?_
      refine wo_v (v_move rfl) ?_
      refine wo_v (OpV.int (v_quoU rfl rfl (Int.natCast_nonneg _) (by decide) (Int.ofNat_lt.2 hdi)) (show _ = ((n / 256 ^ i / 256 : Nat) : Int) from (Int.natCast_ediv _ _).symm)) ?_
      refine wo_v (v_assign rfl) ?_
      refine wo_nil ?_
      refine wk_inBlock ?_
      refine wk_region ?_
      refine wo_v (v_move rfl) ?_
      refine wo_v (v_addI rfl rfl) ?_
      refine wo_v (v_assign rfl) ?_
      refine wo_nil ?_
      have h8 : n / 256 ^ i / 256 = n / 256 ^ (i + 1) := by rw [Nat.div_div_eq_div_mul, ← Nat.pow_succ]
      refine (next (i + 1, b2) ⟨by dsimp only; omega, by dsimp only; rw [hb2, hxn]⟩ (by dsimp only; omega)).use ⟨by dsimp only; rw [← h8]; rfl, rfl, rfl, rfl, trivial⟩ ?_
      dsimp only
      rw [numB_snoc, u8s_append]
      exact (by refine ent_take ?_; exact ent_tail)
    · refine wk_exit rfl ?_
      refine wk_seq ?_
      refine wk_region ?_
      refine wo_v (v_move rfl) ?_
      refine wo_v (v_assign rfl) ?_
      refine wo_nil ?_
      refine wk_ret Tryz.func90 rfl rfl (res_tmp rfl res_nil) fun W h => ?_
      have hik : i = 4 := by omega
      subst hik
      exact ⟨x, rfl, hxn, h⟩
  · skip
    refine wk_seq ?_
    refine wk_region ?_
    refine wo_v (v_assign rfl) ?_
    refine wo_nil ?_
    refine wk_seq ?_
    refine wk_region ?_
    refine wo_v (v_assign rfl) ?_
    refine wo_nil ?_
    refine wk_seq ?_
    refine wk_seq ?_
    refine wk_region ?_
    refine wo_v (v_move rfl) ?_
    refine wo_v (v_neq rfl rfl) ?_
    refine wo_v (v_move rfl) ?_
    refine wo_gv (v_move rfl) ?_
    refine wo_gv (v_neq rfl rfl) ?_
    refine wo_v (v_pickT rfl rfl) ?_
    refine wo_v (v_move rfl) ?_
    refine wo_gv (v_move rfl) ?_
    refine wo_gv (v_neq rfl rfl) ?_
    refine wo_v (v_pickT rfl rfl) ?_
    refine wo_v (v_move rfl) ?_
    refine wo_gv (v_move rfl) ?_
    refine wo_gv (v_neq rfl rfl) ?_
    refine wo_v (v_pickT rfl rfl) ?_
    refine wo_nil ?_
    refine wk_condF rfl ?_
    refine wk_skip ?_
    refine wk_seq ?_
    refine wk_seq ?_
    refine wk_region ?_
    refine wo_v (v_assign rfl) ?_
    refine wo_nil ?_
    refine wk_block ?_
    refine wk_loop (fun a : Nat × SV => a.1 ≤ 8 ∧ a.2.n = a.1) (fun a => [(0, .int .u64 (n / 256 ^ a.1 : Nat)), (1, .int .i64 (8 : Nat)), (5, a.2.v), (6, .int .i64 a.1)]) (fun a => osl a.2 (u8s (numB n a.1)) 1 5 :: R) (fun a => 8 - a.1) (0, nilSV) ⟨Nat.zero_le _, rfl⟩ ⟨by dsimp only; rw [Nat.pow_zero, Nat.div_one]; rfl, rfl, rfl, rfl, trivial⟩ (Ent.refl _) fun a0 hI next => ?_
    obtain ⟨i, x⟩ := a0
    obtain ⟨hi, hxn⟩ := hI
    dsimp only at hi hxn next ⊢
    have hdi : n / 256 ^ i < 18446744073709551616 := Nat.lt_of_le_of_lt (Nat.div_le_self _ _) hn
    refine wk_seq ?_
    refine wk_seq ?_
    refine wk_region ?_
    refine wo_v (v_move rfl) ?_
    refine wo_v (v_move rfl) ?_
    refine wo_v (v_lss rfl rfl) ?_
    refine wo_nil ?_
    refine wk_if rfl (fun hb => ?_) (fun hb => ?_)
    · refine wk_skip ?_
      refine wk_seq ?_
      refine wk_block ?_
      refine wk_seq ?_
      refine wk_region ?_
      refine wo_v (v_move rfl) ?_
      refine wo_v (v_move rfl) ?_
      refine wo_v (OpV.int (v_remU rfl rfl (Int.natCast_nonneg _) (by decide)) (show _ = ((n / 256 ^ i % 256 : Nat) : Int) from (Int.natCast_emod _ _).symm)) ?_
      refine wo_v (v_convN tyU_5 tyU_33 rfl wrapN_u8) ?_
      refine wo_w (w_buildSlice1 tyU_45 tyN_5 tyZ_5 rfl rfl rfl rfl fun b1 => ?_)
      refine wo_w (w_append (x := x) tyU_45 tyU_45 (.inl ⟨_, rfl⟩) tyB_5 tyN_5 tyZ_5 rfl (by decide) rfl rfl ((src_blk (vs := [.int .u8 ((n / 256 ^ i % 256 % 256 : Nat) : Int)]) (new := u8s [UInt8.ofNat (n / 256 ^ i % 256)]) (by show [_] = [_]; rw [Nat.mod_mod]; exact congrArg (fun x => [x]) (u8v_ofNat _)) (Nat.le_refl _))) rfl (by repeat constructor) (by (try dsimp only); omega) (by (try dsimp only); omega) rfl fun b2 hb2 => ?_)
      refine wo_v (v_assign rfl) ?_
      refine wo_nil ?_
      refine wk_region ?_
      refine wo_v (v_move rfl) ?_
      refine wo_v (OpV.int (v_quoU rfl rfl (Int.natCast_nonneg _) (by decide) (Int.ofNat_lt.2 hdi)) (show _ = ((n / 256 ^ i / 256 : Nat) : Int) from (Int.natCast_ediv _ _).symm)) ?_
      refine wo_v (v_assign rfl) ?_
      refine wo_nil ?_
      refine wk_inBlock ?_
      refine wk_region ?_
      refine wo_v (v_move rfl) ?_
      refine wo_v (v_addI rfl rfl) ?_
      refine wo_v (v_assign rfl) ?_
      refine wo_nil ?_
      have h8 : n / 256 ^ i / 256 = n / 256 ^ (i + 1) := by rw [Nat.div_div_eq_div_mul, ← Nat.pow_succ]
      refine (next (i + 1, b2) ⟨by dsimp only; omega, by dsimp only; rw [hb2, hxn]⟩ (by dsimp only; omega)).use ⟨by dsimp only; rw [← h8]; rfl, rfl, rfl, rfl, trivial⟩ ?_
      dsimp only
      rw [numB_snoc, u8s_append]
      exact (by refine ent_take ?_; exact ent_tail)
    · refine wk_exit rfl ?_
      refine wk_seq ?_
      refine wk_region ?_
      refine wo_v (v_move rfl) ?_
      refine wo_v (v_assign rfl) ?_
      refine wo_nil ?_
      refine wk_ret Tryz.func90 rfl rfl (res_tmp rfl res_nil) fun W h => ?_
      have hik : i = 8 := by omega
      subst hik
      exact ⟨x, rfl, hxn, h⟩

end Go.Proofs.YtealmijbkebipaaGreatDoor
