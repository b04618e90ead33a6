/- Layer 3 (wire), walked on. Layer 1 (crc), walked. bytes.Equal, and layer 5 (leaf): what is built, what is read. Layer 5 (leaf): Build and Read. -/
import Derived.Test.YtealmijbkebipaaGreatDoorSwAG
namespace Go.Proofs.YtealmijbkebipaaGreatDoor
open Go
attribute [local irreducible] own pe nf

theorem s_wire_Writer_Number {w limit n k : Nat} {bs : List UInt8} (hl : bs.length + k ≤ limit) (hm : limit ≤ 1048576) (hn : n < 18446744073709551616) (hk : k = 1 ∨ k = 2 ∨ k = 4 ∨ k = 8) :
    FnSpec Tryz.prog 102 #[.pointer (some ⟨w, 0, none⟩), .int .u64 n, .int .i64 k] [WrH w bs limit]
    (fun _ : Unit => .tuple #[]) (fun _ => True) (fun _ R => WrH w (bs ++ numB n k) limit :: R) := by
  refine fn_spec Tryz.func102 rfl rfl rfl rfl fun G R => ?_
  dsimp only [List.append_eq, List.cons_append, List.nil_append]
  refine wk_seq ?_
  refine wk_seq ?_
  refine wk_region ?_
  refine wo_v (v_move rfl) ?_
  refine wo_v (v_eqSome tyU_182 rfl rfl) ?_
  refine wo_nil ?_
  refine wk_condF rfl ?_
  refine wk_skip ?_
  refine wk_seq ?_
  refine wk_seq ?_
  refine wk_region ?_
  refine wo_v (v_move rfl) ?_
  refine wo_w (w_call s_wire_may rfl (by repeat constructor) ?_)
  rintro ⟨⟩ -
  refine wo_v (v_not rfl) ?_
  refine wo_nil ?_
  refine wk_if rfl (fun hb => ?_) (fun hb => ?_)
  · exact absurd hk hb
  · refine wk_skip ?_
    refine wk_region ?_
    refine wo_v (v_move rfl) ?_
    refine wo_v (v_move rfl) ?_
    refine wo_v (v_move rfl) ?_
    refine wo_w (w_call (s_wire_number hn (by omega)) rfl (by repeat constructor) ?_)
    rintro x hx
    refine wo_w (w_call (s_wire_Writer_Raw (bs := bs) (cs := numB n k) (by rw [numB_length]; exact hl) hm) rfl (by repeat constructor) ?_)
    rintro ⟨⟩ -
    refine wo_nil ?_
    refine wk_end Tryz.func102 rfl rfl res_nil fun W h => ?_
    exact ⟨(), rfl, trivial, Ent.sat (by refine ent_take ?_; exact ent_tail) h⟩

theorem s_bytes_CloneO {x : SV} {bs : List UInt8} {T : TypeId} (hb : bs.length ≤ 4294967296) : FnSpec Tryz.prog 23 #[x.v] [osl x (u8s bs) 1 T]
    (fun y : SV => y.v) (fun y => y.n = bs.length) (fun y R => pe (bsl y bs) :: osl x (u8s bs) 1 T :: R) := by
  refine fn_spec Tryz.func23 rfl rfl rfl rfl fun G R => ?_
  dsimp only [List.append_eq, List.cons_append, List.nil_append]
  refine wk_fact (fun _ _ s => osl_fact s) fun hx => ?_
  have hlen : bs.length = x.n := by have := hx.1; simpa using this
  refine wk_seq ?_
  refine wk_region ?_
  refine wo_v (v_assign rfl) ?_
  refine wo_nil ?_
  refine wk_seq ?_
  refine wk_seq ?_
  refine wk_region ?_
  refine wo_v (v_move rfl) ?_
  refine wo_v (v_eqSlN tyU_45 rfl rfl) ?_
  refine wo_nil ?_
  refine wk_if rfl (fun hn => ?_) (fun hn => ?_)
  · refine wk_seq ?_
    refine wk_region ?_
    refine wo_v (v_assign rfl) ?_
    refine wo_nil ?_
    refine wk_ret Tryz.func23 rfl rfl (res_tmp rfl res_nil) fun W h => ?_
    have h0 := hx.2.2 (by simpa using hn)
    subst h0
    have hbs : bs = [] := List.eq_nil_of_length_eq_zero (by rw [hlen])
    subst hbs
    refine ⟨nilSV, rfl, rfl, ?_⟩
    exact Ent.sat (ent_roNil rfl (by refine ent_take ?_; exact ent_tail)) h
  · refine wk_skip ?_
    refine wk_seq ?_
    refine wk_region ?_
    refine wo_w (w_buildSlice0 tyU_45 tyN_5 fun b1 => ?_)
    refine wo_ent (ent_oslEmpty (size := 1)) ?_
    refine wo_v (v_move rfl) ?_
    refine wo_w (w_append (x := ⟨some ⟨b1, 0, none⟩, 0, 0⟩) tyU_45 tyU_45 (.inl ⟨_, rfl⟩) tyB_5 tyN_5 tyZ_5 rfl (by decide) rfl rfl ((src_osl (T := T))) (allOne_u8s bs) (by repeat constructor) (by (try dsimp only); omega) (by (try dsimp only); omega) hx.1 fun b2 hb2 => ?_)
    refine wo_v (v_assign rfl) ?_
    refine wo_nil ?_
    refine wk_ret Tryz.func23 rfl rfl (res_tmp rfl res_nil) fun W h => ?_
    refine ⟨b2, rfl, ?_, Ent.sat (by refine ent_take ?_; refine ent_take ?_; exact ent_tail) (up_freeze _ _ h)⟩
    rw [hb2, hlen, Nat.zero_add]

theorem s_wire_Writer_Bytes {w limit : Nat} {bs : List UInt8} (hm : bs.length ≤ 1048576) : FnSpec Tryz.prog 105 #[.pointer (some ⟨w, 0, none⟩)] [WrH w bs limit]
    (fun x : SV => x.v) (fun x => x.n = bs.length) (fun x R => pe (bsl x bs) :: WrH w bs limit :: R) := by
  refine fn_spec Tryz.func105 rfl rfl rfl rfl fun G R => ?_
  refine wk_nf fun ⟨y, T⟩ hy => ?_
  dsimp only [List.append_eq, List.cons_append, List.nil_append] at hy ⊢
  refine wk_seq ?_
  refine wk_region ?_
  refine wo_v (v_assign rfl) ?_
  refine wo_nil ?_
  refine wk_seq ?_
  refine wk_seq ?_
  refine wk_region ?_
  refine wo_v (v_move rfl) ?_
  refine wo_v (v_eqSome tyU_182 rfl rfl) ?_
  refine wo_nil ?_
  refine wk_condF rfl ?_
  refine wk_skip ?_
  refine wk_seq ?_
  refine wk_region ?_
  refine wo_v (v_move rfl) ?_
  refine wo_v (v_nilCheck rfl) ?_
  refine wo_v (v_fieldAddr tyF_201_0 rfl) ?_
  refine wo_v (v_load tyS_45 rfl rfl) ?_
  refine wo_w (w_call (s_bytes_CloneO (bs := bs) (T := 5) (by omega)) rfl (by repeat constructor) ?_)
  rintro x hx
  refine wo_v (v_assign rfl) ?_
  refine wo_nil ?_
  refine wk_ret Tryz.func105 rfl rfl (res_tmp rfl res_nil) fun W h => ?_
  refine ⟨x, rfl, hx, Ent.sat ?_ h⟩
  refine ent_take ?_
  refine ent_nf (y, T) hy ?_
  exact ent_tail

/-- A reader: what is left; whether it is bad. -/
def RdH (r : Nat) (bs : List UInt8) (bad : Bool) : HP :=
  nf (fun x : SV × TypeId => x.1.n = bs.length) fun x => [blk r [x.1.v, .bool bad] x.2, pe (bsl x.1 bs)]

theorem s_wire_NewReader {x : SV} {bs : List UInt8} (hm : bs.length ≤ 1048576) : FnSpec Tryz.prog 107 #[x.v] [pe (bsl x bs)]
    (fun r : Nat => .pointer (some ⟨r, 0, none⟩)) (fun _ => True) (fun r R => RdH r bs false :: R) := by
  refine fn_spec Tryz.func107 rfl rfl rfl rfl fun G R => ?_
  dsimp only [List.append_eq, List.cons_append, List.nil_append]
  refine wk_seq ?_
  refine wk_region ?_
  refine wo_v (v_assign rfl) ?_
  refine wo_nil ?_
  refine wk_seq ?_
  refine wk_region ?_
  refine wo_v (v_move rfl) ?_
  refine wo_w (w_call (s_bytes_Clone (bs := bs) (by omega)) rfl (by repeat constructor) ?_)
  rintro y hy
  refine wo_v (v_buildN tyBu_205 rfl (by repeat constructor)) ?_
  refine wo_w (w_boxA rfl fun b1 => ?_)
  refine wo_v (v_assign rfl) ?_
  refine wo_nil ?_
  refine wk_ret Tryz.func107 rfl rfl (res_tmp rfl res_nil) fun W h => ?_
  exact ⟨b1, rfl, trivial, Ent.sat (by refine ent_nf (y, 205) hy ?_; exact ent_tail) h⟩

def rawOf (bs : List UInt8) (n : Nat) : List UInt8 := if n ≤ bs.length then bs.take n else []
def rawLeft (bs : List UInt8) (n : Nat) : List UInt8 := if n ≤ bs.length then bs.drop n else []

theorem s_wire_Reader_Raw {r n : Nat} {bs : List UInt8} {bad : Bool} (hm : bs.length ≤ 1048576) : FnSpec Tryz.prog 109 #[.pointer (some ⟨r, 0, none⟩), .int .i64 n] [RdH r bs bad]
    (fun x : SV => x.v) (fun x => x.n = (rawOf bs n).length) (fun x R => pe (bsl x (rawOf bs n)) :: RdH r (rawLeft bs n) (bad || decide (bs.length < n)) :: R) := by
  refine fn_spec Tryz.func109 rfl rfl rfl rfl fun G R => ?_
  refine wk_nf fun ⟨y, T⟩ hy => ?_
  dsimp only [List.append_eq, List.cons_append, List.nil_append] at hy ⊢
  refine wk_ro (x := y) (cells := u8s bs) (size := 1) (by repeat constructor) fun hx => ?_
  refine wk_seq ?_
  refine wk_region ?_
  refine wo_v (v_assign rfl) ?_
  refine wo_nil ?_
  refine wk_seq ?_
  refine wk_seq ?_
  refine wk_region ?_
  refine wo_v (v_move rfl) ?_
  refine wo_v (v_eqSome tyU_190 rfl rfl) ?_
  refine wo_nil ?_
  refine wk_condF rfl ?_
  refine wk_skip ?_
  refine wk_seq ?_
  refine wk_seq ?_
  refine wk_region ?_
  refine wo_v (v_move rfl) ?_
  refine wo_v (v_lss rfl rfl) ?_
  refine wo_v (v_move rfl) ?_
  refine wo_if (t := 10) rfl (fun h1 => ?_) (fun h1 => ?_)
  · exact absurd h1 (by omega)
  · refine wo_gv (v_move rfl) ?_
    refine wo_gv (v_move rfl) ?_
    refine wo_gv (v_nilCheck rfl) ?_
    refine wo_gv (v_fieldAddr tyF_205_0 rfl) ?_
    refine wo_gv (v_load tyS_45 rfl rfl) ?_
    refine wo_gv (v_len tyU_45 rfl) ?_
    refine wo_gv (v_gtr rfl rfl) ?_
    refine wo_v (v_pickF rfl rfl) ?_
    refine wo_nil ?_
    refine wk_if rfl (fun hb => ?_) (fun hb => ?_)
    · refine wk_seq ?_
      refine wk_region ?_
      refine wo_v (v_move rfl) ?_
      refine wo_v (v_move rfl) ?_
      refine wo_v (v_nilCheck rfl) ?_
      refine wo_v (v_fieldAddr tyF_205_0 rfl) ?_
      refine wo_w0 (w_storeN1 tyN_45 rfl rfl rfl (by repeat constructor) (by repeat constructor) ?_)
      refine wo_v (v_nilCheck rfl) ?_
      refine wo_v (v_fieldAddr tyF_205_1 rfl) ?_
      refine wo_w0 (w_storeN1 tyN_4 rfl rfl rfl (by repeat constructor) (by repeat constructor) ?_)
      refine wo_nil ?_
      refine wk_seq ?_
      refine wk_region ?_
      refine wo_v (v_assign rfl) ?_
      refine wo_nil ?_
      refine wk_ret Tryz.func109 rfl rfl (res_tmp rfl res_nil) fun W h => ?_
      have hlt : bs.length < n := by omega
      have e1 : rawOf bs n = [] := if_neg (by omega)
      have e2 : rawLeft bs n = [] := if_neg (by omega)
      have e3 : (bad || decide (bs.length < n)) = true := by simp [hlt]
      rw [e1, e2, e3]
      refine ⟨nilSV, rfl, rfl, Ent.sat ((ent_roNil (x := nilSV) (size := 1) rfl (Ent.refl _)).trans ?_) h⟩
      refine ent_take ?_
      refine ent_nf (nilSV, T) rfl ?_
      exact ent_tail
    · have hle : n ≤ bs.length := by omega
      have e1 : rawOf bs n = bs.take n := if_pos hle
      have e2 : rawLeft bs n = bs.drop n := if_pos hle
      have e3 : (bad || decide (bs.length < n)) = bad := by rw [decide_eq_false (by omega), Bool.or_false]
      rw [e1, e2, e3]
      refine wk_skip ?_
      refine wk_seq ?_
      refine wk_region ?_
      refine wo_v (v_move rfl) ?_
      refine wo_v (v_nilCheck rfl) ?_
      refine wo_v (v_fieldAddr tyF_205_0 rfl) ?_
      refine wo_v (v_load tyS_45 rfl rfl) ?_
      refine wo_v (v_move rfl) ?_
      refine wo_v (v_sliceHiS tyU_45 tyN_5 rfl rfl (by omega)) ?_
      refine wo_ent (ent_bslHi (x := y) (bs := bs) (h := n) (by repeat constructor) (by omega)) ?_
      refine wo_w (w_call (s_bytes_Clone (bs := bs.take n) (by rw [List.length_take]; omega)) rfl (by repeat constructor) ?_)
      rintro z hz
      refine wo_v (v_assign rfl) ?_
      refine wo_nil ?_
      refine wk_seq ?_
      refine wk_region ?_
      refine wo_v (v_move rfl) ?_
      refine wo_v (v_move rfl) ?_
      refine wo_v (v_nilCheck rfl) ?_
      refine wo_v (v_fieldAddr tyF_205_0 rfl) ?_
      refine wo_v (v_load tyS_45 rfl rfl) ?_
      refine wo_v (v_move rfl) ?_
      refine wo_v (v_sliceLoS tyU_45 tyN_5 rfl rfl (by omega)) ?_
      refine wo_ent (ent_bslLo (x := y) (bs := bs) (l := n) (by repeat constructor) (by omega)) ?_
      refine wo_v (v_nilCheck rfl) ?_
      refine wo_v (v_fieldAddr tyF_205_0 rfl) ?_
      refine wo_w0 (w_storeN1 tyN_45 rfl rfl rfl (by repeat constructor) (by repeat constructor) ?_)
      refine wo_nil ?_
      refine wk_seq ?_
      refine wk_region ?_
      refine wo_v (v_move rfl) ?_
      refine wo_v (v_assign rfl) ?_
      refine wo_nil ?_
      refine wk_ret Tryz.func109 rfl rfl (res_tmp rfl res_nil) fun W h => ?_
      refine ⟨z, rfl, hz, Ent.sat ?_ h⟩
      refine ent_take ?_
      refine ent_nf (y.sl n y.n 1, T) (by rw [List.length_drop, SV.sl_n, hy]) ?_
      exact ent_tail


theorem s_wire_Reader_Bad {r : Nat} {bs : List UInt8} {bad : Bool} : FnSpec Tryz.prog 110 #[.pointer (some ⟨r, 0, none⟩)] [RdH r bs bad]
    (fun _ : Unit => .bool bad) (fun _ => True) (fun _ R => RdH r bs bad :: R) := by
  refine fn_spec Tryz.func110 rfl rfl rfl rfl fun G R => ?_
  refine wk_nf fun ⟨y, T⟩ hy => ?_
  dsimp only [List.append_eq, List.cons_append, List.nil_append] at hy ⊢
  refine wk_seq ?_
  refine wk_region ?_
  refine wo_v (v_assign rfl) ?_
  refine wo_nil ?_
  refine wk_seq ?_
  refine wk_region ?_
  refine wo_v (v_move rfl) ?_
  refine wo_v (v_eqSome tyU_190 rfl rfl) ?_
  refine wo_v (v_move rfl) ?_
  refine wo_gv (v_move rfl) ?_
  refine wo_gv (v_nilCheck rfl) ?_
  refine wo_gv (v_fieldAddr tyF_205_1 rfl) ?_
  refine wo_gv (v_load tyS_4 rfl rfl) ?_
  refine wo_v (v_pickF rfl rfl) ?_
  refine wo_v (v_assign rfl) ?_
  refine wo_nil ?_
  refine wk_ret Tryz.func110 rfl rfl (res_tmp rfl res_nil) fun W h => ?_
  exact ⟨(), rfl, trivial, Ent.sat (by refine ent_nf (y, T) hy ?_; exact ent_tail) h⟩

theorem rawOf_length (bs : List UInt8) (n : Nat) : (rawOf bs n).length ≤ n := by
  unfold rawOf; split
  · rw [List.length_take]; omega
  · simp

theorem s_wire_Reader_Number {r k : Nat} {bs : List UInt8} {bad : Bool} (hm : bs.length ≤ 1048576) (hk : k = 1 ∨ k = 2 ∨ k = 4 ∨ k = 8) : FnSpec Tryz.prog 108 #[.pointer (some ⟨r, 0, none⟩), .int .i64 k] [RdH r bs bad]
    (fun _ : Unit => .int .u64 (valB (rawOf bs k))) (fun _ => True) (fun _ R => RdH r (rawLeft bs k) (bad || decide (bs.length < k)) :: R) := by
  refine fn_spec Tryz.func108 rfl rfl rfl rfl fun G R => ?_
  dsimp only [List.append_eq, List.cons_append, List.nil_append]
  have hrl := rawOf_length bs k
  refine wk_seq ?_
  refine wk_region ?_
  refine wo_v (v_assign rfl) ?_
  refine wo_nil ?_
  refine wk_seq ?_
  refine wk_seq ?_
  refine wk_region ?_
  refine wo_v (v_move rfl) ?_
  refine wo_w (w_call s_wire_may rfl (by repeat constructor) ?_)
  rintro ⟨⟩ -
  refine wo_v (v_not rfl) ?_
  refine wo_nil ?_
  refine wk_if rfl (fun hb => ?_) (fun hb => ?_)
  · exact absurd hk hb
  · refine wk_skip ?_
    refine wk_seq ?_
    refine wk_region ?_
    refine wo_v (v_assign rfl) ?_
    refine wo_nil ?_
    refine wk_seq ?_
    refine wk_seq ?_
    refine wk_region ?_
    refine wo_v (v_move rfl) ?_
    refine wo_v (v_move rfl) ?_
    refine wo_w (w_call (s_wire_Reader_Raw (n := k) (bs := bs) hm) rfl (by repeat constructor) ?_)
    rintro x hx
    generalize rawOf bs k = cs at hx hrl ⊢
    refine wo_v (v_len tyU_45 rfl) ?_
    refine wo_v (v_move rfl) ?_
    refine wo_nil ?_
    refine wk_block ?_
    refine wk_loop (fun i : Nat => i ≤ cs.length) (fun i => [(5, .int .u64 (valB (cs.take i))), (13, x.v), (14, .int .i64 x.n), (15, .int .i64 i)]) (fun _ => pe (bsl x cs) :: RdH r (rawLeft bs k) (bad || decide (bs.length < k)) :: R) (fun i => cs.length - i) 0 (Nat.zero_le _) ⟨rfl, rfl, rfl, rfl, trivial⟩ ent_tail fun i hi next => ?_
    refine wk_seq ?_
    refine wk_region ?_
    refine wo_v (v_lss rfl rfl) ?_
    refine wo_nil ?_
    refine wk_seq ?_
    refine wk_if rfl (fun hq => ?_) (fun hq => ?_)
    · have hlt : i < cs.length := by omega
      have hg : cs[i]? = some cs[i] := List.getElem?_eq_getElem hlt
      have htk : cs.take (i + 1) = cs.take i ++ [cs[i]] := by rw [List.take_succ_eq_append_getElem hlt]
      have hvl : valB (cs.take i) < 18446744073709551616 := by
        have h1 := valB_lt (cs.take i)
        rw [List.length_take, Nat.min_eq_left hi] at h1
        exact Nat.lt_of_lt_of_le h1 (Nat.pow_le_pow_right (by decide) (by omega : i ≤ 8))
      generalize cs[i] = c at hg htk
      have hc := c.toNat_lt
      refine wk_block' (x := x) (cells := u8s cs) (size := 1) (by repeat constructor) (by omega) fun b o vs T fz ha hv hle => ?_
      refine wk_skip ?_
      refine wk_seq ?_
      refine wk_block ?_
      refine wk_seq ?_
      refine wk_region ?_
      refine wo_v (v_move rfl) ?_
      refine wo_v (v_indexAddrS tyU_45 tyN_5 rfl rfl ha (by omega)) ?_
      refine wo_v (v_load tyS_5 rfl (ro_get hv (u8s_get hg))) ?_
      refine wo_v (v_assign rfl) ?_
      refine wo_v (v_assign rfl) ?_
      refine wo_nil ?_
      refine wk_region ?_
      refine wo_v (v_move rfl) ?_
      refine wo_v (v_move rfl) ?_
      refine wo_v (v_convN tyU_33 tyU_5 rfl (wrapN_u64 (by omega))) ?_
      refine wo_v (v_move rfl) ?_
      refine wo_v (v_mulI rfl rfl) ?_
      refine wo_v (v_shlUN (b := 8 * i) rfl rfl) ?_
      refine wo_v (v_orUN rfl rfl hvl (Nat.mod_lt _ (by decide))) ?_
      refine wo_v (v_assign rfl) ?_
      refine wo_nil ?_
      refine wk_inBlock ?_
      refine wk_region ?_
      refine wo_v (v_addI rfl rfl) ?_
      refine wo_v (v_move rfl) ?_
      refine wo_nil ?_
      refine (next (i + 1) hlt (by omega)).use ⟨?_, rfl, rfl, rfl, trivial⟩ ent_tail
      rw [htk, ← valB_or (by rw [List.length_take]; omega), List.length_take, Nat.min_eq_left hi]; rfl
    · refine wk_exit rfl ?_
      refine wk_seq ?_
      refine wk_region ?_
      refine wo_v (v_move rfl) ?_
      refine wo_v (v_assign rfl) ?_
      refine wo_nil ?_
      refine wk_ret Tryz.func108 rfl rfl (res_tmp rfl res_nil) fun W h => ?_
      have : i = cs.length := by omega
      subst this
      rw [List.take_length]
      exact ⟨(), rfl, trivial, Ent.sat (by refine ent_take ?_; exact ent_tail) h⟩

end Go.Proofs.YtealmijbkebipaaGreatDoor

namespace Go.Proofs.YtealmijbkebipaaGreatDoor
open Go
attribute [local irreducible] own pe nf

def crcR (n : Nat) : Nat := (n / 2 ^ 1) ^^^ (2197175160 * (n &&& 1) % 4294967296)
def crcI : Nat → Nat → Nat
  | 0, n => n
  | j + 1, n => crcR (crcI j n)
theorem crcR_lt {n : Nat} (h : n < 4294967296) : crcR n < 4294967296 := by
  have : crcR n < 2 ^ 32 := Nat.xor_lt_two_pow (Nat.lt_of_le_of_lt (Nat.div_le_self _ _) h) (Nat.mod_lt _ (by decide))
  exact this
theorem crcI_lt {n : Nat} (h : n < 4294967296) (j : Nat) : crcI j n < 4294967296 := by
  induction j with
  | zero => exact h
  | succ j ih => exact crcR_lt ih
def u32v (n : Nat) : Value := .int .u32 n
def crcTab : List Nat := (List.range 256).map (crcI 8)
def tabAt (i : Nat) : List Value := ((List.range i).map (crcI 8)).map u32v ++ List.replicate (256 - i) (.int .u32 0)
theorem tabAt_len {i : Nat} (h : i ≤ 256) : (tabAt i).length = 256 := by simp [tabAt]; omega
theorem tabAt_step {i : Nat} (h : i < 256) : (tabAt i).set (0 + (i : Int).toNat * 1) (.int .u32 (crcI 8 i)) = tabAt (i + 1) := by
  unfold tabAt
  rw [List.range_succ, List.map_append, List.map_append, show 256 - i = (256 - (i + 1)) + 1 from by omega, List.replicate_succ]
  have h1 : 0 + (i : Int).toNat * 1 = (((List.range i).map (crcI 8)).map u32v).length := by simp
  rw [h1, List.set_append_right _ _ (Nat.le_refl _), Nat.sub_self, List.set_cons_zero, List.append_assoc]
  rfl
theorem crcTab_len : (crcTab.map u32v).length = 256 := by simp [crcTab]
theorem allOne_u32 (l : List Nat) : allOne (l.map u32v) = true := by
  induction l with
  | nil => rfl
  | cons a l ih => simpa [allOne, u32v, Value.oneCell'] using ih
theorem tabAt_end : tabAt 256 = crcTab.map u32v := by simp [tabAt, crcTab]

theorem s_crc_Table : FnSpec Tryz.prog 140 #[] []
    (fun _ : Unit => .agg (crcTab.map u32v).toArray) (fun _ => True) (fun _ R => R) := by
  refine fn_spec Tryz.func140 rfl rfl rfl rfl fun G R => ?_
  dsimp only [List.append_eq, List.cons_append, List.nil_append]
  refine wk_seq ?_
  refine wk_region ?_
  refine wo_w (w_allocA tyZ_222 fun b1 => ?_)
  refine wo_nil ?_
  refine wk_seq ?_
  refine wk_region ?_
  refine wo_w (w_allocA tyZ_222 fun b2 => ?_)
  refine wo_nil ?_
  refine wk_seq ?_
  refine wk_seq ?_
  refine wk_region ?_
  refine wo_v (v_move rfl) ?_
  refine wo_nil ?_
  refine wk_block ?_
  refine wk_loop (fun i : Nat => i ≤ 256) (fun i => [(0, .pointer (some ⟨b1, 0, none⟩)), (1, .pointer (some ⟨b2, 0, none⟩)), (5, .int .i64 i)]) (fun i => blk b1 (List.replicate 256 (.int .u32 0)) 222 :: blk b2 (tabAt i) 222 :: R) (fun i => 256 - i) 0 (Nat.zero_le _) ⟨rfl, rfl, rfl, trivial⟩ (by refine ent_take ?_; refine ent_take ?_; exact ent_tail) fun i hi next => ?_
  refine wk_seq ?_
  refine wk_region ?_
  refine wo_v (v_lss rfl rfl) ?_
  refine wo_nil ?_
  refine wk_seq ?_
  refine wk_if rfl (fun hb => ?_) (fun hb => ?_)
  · refine wk_skip ?_
    refine wk_seq ?_
    refine wk_block ?_
    refine wk_seq ?_
    refine wk_region ?_
    refine wo_v (v_move rfl) ?_
    refine wo_v (v_assign rfl) ?_
    refine wo_nil ?_
    refine wk_seq ?_
    refine wk_region ?_
    refine wo_v (v_move rfl) ?_
    refine wo_v (v_convN tyU_186 tyU_3 rfl  (wrapN_u32 (by omega))) ?_
    refine wo_v (v_assign rfl) ?_
    refine wo_nil ?_
    refine wk_seq ?_
    refine wk_seq ?_
    refine wk_region ?_
    refine wo_v (v_move rfl) ?_
    refine wo_nil ?_
    refine wk_block ?_
    refine wk_loop (fun j : Nat => j ≤ 8) (fun j => [(0, .pointer (some ⟨b1, 0, none⟩)), (1, .pointer (some ⟨b2, 0, none⟩)), (5, .int .i64 i), (2, .int .i64 i), (3, .int .u32 (crcI j i)), (10, .int .i64 j)]) (fun _ => blk b1 (List.replicate 256 (.int .u32 0)) 222 :: blk b2 (tabAt i) 222 :: R) (fun j => 8 - j) 0 (Nat.zero_le _) ⟨rfl, rfl, rfl, rfl, rfl, rfl, trivial⟩ (by refine ent_take ?_; refine ent_take ?_; exact ent_tail) fun j hj next2 => ?_
    refine wk_seq ?_
    refine wk_region ?_
    refine wo_v (v_lss rfl rfl) ?_
    refine wo_nil ?_
    refine wk_seq ?_
    refine wk_if rfl (fun hc => ?_) (fun hc => ?_)
    · have hlt := crcI_lt (n := i) (by omega) j
      refine wk_skip ?_
      refine wk_seq ?_
      refine wk_block ?_
      refine wk_seq ?_
      refine wk_region ?_
      refine wo_v (v_move rfl) ?_
      refine wo_v (v_andU32N (b := 1) rfl rfl) ?_
      refine wo_v (v_assign rfl) ?_
      refine wo_nil ?_
      refine wk_region ?_
      refine wo_v (v_move rfl) ?_
      refine wo_v (v_shrU32N (b := 1) rfl rfl) ?_
      refine wo_v (v_move rfl) ?_
      refine wo_v (v_mulU32N (a := 2197175160) rfl rfl) ?_
      refine wo_v (v_xorU32N rfl rfl (Nat.lt_of_le_of_lt (Nat.div_le_self _ _) hlt) (Nat.mod_lt _ (by decide))) ?_
      refine wo_v (v_assign rfl) ?_
      refine wo_nil ?_
      refine wk_inBlock ?_
      refine wk_region ?_
      refine wo_v (v_addI rfl rfl) ?_
      refine wo_v (v_move rfl) ?_
      refine wo_nil ?_
      exact (next2 (j + 1) (by omega) (by omega)).use ⟨rfl, rfl, rfl, rfl, rfl, rfl, trivial⟩ ent_tail
    · obtain rfl : j = 8 := by omega
      refine wk_exit rfl ?_
      refine wk_region ?_
      refine wo_v (v_move rfl) ?_
      refine wo_v (v_move rfl) ?_
      refine wo_v (v_indexAddrA tyU_222 tyN_186 rfl rfl) ?_
      refine wo_w0 (w_store1 tyN_186 rfl rfl rfl (blt_of (b := (tabAt i).length) (by rw [tabAt_len hi]; omega)) (by repeat constructor) ?_)
      refine wo_nil ?_
      refine wk_inBlock ?_
      refine wk_region ?_
      refine wo_v (v_addI rfl rfl) ?_
      refine wo_v (v_move rfl) ?_
      refine wo_nil ?_
      refine (next (i + 1) (by omega) (by omega)).use ⟨rfl, rfl, rfl, trivial⟩ ?_
      rw [tabAt_step (by omega)]
      exact (by refine ent_take ?_; refine ent_take ?_; exact ent_tail)
  · obtain rfl : i = 256 := by omega
    rw [tabAt_end]
    refine wk_exit rfl ?_
    refine wk_seq ?_
    refine wk_region ?_
    refine wo_v (v_loadA (us := crcTab.map u32v) tyA_222 rfl (by rw [List.drop_zero]; exact List.take_of_length_le (Nat.le_of_eq crcTab_len)) (by rw [crcTab_len]; rfl)) ?_
    refine wo_w0 (w_store (us := crcTab.map u32v) (vs := List.replicate 256 (.int .u32 0)) tyN_222 rfl rfl (by simp [cellsL]) (allOne_u32 _) (by rw [crcTab_len]; rfl) (Nat.le_of_eq List.length_replicate.symm) (by repeat constructor) ?_)
    rw [List.take_zero, List.nil_append, List.drop_of_length_le (Nat.le_of_eq List.length_replicate), List.append_nil]
    refine wo_nil ?_
    refine wk_ret Tryz.func140 rfl rfl (res_cellA tyA_222 rfl (by repeat constructor) (by rw [crcTab_len]; rfl) res_nil) fun W h => ?_
    refine ⟨(), rfl, trivial, Ent.sat ?_ h⟩
    exact Tail.ent (by repeat constructor)
-- LEFT HOOKS: [['ret', 'exact ⟨(), rfl, trivial, Ent.sat ent_tail h⟩']]


theorem s_crc_all {x : SV} : FnSpec Tryz.prog 141 #[x.v] []
    (fun c : Nat => .func (.func 143) #[] #[.pointer (some ⟨c, 0, none⟩)]) (fun _ => True) (fun c R => blk c [x.v] 104 :: R) := by
  refine fn_spec Tryz.func141 rfl rfl rfl rfl fun G R => ?_
  dsimp only [List.append_eq, List.cons_append, List.nil_append]
  refine wk_seq ?_
  refine wk_region ?_
  refine wo_w (w_box1 rfl rfl fun b1 => ?_)
  refine wo_v (v_assign rfl) ?_
  refine wo_nil ?_
  refine wk_seq ?_
  refine wk_region ?_
  refine wo_v (v_makeFunc rfl rfl) ?_
  refine wo_v (v_assign rfl) ?_
  refine wo_nil ?_
  refine wk_ret Tryz.func141 rfl rfl (res_tmp rfl res_nil) fun W h => ?_
  exact ⟨_, rfl, trivial, h⟩

theorem s_crc_all_1 {c p : Nat} {x : SV} {bs : List UInt8} {T1 T2 : TypeId} {yv : Value} (hm : bs.length ≤ 1048576) (J : List UInt8 → HP)
    (hy : ∀ seen b, seen ++ [b] <+: bs → FvSpec Tryz.prog yv #[.int .u8 (b : UInt8).toNat] [J seen] (fun _ : Unit => .bool true) (fun _ => True) (fun _ R => J (seen ++ [b]) :: R)) :
    FnSpec Tryz.prog 143 #[yv, .pointer (some ⟨c, 0, none⟩)] [J [], blk c [.slice (some ⟨p, 0, none⟩) 1 1] T1, blk p [x.v] T2, pe (bsl x bs)]
    (fun _ : Unit => .tuple #[]) (fun _ => True) (fun _ R => J bs :: R) := by
  refine fn_spec Tryz.func143 rfl rfl rfl rfl fun G R => ?_
  dsimp only [List.append_eq, List.cons_append, List.nil_append]
  refine wk_ro (x := x) (cells := u8s bs) (size := 1) (by repeat constructor) fun hx => ?_
  have hxn : bs.length = x.n := by have := hx.1; simpa using this
  refine wk_seq ?_
  refine wk_region ?_
  refine wo_v (v_load tyS_104 rfl rfl) ?_
  refine wo_v (v_len tyU_104 rfl) ?_
  refine wo_v (v_move rfl) ?_
  refine wo_nil ?_
  refine wk_block ?_
  refine wk_loop (fun i : Nat => i ≤ 1) (fun i => [(0, yv), (7, .slice (some ⟨p, 0, none⟩) 1 1), (8, .int .i64 1), (9, .int .i64 i)]) (fun i => J (if i = 0 then [] else bs) :: blk p [x.v] T2 :: pe (bsl x bs) :: R) (fun i => 1 - i) 0 (Nat.zero_le _) ⟨rfl, rfl, rfl, rfl, trivial⟩ (by refine ent_take ?_; refine ent_take ?_; refine ent_take ?_; exact ent_tail) fun i hi next => ?_
  refine wk_seq ?_
  refine wk_region ?_
  refine wo_v (v_lss rfl rfl) ?_
  refine wo_nil ?_
  refine wk_seq ?_
  refine wk_if rfl (fun hb => ?_) (fun hb => ?_)
  · obtain rfl : i = 0 := by omega
    refine wk_skip ?_
    refine wk_seq ?_
    refine wk_block ?_
    refine wk_seq ?_
    refine wk_region ?_
    refine wo_v (v_indexAddr tyU_104 tyN_45 rfl rfl (by decide) (by decide)) ?_
    refine wo_v (v_load tyS_45 rfl rfl) ?_
    refine wo_v (v_assign rfl) ?_
    refine wo_nil ?_
    refine wk_seq ?_
    refine wk_region ?_
    refine wo_v (v_move rfl) ?_
    refine wo_v (v_len tyU_45 rfl) ?_
    refine wo_v (v_move rfl) ?_
    refine wo_nil ?_
    refine wk_block ?_
    refine wk_loop (fun j : Nat => j ≤ bs.length) (fun j => [(0, yv), (7, .slice (some ⟨p, 0, none⟩) 1 1), (8, .int .i64 1), (9, .int .i64 (0 : Nat)), (13, x.v), (14, .int .i64 x.n), (15, .int .i64 j)]) (fun j => J (bs.take j) :: blk p [x.v] T2 :: pe (bsl x bs) :: R) (fun j => bs.length - j) 0 (Nat.zero_le _) ⟨rfl, rfl, rfl, rfl, rfl, rfl, rfl, trivial⟩ (by refine ent_take ?_; refine ent_take ?_; refine ent_take ?_; exact ent_tail) fun j hj next2 => ?_
    refine wk_seq ?_
    refine wk_region ?_
    refine wo_v (v_lss rfl rfl) ?_
    refine wo_nil ?_
    refine wk_seq ?_
    refine wk_if rfl (fun hc => ?_) (fun hc => ?_)
    · have hlt : j < bs.length := by omega
      have hg : bs[j]? = some bs[j] := List.getElem?_eq_getElem hlt
      have htk : bs.take (j + 1) = bs.take j ++ [bs[j]] := by rw [List.take_succ_eq_append_getElem hlt]
      have hpre : bs.take j ++ [bs[j]] <+: bs := htk ▸ List.take_prefix _ _
      generalize bs[j] = q at hg htk hpre
      refine wk_block' (x := x) (cells := u8s bs) (size := 1) (by repeat constructor) (by omega) fun b o vs T fz ha hv hle => ?_
      refine wk_skip ?_
      refine wk_seq ?_
      refine wk_block ?_
      refine wk_seq ?_
      refine wk_region ?_
      refine wo_v (v_indexAddrS tyU_45 tyN_5 rfl rfl ha (by omega)) ?_
      refine wo_v (v_load tyS_5 rfl (ro_get hv (u8s_get hg))) ?_
      refine wo_v (v_assign rfl) ?_
      refine wo_nil ?_
      refine wk_seq ?_
      refine wk_region ?_
      refine wo_v (v_move rfl) ?_
      refine wo_v (v_move rfl) ?_
      refine wo_w (w_callv rfl (hy (bs.take j) q hpre) rfl (by repeat constructor) ?_)
      rintro ⟨⟩ -
      refine wo_v (v_not rfl) ?_
      refine wo_nil ?_
      refine wk_condF rfl ?_
      refine wk_skip ?_
      refine wk_inBlock ?_
      refine wk_region ?_
      refine wo_v (v_addI rfl rfl) ?_
      refine wo_v (v_move rfl) ?_
      refine wo_nil ?_
      refine (next2 (j + 1) hlt (by omega)).use ⟨rfl, rfl, rfl, rfl, rfl, rfl, rfl, trivial⟩ ?_
      rw [htk]
      exact (by refine ent_take ?_; refine ent_take ?_; refine ent_take ?_; exact ent_tail)
    · refine wk_exit rfl ?_
      refine wk_inBlock ?_
      refine wk_region ?_
      refine wo_v (v_addI rfl rfl) ?_
      refine wo_v (v_move rfl) ?_
      refine wo_nil ?_
      refine (next 1 (Nat.le_refl _) (by omega)).use ⟨rfl, rfl, rfl, rfl, trivial⟩ ?_
      rw [List.take_of_length_le (by omega)]
      exact (by refine ent_take ?_; refine ent_take ?_; refine ent_take ?_; exact ent_tail)
  · refine wk_exit rfl ?_
    refine wk_end Tryz.func143 rfl rfl res_nil fun W h => ?_
    obtain rfl : i = 1 := by omega
    exact ⟨(), rfl, trivial, Ent.sat (by refine ent_take ?_; exact ent_tail) h⟩


def crcStep (n : Nat) (b : UInt8) : Nat := (n / 2 ^ 8) ^^^ crcI 8 (n % 256 ^^^ b.toNat)
theorem crcStep_lt {n : Nat} (h : n < 4294967296) (b : UInt8) : crcStep n b < 4294967296 := by
  have h1 : n % 256 ^^^ b.toNat < 2 ^ 8 := Nat.xor_lt_two_pow (Nat.mod_lt _ (by decide)) b.toNat_lt
  have : crcStep n b < 2 ^ 32 := Nat.xor_lt_two_pow (Nat.lt_of_le_of_lt (Nat.div_le_self _ _) h) (crcI_lt (by omega) 8)
  exact this
def crcRun (bs : List UInt8) : Nat := bs.foldl crcStep 4294967295
theorem crcRun_lt (bs : List UInt8) : crcRun bs < 4294967296 := by
  have key : ∀ (bs : List UInt8) (n : Nat), n < 4294967296 → bs.foldl crcStep n < 4294967296 := by
    intro bs
    induction bs with
    | nil => intro n h; exact h
    | cons b bs ih => intro n h; exact ih _ (crcStep_lt h b)
  exact key bs _ (by decide)
theorem crcRun_snoc (bs : List UInt8) (b : UInt8) : crcRun (bs ++ [b]) = crcStep (crcRun bs) b := by simp [crcRun]
def crcF (bs : List UInt8) : Nat := 4294967295 ^^^ crcRun bs
theorem crcF_lt (bs : List UInt8) : crcF bs < 4294967296 := by
  have : crcF bs < 2 ^ 32 := Nat.xor_lt_two_pow (by decide) (crcRun_lt bs)
  exact this
theorem crcTab_get {i : Nat} (h : i < 256) : (crcTab.map u32v)[0 + i * 1]? = some (.int .u32 (crcI 8 i : Nat)) := by
  simp [crcTab, h, u32v]

def crcJ (LP : HP) (t n : Nat) (seen : List UInt8) : HP := nf (fun _ : Unit => True) fun _ => [LP, blk n [.int .u32 (crcRun seen)] 186, blk t (crcTab.map u32v) 222]

theorem s_crc_more {p : Nat} {x : SV} {bs : List UInt8} {T2 : TypeId} (hm : bs.length ≤ 1048576) : FnSpec Tryz.prog 133 #[.int .u32 0, .slice (some ⟨p, 0, none⟩) 1 1] [blk p [x.v] T2, pe (bsl x bs)]
    (fun _ : Unit => .int .u32 (crcF bs)) (fun _ => True) (fun _ R => R) := by
  refine fn_spec Tryz.func133 rfl rfl rfl rfl fun G R => ?_
  dsimp only [List.append_eq, List.cons_append, List.nil_append]
  refine wk_seq ?_
  refine wk_region ?_
  refine wo_v (v_assign rfl) ?_
  refine wo_nil ?_
  refine wk_seq ?_
  refine wk_region ?_
  refine wo_w (w_call s_crc_Table rfl (by repeat constructor) ?_)
  rintro ⟨⟩ -
  refine wo_w (w_allocA tyZ_222 fun b1 => ?_)
  refine wo_w0 (w_store (us := crcTab.map u32v) (vs := List.replicate 256 (.int .u32 0)) tyN_222 rfl rfl (by simp [cellsL]) (allOne_u32 _) (by rw [crcTab_len]; rfl) (Nat.le_of_eq List.length_replicate.symm) (by repeat constructor) ?_)
  rw [List.take_zero, List.nil_append, List.drop_of_length_le (Nat.le_of_eq List.length_replicate), List.append_nil]
  refine wo_nil ?_
  refine wk_seq ?_
  refine wk_region ?_
  refine wo_v (v_move rfl) ?_
  refine wo_v (v_un_xorU32N (a := 0) rfl) ?_
  refine wo_w (w_alloc1 tyZ_186 rfl fun b2 => ?_)
  refine wo_w0 (w_storeN1 tyN_186 rfl rfl rfl (by repeat constructor) (by repeat constructor) ?_)
  refine wo_nil ?_
  refine wk_seq ?_
  refine wk_seq ?_
  refine wk_region ?_
  refine wo_v (v_move rfl) ?_
  refine wo_w (w_call (s_crc_all (x := ⟨some ⟨p, 0, none⟩, 1, 1⟩)) rfl (by repeat constructor) ?_)
  rintro c -
  refine wo_nil ?_
  refine wk_block ?_
  refine Wk.use (E := [(5, .pointer (some ⟨b1, 0, none⟩)), (6, .pointer (some ⟨b2, 0, none⟩)), (12, .func (.func 143) #[] #[.pointer (some ⟨c, 0, none⟩)])]) (M := blk b1 (crcTab.map u32v) 222 :: blk b2 [.int .u32 (crcRun [])] 186 :: blk c [.slice (some ⟨p, 0, none⟩) 1 1] 104 :: blk p [x.v] T2 :: pe (bsl x bs) :: defH [] :: R) ?_ ⟨rfl, rfl, rfl, trivial⟩ (by refine ent_take ?_; refine ent_take ?_; refine ent_take ?_; refine ent_take ?_; refine ent_take ?_; refine ent_defNil ?_; exact ent_tail)
  refine wk_rangeFunc (rs := []) rfl rfl (by repeat constructor) fun l r => ?_
  generalize hLP : loopH l _ _ _ _ _ _ _ _ r = LP
  have hy : ∀ seen b, seen ++ [b] <+: bs → FvSpec Tryz.prog (.func (.yield l) #[] #[]) #[.int .u8 (b : UInt8).toNat] [crcJ LP b1 b2 seen] (fun _ : Unit => .bool true) (fun _ => True) (fun _ R => crcJ LP b1 b2 (seen ++ [b]) :: R) := by
    intro seen b hpre
    have hlt := crcRun_lt seen
    have hbl := b.toNat_lt
    have hix : crcRun seen % 256 ^^^ b.toNat < 256 := by
      have : crcRun seen % 256 ^^^ b.toNat < 2 ^ 8 := Nat.xor_lt_two_pow (Nat.mod_lt _ (by decide)) hbl
      exact this
    refine FvSpec.nf fun _ _ => ?_
    subst hLP
    refine fv_yield (args := [_]) rfl rfl fun G R => ?_
    dsimp only [List.append_eq, List.cons_append, List.nil_append]
    refine wk_region ?_
    refine wo_v (v_assign rfl) ?_
    refine wo_nil ?_
    refine wk_beginRound rfl (by repeat constructor) ?_
    refine wk_block ?_
    refine wk_draw (n := 10) (pend := 1023) ⟨10, fun _ => True⟩ mixed (by kernel_rfl) rfl (fun _ _ => trivial) rfl ?_
    refine wd_a 0 rfl (v_load tyS_186 rfl rfl) ?_
    refine wd_a 1 rfl (v_shrU32N (b := 8) rfl rfl) ?_
    refine wd_a 2 rfl (v_load tyS_186 rfl rfl) ?_
    refine wd_a 3 rfl (v_convN tyU_5 tyU_186 rfl wrapN_u8) ?_
    refine wd_a 4 rfl (v_move rfl) ?_
    refine wd_a 5 rfl (v_xorU8N rfl rfl) ?_
    refine wd_a 6 rfl (v_indexAddrA tyU_222 tyN_186 rfl rfl) ?_
    refine wd_a 7 rfl (v_load tyS_186 rfl (by rw [Int.toNat_natCast]; exact crcTab_get hix)) ?_
    refine wd_a 8 rfl (v_xorU32N rfl rfl (Nat.lt_of_le_of_lt (Nat.div_le_self _ _) hlt) (crcI_lt (by omega) 8)) ?_
    refine wd_l0 9 rfl (w_storeN1 tyN_186 rfl rfl rfl (by repeat constructor) (by repeat constructor) ?_)
    refine ⟨fun _ _ _ => trivial, ?_⟩
    refine wd_done ?_
    refine wk_inBlock ?_
    refine wk_roundEnd rfl (by repeat constructor) fun W h => ?_
    refine ⟨(), rfl, trivial, Ent.sat ?_ h⟩
    unfold crcJ
    rw [crcRun_snoc]
    refine ent_nf () trivial ?_
    exact ent_tail
  refine callw_ent (M := crcJ LP b1 b2 [] :: _) (ent_nf () trivial (Ent.refl _)) ?_
  refine callw_spec (FnSpec.fv (first := #[]) (args := #[_]) (cap := #[_]) (s_crc_all_1 hm (crcJ LP b1 b2) hy)) (by repeat constructor) fun y _ => ?_
  refine wk_nf fun _ _ => ?_
  subst hLP
  dsimp only [List.append_eq, List.cons_append, List.nil_append]
  have hlt := crcRun_lt bs
  refine wk_endRange (by repeat constructor) (by simp) ?_
  dsimp only [Option.map, Option.toList, List.nil_append]
  refine wk_inBlock ?_
  refine wk_seq ?_
  refine wk_region ?_
  refine wo_v (v_load tyS_186 rfl rfl) ?_
  refine wo_v (v_un_xorU32N rfl) ?_
  refine wo_v (v_assign rfl) ?_
  refine wo_nil ?_
  refine wk_retD Tryz.func133 rfl rfl (by repeat constructor) (res_tmp rfl res_nil) fun W h => ?_
  exact ⟨(), rfl, trivial, Ent.sat ent_tail h⟩

theorem s_crc_Add {x : SV} {bs : List UInt8} (hm : bs.length ≤ 1048576) : FnSpec Tryz.prog 121 #[.int .u32 0, x.v] [pe (bsl x bs)]
    (fun _ : Unit => .int .u32 (crcF bs)) (fun _ => True) (fun _ R => R) := by
  refine fn_spec Tryz.func121 rfl rfl rfl rfl fun G R => ?_
  dsimp only [List.append_eq, List.cons_append, List.nil_append]
  refine wk_seq ?_
  refine wk_region ?_
  refine wo_v (v_assign rfl) ?_
  refine wo_nil ?_
  refine wk_seq ?_
  refine wk_region ?_
  refine wo_v (v_move rfl) ?_
  refine wo_v (v_move rfl) ?_
  refine wo_w (w_buildSlice1 tyU_104 tyN_45 tyZ_45 rfl rfl rfl rfl fun b1 => ?_)
  refine wo_w (w_call (s_crc_more (x := x) (bs := bs) hm) rfl (by repeat constructor) ?_)
  rintro ⟨⟩ -
  refine wo_v (v_assign rfl) ?_
  refine wo_nil ?_
  refine wk_ret Tryz.func121 rfl rfl (res_tmp rfl res_nil) fun W h => ?_
  exact ⟨(), rfl, trivial, Ent.sat ent_tail h⟩
theorem s_crc_Sum {x : SV} {bs : List UInt8} (hm : bs.length ≤ 1048576) : FnSpec Tryz.prog 104 #[x.v] [pe (bsl x bs)]
    (fun _ : Unit => .int .u32 (crcF bs)) (fun _ => True) (fun _ R => R) := by
  refine fn_spec Tryz.func104 rfl rfl rfl rfl fun G R => ?_
  dsimp only [List.append_eq, List.cons_append, List.nil_append]
  refine wk_seq ?_
  refine wk_region ?_
  refine wo_v (v_assign rfl) ?_
  refine wo_nil ?_
  refine wk_seq ?_
  refine wk_region ?_
  refine wo_v (v_move rfl) ?_
  refine wo_w (w_call (s_crc_Add (x := x) (bs := bs) hm) rfl (by repeat constructor) ?_)
  rintro ⟨⟩ -
  refine wo_v (v_assign rfl) ?_
  refine wo_nil ?_
  refine wk_ret Tryz.func104 rfl rfl (res_tmp rfl res_nil) fun W h => ?_
  exact ⟨(), rfl, trivial, Ent.sat ent_tail h⟩

end Go.Proofs.YtealmijbkebipaaGreatDoor

namespace Go.Proofs.YtealmijbkebipaaGreatDoor
open Go
attribute [local irreducible] own pe nf

theorem s_bytes_Equal {x y : SV} {cs bs : List UInt8} : FnSpec Tryz.prog 111 #[x.v, y.v] [pe (bsl x cs), pe (bsl y bs)]
    (fun _ : Unit => .bool (decide (cs = bs))) (fun _ => True) (fun _ R => R) := by
  refine fn_spec Tryz.func111 rfl rfl rfl rfl fun G R => ?_
  dsimp only [List.append_eq, List.cons_append, List.nil_append]
  refine wk_seq ?_
  refine wk_region ?_
  refine wo_v (v_assign rfl) ?_
  refine wo_nil ?_
  refine wk_seq ?_
  refine wk_region ?_
  refine wo_v (v_move rfl) ?_
  refine wo_v (v_str tyU_45 tyU_5 tyU_9 rfl src_ro) ?_
  refine wo_v (v_move rfl) ?_
  refine wo_v (v_str tyU_45 tyU_5 tyU_9 rfl src_ro) ?_
  refine wo_v (v_eqS rfl rfl) ?_
  refine wo_v (v_assign rfl) ?_
  refine wo_nil ?_
  refine wk_ret Tryz.func111 rfl rfl (res_tmp rfl res_nil) fun W h => ?_
  exact ⟨(), rfl, trivial, Ent.sat ent_tail h⟩

theorem s_leaf_may {n : Nat} : FnSpec Tryz.prog 78 #[.int .i64 n] []
    (fun _ : Unit => .bool (decide (96 ≤ n ∧ n ≤ 512))) (fun _ => True) (fun _ R => R) := by
  refine fn_spec Tryz.func78 rfl rfl rfl rfl fun G R => ?_
  dsimp only [List.append_eq, List.cons_append, List.nil_append]
  refine wk_seq ?_
  refine wk_region ?_
  refine wo_v (v_assign rfl) ?_
  refine wo_nil ?_
  refine wk_seq ?_
  refine wk_region ?_
  refine wo_v (v_move rfl) ?_
  refine wo_v (v_geq rfl rfl) ?_
  refine wo_v (v_move rfl) ?_
  refine wo_if (t := 5) rfl (fun hb => ?_) (fun hb => ?_)
  · refine wo_gv (v_move rfl) ?_
    refine wo_gv (v_leq rfl rfl) ?_
    refine wo_v (v_pickT rfl rfl) ?_
    refine wo_v (v_assign rfl) ?_
    refine wo_nil ?_
    refine wk_ret Tryz.func78 rfl rfl (res_tmp rfl res_nil) fun W h => ?_
    refine ⟨(), ?_, trivial, h⟩
    have : decide (96 ≤ n ∧ n ≤ 512) = decide ((n : Int) ≤ (512 : Int)) := by rw [decide_eq_decide]; omega
    rw [this]; rfl
  · refine wo_gF ?_
    refine wo_gF ?_
    refine wo_v (v_pickF rfl rfl) ?_
    refine wo_v (v_assign rfl) ?_
    refine wo_nil ?_
    refine wk_ret Tryz.func78 rfl rfl (res_tmp rfl res_nil) fun W h => ?_
    refine ⟨(), ?_, trivial, h⟩
    have : decide (96 ≤ n ∧ n ≤ 512) = false := by rw [decide_eq_false_iff_not]; omega
    rw [this]; rfl

theorem s_leaf_Room {n : Nat} (h1 : 96 ≤ n) (h2 : n ≤ 512) : FnSpec Tryz.prog 43 #[.int .i64 n] []
    (fun _ : Unit => .int .i64 (n - 19 : Nat)) (fun _ => True) (fun _ R => R) := by
  refine fn_spec Tryz.func43 rfl rfl rfl rfl fun G R => ?_
  dsimp only [List.append_eq, List.cons_append, List.nil_append]
  refine wk_seq ?_
  refine wk_region ?_
  refine wo_v (v_assign rfl) ?_
  refine wo_nil ?_
  refine wk_seq ?_
  refine wk_seq ?_
  refine wk_region ?_
  refine wo_v (v_move rfl) ?_
  refine wo_w (w_call s_leaf_may rfl (by repeat constructor) ?_)
  rintro ⟨⟩ -
  refine wo_v (v_not rfl) ?_
  refine wo_nil ?_
  refine wk_if rfl (fun hb => ?_) (fun hb => ?_)
  · exact absurd (⟨h1, h2⟩ : 96 ≤ n ∧ n ≤ 512) hb
  · refine wk_skip ?_
    refine wk_seq ?_
    refine wk_region ?_
    refine wo_v (v_move rfl) ?_
    refine wo_v (v_subI rfl rfl) ?_
    refine wo_v (v_assign rfl) ?_
    refine wo_nil ?_
    refine wk_ret Tryz.func43 rfl rfl (res_tmp rfl res_nil) fun W h => ?_
    refine ⟨(), ?_, trivial, h⟩
    show Value.int .i64 ((n : Int) - 19) = _
    rw [show ((n : Int) - 19) = ((n - 19 : Nat) : Int) from by omega]


/-- A leaf. -/
structure LeafA where
  kind : Int
  place : Int
  stamp : Int
  load : List UInt8
abbrev leafV (x : LeafA) (sv : SV) : Value := .agg [.int .i64 x.kind, .int .i64 x.place, .int .i64 x.stamp, sv.v].toArray
def LeafA.bad (x : LeafA) : Prop := x.kind < 1 ∨ x.kind > 4 ∨ x.place < 0 ∨ x.place > 2147483647 ∨ x.stamp < 0
instance (x : LeafA) : Decidable x.bad := inferInstanceAs (Decidable (_ ∨ _))
def LeafA.right (x : LeafA) (n : Nat) : Nat := if x.bad then 1 else if x.load.length > n - 19 then 9 else 0

theorem s_leaf_Leaf_right {x : LeafA} {sv : SV} {n : Nat} (h1 : 96 ≤ n) (h2 : n ≤ 512) (hs : sv.n = x.load.length) : FnSpec Tryz.prog 100 #[leafV x sv, .int .i64 n] []
    (fun _ : Unit => .int .i64 (x.right n)) (fun _ => True) (fun _ R => R) := by
  refine fn_spec Tryz.func100 rfl rfl rfl rfl fun G R => ?_
  dsimp only [List.append_eq, List.cons_append, List.nil_append]
  refine wk_seq ?_
  refine wk_region ?_
  refine wo_w (w_boxA rfl fun b1 => ?_)
  refine wo_v (v_assign rfl) ?_
  refine wo_nil ?_
  refine wk_seq ?_
  refine wk_block ?_
  refine wk_seq ?_
  refine wk_region ?_
  refine wo_v (v_move rfl) ?_
  refine wo_w (w_call s_leaf_may rfl (by repeat constructor) ?_)
  rintro ⟨⟩ -
  refine wo_v (v_not rfl) ?_
  refine wo_v (v_assign rfl) ?_
  refine wo_nil ?_
  refine wk_if rfl (fun hb => ?_) (fun hb => ?_)
  · exact absurd (⟨h1, h2⟩ : 96 ≤ n ∧ n ≤ 512) hb
  · refine wk_seq ?_
    refine wk_region ?_
    refine wo_v (v_fieldAddr tyF_122_0 rfl) ?_
    refine wo_v (v_load tyS_3 rfl rfl) ?_
    refine wo_v (v_lss rfl rfl) ?_
    refine wo_v (v_move rfl) ?_
    refine wo_if (t := 13) rfl (fun k1 => ?_) (fun k1 => ?_)
    · refine wo_gF ?_
      refine wo_gF ?_
      refine wo_gF ?_
      refine wo_v (v_pickT rfl rfl) ?_
      refine wo_v (v_move rfl) ?_
      refine wo_gF ?_
      refine wo_gF ?_
      refine wo_gF ?_
      refine wo_v (v_pickT rfl rfl) ?_
      refine wo_v (v_move rfl) ?_
      refine wo_gF ?_
      refine wo_gF ?_
      refine wo_gF ?_
      refine wo_v (v_pickT rfl rfl) ?_
      refine wo_v (v_move rfl) ?_
      refine wo_gF ?_
      refine wo_gF ?_
      refine wo_gF ?_
      refine wo_v (v_pickT rfl rfl) ?_
      refine wo_v (v_assign rfl) ?_
      refine wo_nil ?_
      refine wk_condT rfl ?_
      refine wk_seq ?_
      refine wk_region ?_
      refine wo_v (v_assign rfl) ?_
      refine wo_nil ?_
      refine wk_ret Tryz.func100 rfl rfl (res_tmp rfl res_nil) fun W h => ?_
      rw [show x.right n = 1 from if_pos (.inl k1)]
      exact ⟨(), rfl, trivial, Ent.sat ent_tail h⟩
    · refine wo_gv (v_fieldAddr tyF_122_0 rfl) ?_
      refine wo_gv (v_load tyS_3 rfl rfl) ?_
      refine wo_gv (v_gtr rfl rfl) ?_
      refine wo_v (v_pickF rfl rfl) ?_
      refine wo_v (v_move rfl) ?_
      refine wo_if (t := 18) rfl (fun k2 => ?_) (fun k2 => ?_)
      · refine wo_gF ?_
        refine wo_gF ?_
        refine wo_gF ?_
        refine wo_v (v_pickT rfl rfl) ?_
        refine wo_v (v_move rfl) ?_
        refine wo_gF ?_
        refine wo_gF ?_
        refine wo_gF ?_
        refine wo_v (v_pickT rfl rfl) ?_
        refine wo_v (v_move rfl) ?_
        refine wo_gF ?_
        refine wo_gF ?_
        refine wo_gF ?_
        refine wo_v (v_pickT rfl rfl) ?_
        refine wo_v (v_assign rfl) ?_
        refine wo_nil ?_
        refine wk_condT rfl ?_
        refine wk_seq ?_
        refine wk_region ?_
        refine wo_v (v_assign rfl) ?_
        refine wo_nil ?_
        refine wk_ret Tryz.func100 rfl rfl (res_tmp rfl res_nil) fun W h => ?_
        rw [show x.right n = 1 from if_pos (.inr (.inl k2))]
        exact ⟨(), rfl, trivial, Ent.sat ent_tail h⟩
      · refine wo_gv (v_fieldAddr tyF_122_1 rfl) ?_
        refine wo_gv (v_load tyS_3 rfl rfl) ?_
        refine wo_gv (v_lss rfl rfl) ?_
        refine wo_v (v_pickF rfl rfl) ?_
        refine wo_v (v_move rfl) ?_
        refine wo_if (t := 23) rfl (fun k3 => ?_) (fun k3 => ?_)
        · refine wo_gF ?_
          refine wo_gF ?_
          refine wo_gF ?_
          refine wo_v (v_pickT rfl rfl) ?_
          refine wo_v (v_move rfl) ?_
          refine wo_gF ?_
          refine wo_gF ?_
          refine wo_gF ?_
          refine wo_v (v_pickT rfl rfl) ?_
          refine wo_v (v_assign rfl) ?_
          refine wo_nil ?_
          refine wk_condT rfl ?_
          refine wk_seq ?_
          refine wk_region ?_
          refine wo_v (v_assign rfl) ?_
          refine wo_nil ?_
          refine wk_ret Tryz.func100 rfl rfl (res_tmp rfl res_nil) fun W h => ?_
          rw [show x.right n = 1 from if_pos (.inr (.inr (.inl k3)))]
          exact ⟨(), rfl, trivial, Ent.sat ent_tail h⟩
        · refine wo_gv (v_fieldAddr tyF_122_1 rfl) ?_
          refine wo_gv (v_load tyS_3 rfl rfl) ?_
          refine wo_gv (v_gtr rfl rfl) ?_
          refine wo_v (v_pickF rfl rfl) ?_
          refine wo_v (v_move rfl) ?_
          refine wo_if (t := 28) rfl (fun k4 => ?_) (fun k4 => ?_)
          · refine wo_gF ?_
            refine wo_gF ?_
            refine wo_gF ?_
            refine wo_v (v_pickT rfl rfl) ?_
            refine wo_v (v_assign rfl) ?_
            refine wo_nil ?_
            refine wk_condT rfl ?_
            refine wk_seq ?_
            refine wk_region ?_
            refine wo_v (v_assign rfl) ?_
            refine wo_nil ?_
            refine wk_ret Tryz.func100 rfl rfl (res_tmp rfl res_nil) fun W h => ?_
            rw [show x.right n = 1 from if_pos (.inr (.inr (.inr (.inl k4))))]
            exact ⟨(), rfl, trivial, Ent.sat ent_tail h⟩
          · refine wo_gv (v_fieldAddr tyF_122_2 rfl) ?_
            refine wo_gv (v_load tyS_3 rfl rfl) ?_
            refine wo_gv (v_lss rfl rfl) ?_
            refine wo_v (v_pickF rfl rfl) ?_
            refine wo_v (v_assign rfl) ?_
            refine wo_nil ?_
            refine wk_if rfl (fun k5 => ?_) (fun k5 => ?_)
            · refine wk_seq ?_
              refine wk_region ?_
              refine wo_v (v_assign rfl) ?_
              refine wo_nil ?_
              refine wk_ret Tryz.func100 rfl rfl (res_tmp rfl res_nil) fun W h => ?_
              rw [show x.right n = 1 from if_pos (.inr (.inr (.inr (.inr k5))))]
              exact ⟨(), rfl, trivial, Ent.sat ent_tail h⟩
            · have hnb : ¬ x.bad := by rintro (h | h | h | h | h) <;> contradiction
              refine wk_seq ?_
              refine wk_draw (n := 7) (pend := 127) ⟨6, fun w => w.cell? ⟨b1, 3, none⟩ = some (sv.v)⟩ mixed (by kernel_rfl) rfl (fun w s => HasC.cell (b := b1) (by repeat constructor) s 3) rfl ?_
              refine wd_a 3 rfl (v_move rfl) ?_
              refine wd_p 0 rfl (v_fieldAddr tyF_122_3 rfl) ?_
              refine wd_ld 1 rfl tyS_45 rfl (fun w h => h) ?_
              refine wd_p 2 rfl (v_len tyU_45 rfl) ?_
              refine wd_l 4 rfl (w_call (s_leaf_Room h1 h2) rfl (by repeat constructor) ?_)
              rintro ⟨⟩ -
              refine ⟨fun w s _ => HasC.cell (b := b1) (by repeat constructor) s 3, ?_⟩
              refine wd_a 5 rfl (v_gtr rfl rfl) ?_
              refine wd_al 6 rfl (v_assign rfl) ?_
              refine wd_done ?_
              refine wk_if rfl (fun k6 => ?_) (fun k6 => ?_)
              · refine wk_seq ?_
                refine wk_region ?_
                refine wo_v (v_assign rfl) ?_
                refine wo_nil ?_
                refine wk_ret Tryz.func100 rfl rfl (res_tmp rfl res_nil) fun W h => ?_
                rw [show x.right n = 9 from by rw [LeafA.right, if_neg hnb, if_pos (by omega)]]
                exact ⟨(), rfl, trivial, Ent.sat ent_tail h⟩
              · refine wk_skip ?_
                refine wk_inBlock ?_
                refine wk_seq ?_
                refine wk_region ?_
                refine wo_v (v_assign rfl) ?_
                refine wo_nil ?_
                refine wk_ret Tryz.func100 rfl rfl (res_tmp rfl res_nil) fun W h => ?_
                rw [show x.right n = 0 from by rw [LeafA.right, if_neg hnb, if_neg (by omega)]]
                exact ⟨(), rfl, trivial, Ent.sat ent_tail h⟩

end Go.Proofs.YtealmijbkebipaaGreatDoor

namespace Go.Proofs.YtealmijbkebipaaGreatDoor
open Go
attribute [local irreducible] own pe nf

/-- A leaf's bytes ahead of the sum. -/
def LeafA.body (x : LeafA) (n : Nat) : List UInt8 :=
  ((((([] ++ numB x.kind.toNat 1) ++ numB x.load.length 2) ++ numB x.place.toNat 4) ++ numB x.stamp.toNat 8) ++ x.load) ++ List.replicate (n - 19 - x.load.length) 0
def LeafA.bytes (x : LeafA) (n : Nat) : List UInt8 := x.body n ++ numB (crcF (x.body n)) 4
theorem LeafA.body_length {x : LeafA} {n : Nat} (h : x.load.length ≤ n - 19) (h1 : 96 ≤ n) : (x.body n).length = n - 4 := by
  simp [LeafA.body]; omega
theorem LeafA.bytes_length {x : LeafA} {n : Nat} (h : x.load.length ≤ n - 19) (h1 : 96 ≤ n) : (x.bytes n).length = n := by
  rw [LeafA.bytes, List.length_append, LeafA.body_length h h1, numB_length]; omega
/-- What a build gives. -/
def LeafA.built (x : LeafA) (n : Nat) : List UInt8 := if x.right n = 0 then x.bytes n else []

theorem LeafA.right_zero {x : LeafA} {n : Nat} (h : x.right n = 0) : ¬ x.bad ∧ x.load.length ≤ n - 19 := by
  unfold LeafA.right at h
  split at h
  · cases h
  · rename_i hb
    split at h
    · cases h
    · exact ⟨hb, by omega⟩

theorem s_leaf_Build {x : LeafA} {sv : SV} {n : Nat} (h1 : 96 ≤ n) (h2 : n ≤ 512) (hl : x.load.length ≤ 1048576) (hst : x.stamp ≤ 9223372036854775807) : FnSpec Tryz.prog 80 #[.int .i64 n, leafV x sv] [pe (bsl sv x.load)]
    (fun y : SV => .tuple #[y.v, .int .i64 (x.right n)]) (fun y => y.n = (x.built n).length) (fun y R => pe (bsl y (x.built n)) :: R) := by
  refine fn_spec Tryz.func80 rfl rfl rfl rfl fun G R => ?_
  dsimp only [List.append_eq, List.cons_append, List.nil_append]
  refine wk_ro (x := sv) (cells := u8s x.load) (size := 1) (by repeat constructor) fun hx => ?_
  have hsn : sv.n = x.load.length := by have := hx.1; simpa using this.symm
  refine wk_seq ?_
  refine wk_region ?_
  refine wo_w (w_boxA rfl fun b1 => ?_)
  refine wo_v (v_assign rfl) ?_
  refine wo_v (v_assign rfl) ?_
  refine wo_nil ?_
  refine wk_seq ?_
  refine wk_seq ?_
  refine wk_region ?_
  refine wo_v (v_loadN tyA_122 rfl (by repeat constructor) (by repeat constructor)) ?_
  refine wo_v (v_move rfl) ?_
  refine wo_w (w_call (s_leaf_Leaf_right (x := x) (sv := sv) h1 h2 hsn) rfl (by repeat constructor) ?_)
  rintro ⟨⟩ -
  refine wo_v (v_assign rfl) ?_
  refine wo_nil ?_
  refine wk_seq ?_
  refine wk_region ?_
  refine wo_v (v_move rfl) ?_
  refine wo_v (v_neq rfl rfl) ?_
  refine wo_nil ?_
  refine wk_if rfl (fun hb => ?_) (fun hb => ?_)
  · refine wk_seq ?_
    refine wk_region ?_
    refine wo_v (v_move rfl) ?_
    refine wo_v (v_assign rfl) ?_
    refine wo_v (v_assign rfl) ?_
    refine wo_nil ?_
    refine wk_ret Tryz.func80 rfl rfl (res_tmp rfl (res_tmp rfl res_nil)) fun W h => ?_
    have hr : x.built n = [] := if_neg (by omega)
    rw [hr]
    exact ⟨nilSV, rfl, rfl, Ent.sat (ent_roNil rfl ent_tail) h⟩
  · have hr0 : x.right n = 0 := by omega
    obtain ⟨hnb, hle⟩ := LeafA.right_zero hr0
    have hpos : 1 ≤ x.kind ∧ x.kind ≤ 4 ∧ 0 ≤ x.place ∧ x.place ≤ 2147483647 ∧ 0 ≤ x.stamp := by unfold LeafA.bad at hnb; omega
    have hbu : x.built n = x.bytes n := if_pos hr0
    rw [hbu]
    have hcl := crcF_lt (x.body n)
    have hbl := LeafA.body_length hle h1
    obtain ⟨k, hk⟩ := Int.eq_ofNat_of_zero_le (a := x.kind) (by omega)
    obtain ⟨p, hp⟩ := Int.eq_ofNat_of_zero_le (a := x.place) (by omega)
    obtain ⟨q, hq⟩ := Int.eq_ofNat_of_zero_le (a := x.stamp) (by omega)
    have hbody : (((((([] ++ numB k 1) ++ numB sv.n 2) ++ numB p 4) ++ numB q 8) ++ x.load) ++ List.replicate (n - 19 - x.load.length) 0) = x.body n := by
      unfold LeafA.body; rw [hk, hp, hq, hsn]; rfl
    have hkb : k ≤ 4 := by omega
    have hpb : p ≤ 2147483647 := by omega
    have hqb : q ≤ 9223372036854775807 := by omega
    refine wk_skip ?_
    refine wk_seq ?_
    refine wk_region ?_
    refine wo_v (v_move rfl) ?_
    refine wo_w (w_call s_wire_NewWriter rfl (by repeat constructor) ?_)
    rintro w -
    rw [hk, hp, hq]
    refine wo_v (v_assign rfl) ?_
    refine wo_nil ?_
    refine wk_seq ?_
    refine wk_region ?_
    refine wo_v (v_move rfl) ?_
    refine wo_v (v_fieldAddr tyF_122_0 rfl) ?_
    refine wo_v (v_load tyS_3 rfl rfl) ?_
    refine wo_v (v_convN tyU_33 tyU_3 rfl (wrapN_u64 (by omega))) ?_
    refine wo_w (w_call (s_wire_Writer_Number (bs := []) (limit := n) (n := k) (k := 1) (by simp; omega) (by omega) (by omega) (by simp)) rfl (by repeat constructor) ?_)
    rintro ⟨⟩ -
    refine wo_nil ?_
    refine wk_seq ?_
    refine wk_region ?_
    refine wo_v (v_move rfl) ?_
    refine wo_v (v_fieldAddr tyF_122_3 rfl) ?_
    refine wo_v (v_load tyS_45 rfl rfl) ?_
    refine wo_v (v_len tyU_45 rfl) ?_
    refine wo_v (v_convN tyU_33 tyU_3 rfl (wrapN_u64 (by omega))) ?_
    refine wo_w (w_call (s_wire_Writer_Number (bs := ([] ++ numB k 1)) (limit := n) (n := sv.n) (k := 2) (by simp; omega) (by omega) (by omega) (by simp)) rfl (by repeat constructor) ?_)
    rintro ⟨⟩ -
    refine wo_nil ?_
    refine wk_seq ?_
    refine wk_region ?_
    refine wo_v (v_move rfl) ?_
    refine wo_v (v_fieldAddr tyF_122_1 rfl) ?_
    refine wo_v (v_load tyS_3 rfl rfl) ?_
    refine wo_v (v_convN tyU_33 tyU_3 rfl (wrapN_u64 (by omega))) ?_
    refine wo_w (w_call (s_wire_Writer_Number (bs := (([] ++ numB k 1) ++ numB sv.n 2)) (limit := n) (n := p) (k := 4) (by simp; omega) (by omega) (by omega) (by simp)) rfl (by repeat constructor) ?_)
    rintro ⟨⟩ -
    refine wo_nil ?_
    refine wk_seq ?_
    refine wk_region ?_
    refine wo_v (v_move rfl) ?_
    refine wo_v (v_fieldAddr tyF_122_2 rfl) ?_
    refine wo_v (v_load tyS_3 rfl rfl) ?_
    refine wo_v (v_convN tyU_33 tyU_3 rfl (wrapN_u64 (by omega))) ?_
    refine wo_w (w_call (s_wire_Writer_Number (bs := ((([] ++ numB k 1) ++ numB sv.n 2) ++ numB p 4)) (limit := n) (n := q) (k := 8) (by simp; omega) (by omega) (by omega) (by simp)) rfl (by repeat constructor) ?_)
    rintro ⟨⟩ -
    refine wo_nil ?_
    refine wk_seq ?_
    refine wk_region ?_
    refine wo_v (v_move rfl) ?_
    refine wo_v (v_fieldAddr tyF_122_3 rfl) ?_
    refine wo_v (v_load tyS_45 rfl rfl) ?_
    refine wo_w (w_call (s_wire_Writer_Raw (x := sv) (cs := x.load) (bs := (((([] ++ numB k 1) ++ numB sv.n 2) ++ numB p 4) ++ numB q 8)) (limit := n) (by simp; omega) (by omega)) rfl (by repeat constructor) ?_)
    rintro ⟨⟩ -
    refine wo_nil ?_
    refine wk_seq ?_
    refine wk_draw (n := 9) (pend := 511) ⟨8, fun w => w.cell? ⟨b1, 3, none⟩ = some (sv.v)⟩ mixed (by kernel_rfl) rfl (fun w s => HasC.cell (b := b1) (by repeat constructor) s 3) rfl ?_
    refine wd_a 1 rfl (v_move rfl) ?_
    refine wd_p 0 rfl (v_move rfl) ?_
    refine wd_p 3 rfl (v_fieldAddr tyF_122_3 rfl) ?_
    refine wd_ld 4 rfl tyS_45 rfl (fun w h => h) ?_
    refine wd_p 5 rfl (v_len tyU_45 rfl) ?_
    refine wd_l 2 rfl (w_call (s_leaf_Room h1 h2) rfl (by repeat constructor) ?_)
    rintro ⟨⟩ -
    refine ⟨fun w s _ => HasC.cell (b := b1) (by repeat constructor) s 3, ?_⟩
    refine wd_a 6 rfl (v_subI rfl rfl) ?_
    refine wd_l 7 rfl (w_makeSliceN tyU_45 tyB_5 tyN_5 tyZ_5 rfl rfl rfl (show _ = ((n - 19 - x.load.length : Nat) : Int) by omega) (by omega) (by omega) fun b2 => ?_)
    refine ⟨fun w s _ => HasC.cell (b := b1) (by repeat constructor) s 3, ?_⟩
    refine wd_up up_freeze0 ?_
    refine wd_l 8 rfl (w_call (s_wire_Writer_Raw (x := ⟨some ⟨b2, 0, none⟩, n - 19 - x.load.length, n - 19 - x.load.length⟩) (cs := List.replicate (n - 19 - x.load.length) 0) (bs := ((((([] ++ numB k 1) ++ numB sv.n 2) ++ numB p 4) ++ numB q 8) ++ x.load)) (limit := n) (by simp; omega) (by omega)) rfl (by repeat constructor) ?_)
    rintro ⟨⟩ -
    refine ⟨fun w s => Wat.gone (by decide), ?_⟩
    rw [hbody]
    refine wd_done ?_
    refine wk_seq ?_
    refine wk_region ?_
    refine wo_v (v_move rfl) ?_
    refine wo_v (v_move rfl) ?_
    refine wo_w (w_call (s_wire_Writer_Bytes (bs := x.body n) (by omega)) rfl (by repeat constructor) ?_)
    rintro y hy
    refine wo_w (w_call (s_crc_Sum (x := y) (bs := x.body n) (by omega)) rfl (by repeat constructor) ?_)
    rintro ⟨⟩ -
    refine wo_v (v_convN tyU_33 tyU_186 rfl (wrapN_u64 (by omega))) ?_
    refine wo_w (w_call (s_wire_Writer_Number (bs := x.body n) (limit := n) (n := crcF (x.body n)) (k := 4) (by omega) (by omega) (by omega) (by simp)) rfl (by repeat constructor) ?_)
    rintro ⟨⟩ -
    refine wo_nil ?_
    refine wk_seq ?_
    refine wk_region ?_
    refine wo_v (v_move rfl) ?_
    refine wo_w (w_call (s_wire_Writer_Bytes (bs := x.bytes n) (limit := n) (by rw [LeafA.bytes_length hle h1]; omega)) rfl (by repeat constructor) ?_)
    rintro z hz
    refine wo_v (v_assign rfl) ?_
    refine wo_v (v_assign rfl) ?_
    refine wo_nil ?_
    refine wk_ret Tryz.func80 rfl rfl (res_tmp rfl (res_tmp rfl res_nil)) fun W h => ?_
    rw [hr0]
    exact ⟨z, rfl, hz, Ent.sat (by refine ent_take ?_; exact ent_tail) h⟩

end Go.Proofs.YtealmijbkebipaaGreatDoor
