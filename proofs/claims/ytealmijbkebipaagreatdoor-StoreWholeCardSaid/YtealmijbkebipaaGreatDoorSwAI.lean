/- Layer 5 (leaf): Read. Owned slices, opened. Rows of pairs by number; many assertions in one. Layer 4 (flash): the device, its plain parts. Layer 4 (flash): Arm, New, kept. Layer 4 (flash): going backward, Read. -/
import Derived.Test.YtealmijbkebipaaGreatDoorSwAH
import Derived.Test.YtealmijbkebipaaGreatDoorSwAF
import Derived.Test.YtealmijbkebipaaGreatDoorSwAD
namespace Go.Proofs.YtealmijbkebipaaGreatDoor
open Go
attribute [local irreducible] own pe nf

/-- What stands in a sector's bytes, right or not. -/
def leafIn (sec : List UInt8) : LeafA :=
  ⟨valB (rawOf sec 1), valB (rawOf (rawLeft (rawLeft sec 1) 2) 4), IntKind.i64.wrap (valB (rawOf (rawLeft (rawLeft (rawLeft sec 1) 2) 4) 8)),
    rawOf (rawLeft (rawLeft (rawLeft (rawLeft sec 1) 2) 4) 8) (valB (rawOf (rawLeft sec 1) 2))⟩
def leafShort (sec : List UInt8) : Prop := (rawLeft (rawLeft (rawLeft (rawLeft sec 1) 2) 4) 8).length < valB (rawOf (rawLeft sec 1) 2)
instance (sec : List UInt8) : Decidable (leafShort sec) := inferInstanceAs (Decidable (_ < _))
/-- What is read of a sector. -/
def readL (sec : List UInt8) : Option LeafA :=
  if leafShort sec then none else if (leafIn sec).right sec.length = 0 ∧ (leafIn sec).bytes sec.length = sec then some (leafIn sec) else none
def readV (o : Option LeafA) (sv : SV) : Value := match o with
  | some x => leafV x sv
  | none => leafV ⟨0, 0, 0, []⟩ nilSV
def readE (o : Option LeafA) : Nat := match o with
  | some _ => 0
  | none => 5
def readB (o : Option LeafA) : List UInt8 := match o with
  | some x => x.load
  | none => []

theorem rdFlag {bs : List UInt8} {k : Nat} (h : k ≤ bs.length) : (false || decide (bs.length < k)) = false := by simp; omega
theorem valB_raw (bs : List UInt8) (k : Nat) : valB (rawOf bs k) < 256 ^ k := Nat.lt_of_lt_of_le (valB_lt _) (Nat.pow_le_pow_right (by decide) (rawOf_length bs k))
theorem rawLeft_len {bs : List UInt8} {k : Nat} (h : k ≤ bs.length) : (rawLeft bs k).length = bs.length - k := by rw [rawLeft, if_pos h, List.length_drop]
theorem rawOf_le (bs : List UInt8) (n : Nat) : (rawOf bs n).length ≤ bs.length := by
  unfold rawOf; split
  · rw [List.length_take]; omega
  · simp
theorem wrap_le (a : Int) : IntKind.i64.wrap a ≤ 9223372036854775807 := by
  have e : (2 : Int) ^ (IntKind.i64.bits) = 18446744073709551616 := by rfl
  have e' : (2 : Int) ^ (IntKind.i64.bits - 1) = 9223372036854775808 := by rfl
  simp only [IntKind.wrap, e, e', IntKind.signed, Bool.true_and, decide_eq_true_eq, ge_iff_le]
  split <;> omega

theorem leafIn_stamp (sec : List UInt8) : (leafIn sec).stamp ≤ 9223372036854775807 := by
  unfold leafIn
  dsimp only
  exact wrap_le _

theorem s_leaf_Read {y : SV} {sec : List UInt8} (h1 : 96 ≤ sec.length) (h2 : sec.length ≤ 512) : FnSpec Tryz.prog 85 #[y.v] [pe (bsl y sec)]
    (fun sv : SV => .tuple #[readV (readL sec) sv, .int .i64 (readE (readL sec))]) (fun sv => sv.n = (readB (readL sec)).length) (fun sv R => pe (bsl sv (readB (readL sec))) :: R) := by
  refine fn_spec Tryz.func85 rfl rfl rfl rfl fun G R => ?_
  dsimp only [List.append_eq, List.cons_append, List.nil_append]
  refine wk_ro (x := y) (cells := u8s sec) (size := 1) (by repeat constructor) fun hx => ?_
  have hyn : y.n = sec.length := by have := hx.1; simpa using this.symm
  have l1 : (rawLeft sec 1).length = sec.length - 1 := rawLeft_len (by omega)
  have l2 : (rawLeft (rawLeft sec 1) 2).length = sec.length - 3 := by rw [rawLeft_len (by omega)]; omega
  have l3 : (rawLeft (rawLeft (rawLeft sec 1) 2) 4).length = sec.length - 7 := by rw [rawLeft_len (by omega)]; omega
  have l4 : (rawLeft (rawLeft (rawLeft (rawLeft sec 1) 2) 4) 8).length = sec.length - 15 := by rw [rawLeft_len (by omega)]; omega
  have v1 := valB_raw sec 1
  have v2 := valB_raw (rawLeft sec 1) 2
  have v3 := valB_raw (rawLeft (rawLeft sec 1) 2) 4
  refine wk_seq ?_
  refine wk_region ?_
  refine wo_w (w_allocA tyZ_122 fun b1 => ?_)
  refine wo_v (v_assign rfl) ?_
  refine wo_nil ?_
  refine wk_seq ?_
  refine wk_seq ?_
  refine wk_region ?_
  refine wo_v (v_move rfl) ?_
  refine wo_v (v_len tyU_45 rfl) ?_
  refine wo_w (w_call (s_leaf_may (n := y.n)) rfl (by repeat constructor) ?_)
  rintro ⟨⟩ -
  refine wo_v (v_not rfl) ?_
  refine wo_nil ?_
  refine wk_if rfl (fun hb => ?_) (fun hb => ?_)
  · exact absurd (by omega) hb
  · refine wk_skip ?_
    refine wk_seq ?_
    refine wk_region ?_
    refine wo_v (v_move rfl) ?_
    refine wo_w (w_call (s_wire_NewReader (bs := sec) (by omega)) rfl (by repeat constructor) ?_)
    rintro r -
    refine wo_v (v_assign rfl) ?_
    refine wo_nil ?_
    refine wk_seq ?_
    refine wk_region ?_
    refine wo_w (w_allocA tyZ_122 fun b2 => ?_)
    refine wo_nil ?_
    refine wk_seq ?_
    refine wk_region ?_
    refine wo_v (v_move rfl) ?_
    refine wo_w (w_call (s_wire_Reader_Number (bs := sec) (bad := false) (k := 1) (by omega) (by simp)) rfl (by repeat constructor) ?_)
    rintro ⟨⟩ -
    rw [rdFlag (bs := sec) (k := 1) (by omega)]
    refine wo_v (v_convI tyU_3 tyU_33 rfl) ?_
    refine wo_v (v_fieldAddr tyF_122_0 rfl) ?_
    refine wo_w0 (w_storeN1 tyN_3 rfl rfl rfl (by repeat constructor) (by repeat constructor) ?_)
    refine wo_nil ?_
    refine wk_seq ?_
    refine wk_region ?_
    refine wo_v (v_move rfl) ?_
    refine wo_w (w_call (s_wire_Reader_Number (bs := rawLeft sec 1) (bad := false) (k := 2) (by omega) (by simp)) rfl (by repeat constructor) ?_)
    rintro ⟨⟩ -
    rw [rdFlag (bs := rawLeft sec 1) (k := 2) (by omega)]
    refine wo_v (v_convI tyU_3 tyU_33 rfl) ?_
    refine wo_v (v_assign rfl) ?_
    refine wo_nil ?_
    refine wk_seq ?_
    refine wk_region ?_
    refine wo_v (v_move rfl) ?_
    refine wo_w (w_call (s_wire_Reader_Number (bs := rawLeft (rawLeft sec 1) 2) (bad := false) (k := 4) (by omega) (by simp)) rfl (by repeat constructor) ?_)
    rintro ⟨⟩ -
    rw [rdFlag (bs := rawLeft (rawLeft sec 1) 2) (k := 4) (by omega)]
    refine wo_v (v_convI tyU_3 tyU_33 rfl) ?_
    refine wo_v (v_fieldAddr tyF_122_1 rfl) ?_
    refine wo_w0 (w_storeN1 tyN_3 rfl rfl rfl (by repeat constructor) (by repeat constructor) ?_)
    refine wo_nil ?_
    refine wk_seq ?_
    refine wk_region ?_
    refine wo_v (v_move rfl) ?_
    refine wo_w (w_call (s_wire_Reader_Number (bs := rawLeft (rawLeft (rawLeft sec 1) 2) 4) (bad := false) (k := 8) (by omega) (by simp)) rfl (by repeat constructor) ?_)
    rintro ⟨⟩ -
    rw [rdFlag (bs := rawLeft (rawLeft (rawLeft sec 1) 2) 4) (k := 8) (by omega)]
    refine wo_v (v_conv tyU_3 tyU_33 rfl) ?_
    refine wo_v (v_fieldAddr tyF_122_2 rfl) ?_
    refine wo_w0 (w_storeN1 tyN_3 rfl rfl rfl (by repeat constructor) (by repeat constructor) ?_)
    refine wo_nil ?_
    refine wk_seq ?_
    refine wk_region ?_
    refine wo_v (v_move rfl) ?_
    refine wo_v (v_move rfl) ?_
    refine wo_w (w_call (s_wire_Reader_Raw (n := valB (rawOf (rawLeft sec 1) 2)) (bs := rawLeft (rawLeft (rawLeft (rawLeft sec 1) 2) 4) 8) (bad := false) (by omega)) rfl (by repeat constructor) ?_)
    rintro sv hsv
    refine wo_v (v_fieldAddr tyF_122_3 rfl) ?_
    refine wo_w0 (w_storeN1 tyN_45 rfl rfl rfl (by repeat constructor) (by repeat constructor) ?_)
    refine wo_nil ?_
    refine wk_seq ?_
    refine wk_seq ?_
    refine wk_region ?_
    refine wo_v (v_move rfl) ?_
    refine wo_w (w_call s_wire_Reader_Bad rfl (by repeat constructor) ?_)
    rintro ⟨⟩ -
    refine wo_v (v_move rfl) ?_
    refine wo_if (t := 37) rfl (fun hq => ?_) (fun hq => ?_)
    · refine wo_gF ?_
      refine wo_gF ?_
      refine wo_gF ?_
      refine wo_gF ?_
      refine wo_gF ?_
      refine wo_v (v_pickT rfl rfl) ?_
      refine wo_nil ?_
      refine wk_condT rfl ?_
      refine wk_seq ?_
      refine wk_region ?_
      refine wo_v (v_buildN tyBu_122 rfl (by repeat constructor)) ?_
      refine wo_w0 (w_storeN tyN_122 rfl rfl rfl rfl (by repeat constructor) (by repeat constructor) ?_)
      refine wo_v (v_assign rfl) ?_
      refine wo_nil ?_
      refine wk_ret Tryz.func85 rfl rfl (res_cellA tyA_122 rfl (by repeat constructor) rfl (res_tmp rfl res_nil)) fun W h => ?_
      have ho : readL sec = none := if_pos (hq.resolve_left (by decide))
      rw [ho]
      exact ⟨nilSV, rfl, rfl, Ent.sat (ent_roNil rfl ent_tail) h⟩
    · have hns : ¬ leafShort sec := hq.2
      have hll : (leafIn sec).load.length ≤ 1048576 := by
        have := rawOf_le (rawLeft (rawLeft (rawLeft (rawLeft sec 1) 2) 4) 8) (valB (rawOf (rawLeft sec 1) 2))
        exact Nat.le_trans this (by omega)
      have e1 : ((valB (rawOf sec 1) : Nat) : Int) = (leafIn sec).kind := rfl
      have e2 : ((valB (rawOf (rawLeft (rawLeft sec 1) 2) 4) : Nat) : Int) = (leafIn sec).place := rfl
      have e3 : IntKind.i64.wrap (valB (rawOf (rawLeft (rawLeft (rawLeft sec 1) 2) 4) 8) : Nat) = (leafIn sec).stamp := by unfold leafIn; rfl
      have e4 : rawOf (rawLeft (rawLeft (rawLeft (rawLeft sec 1) 2) 4) 8) (valB (rawOf (rawLeft sec 1) 2)) = (leafIn sec).load := rfl
      have hst := leafIn_stamp sec
      rw [e1, e2, e3, e4]
      rw [e4] at hsv
      clear e1 e2 e3 e4
      generalize hX : leafIn sec = X at hsv hll hst ⊢
      refine wo_gv (v_loadN tyA_122 rfl (by repeat constructor) (by repeat constructor)) ?_
      refine wo_gv (v_move rfl) ?_
      refine wo_gv (v_len tyU_45 rfl) ?_
      refine wo_gw (w_call (s_leaf_Leaf_right (x := X) (sv := sv) (n := y.n) hb.1 hb.2 hsv) rfl (by repeat constructor) ?_)
      rintro ⟨⟩ -
      refine wo_gv (v_neq rfl rfl) ?_
      refine wo_v (v_pickF rfl rfl) ?_
      refine wo_nil ?_
      refine wk_if rfl (fun hr => ?_) (fun hr => ?_)
      · refine wk_seq ?_
        refine wk_region ?_
        refine wo_v (v_buildN tyBu_122 rfl (by repeat constructor)) ?_
        refine wo_w0 (w_storeN tyN_122 rfl rfl rfl rfl (by repeat constructor) (by repeat constructor) ?_)
        refine wo_v (v_assign rfl) ?_
        refine wo_nil ?_
        refine wk_ret Tryz.func85 rfl rfl (res_cellA tyA_122 rfl (by repeat constructor) rfl (res_tmp rfl res_nil)) fun W h => ?_
        have ho : readL sec = none := by rw [readL, if_neg hns, hX, if_neg (fun hh => hr (by rw [hyn, hh.1]; rfl))]
        rw [ho]
        exact ⟨nilSV, rfl, rfl, Ent.sat (ent_roNil rfl ent_tail) h⟩
      · refine wk_skip ?_
        refine wk_seq ?_
        refine wk_seq ?_
        refine wk_region ?_
        refine wo_v (v_move rfl) ?_
        refine wo_v (v_len tyU_45 rfl) ?_
        refine wo_v (v_loadN tyA_122 rfl (by repeat constructor) (by repeat constructor)) ?_
        refine wo_w (w_call (s_leaf_Build (x := X) (sv := sv) (n := y.n) hb.1 hb.2 hll hst) rfl (by repeat constructor) ?_)
        rintro z hz
        refine wo_v (v_move rfl) ?_
        refine wo_v (v_extract rfl rfl) ?_
        refine wo_v (v_extract rfl rfl) ?_
        refine wo_v (v_assign rfl) ?_
        refine wo_v (v_assign rfl) ?_
        refine wo_nil ?_
        refine wk_seq ?_
        refine wk_region ?_
        refine wo_v (v_move rfl) ?_
        refine wo_v (v_neq rfl rfl) ?_
        refine wo_v (v_move rfl) ?_
        refine wo_if (t := 54) rfl (fun hw => ?_) (fun hw => ?_)
        · refine wo_gF ?_
          refine wo_gF ?_
          refine wo_gF ?_
          refine wo_gF ?_
          refine wo_v (v_pickT rfl rfl) ?_
          refine wo_nil ?_
          refine wk_condT rfl ?_
          refine wk_seq ?_
          refine wk_region ?_
          refine wo_v (v_buildN tyBu_122 rfl (by repeat constructor)) ?_
          refine wo_w0 (w_storeN tyN_122 rfl rfl rfl rfl (by repeat constructor) (by repeat constructor) ?_)
          refine wo_v (v_assign rfl) ?_
          refine wo_nil ?_
          refine wk_ret Tryz.func85 rfl rfl (res_cellA tyA_122 rfl (by repeat constructor) rfl (res_tmp rfl res_nil)) fun W h => ?_
          exact absurd hr hw
        · refine wo_gv (v_move rfl) ?_
          refine wo_gv (v_move rfl) ?_
          refine wo_gw (w_call (s_bytes_Equal (cs := X.built y.n) (bs := sec)) rfl (by repeat constructor) ?_)
          rintro ⟨⟩ -
          refine wo_gv (v_not rfl) ?_
          refine wo_v (v_pickF rfl rfl) ?_
          refine wo_nil ?_
          refine wk_if rfl (fun he => ?_) (fun he => ?_)
          · refine wk_seq ?_
            refine wk_region ?_
            refine wo_v (v_buildN tyBu_122 rfl (by repeat constructor)) ?_
            refine wo_w0 (w_storeN tyN_122 rfl rfl rfl rfl (by repeat constructor) (by repeat constructor) ?_)
            refine wo_v (v_assign rfl) ?_
            refine wo_nil ?_
            refine wk_ret Tryz.func85 rfl rfl (res_cellA tyA_122 rfl (by repeat constructor) rfl (res_tmp rfl res_nil)) fun W h => ?_
            have ho : readL sec = none := by
              rw [readL, if_neg hns, hX, if_neg (fun hh => he ?_)]
              rw [LeafA.built, hyn, if_pos hh.1, hh.2]
            rw [ho]
            exact ⟨nilSV, rfl, rfl, Ent.sat (ent_roNil rfl ent_tail) h⟩
          · refine wk_skip ?_
            refine wk_seq ?_
            refine wk_region ?_
            refine wo_v (v_loadN tyA_122 rfl (by repeat constructor) (by repeat constructor)) ?_
            refine wo_w0 (w_storeN tyN_122 rfl rfl rfl rfl (by repeat constructor) (by repeat constructor) ?_)
            refine wo_v (v_assign rfl) ?_
            refine wo_nil ?_
            refine wk_ret Tryz.func85 rfl rfl (res_cellA tyA_122 rfl (by repeat constructor) rfl (res_tmp rfl res_nil)) fun W h => ?_
            have hr0 : X.right y.n = 0 := by omega
            have ho : readL sec = some X := by
              rw [LeafA.built, if_pos hr0, hyn] at he
              rw [readL, if_neg hns, hX, if_pos ⟨by rw [← hyn]; exact hr0, he⟩]
            rw [ho]
            exact ⟨sv, rfl, hsv, Ent.sat (by refine ent_take ?_; exact ent_tail) h⟩

end Go.Proofs.YtealmijbkebipaaGreatDoor

namespace Go.Proofs.YtealmijbkebipaaGreatDoor
open Go

theorem osl_block {x : SV} {cells : List Value} {size : Nat} {T : TypeId} {L : List HP} {G : Gl} {w : World} (h0 : 0 < x.n) (s : Sat G w (osl x cells size T :: L)) :
    ∃ b sp, x.a = some ⟨b, 0, none⟩ ∧ cells.length = x.n * size ∧ x.n ≤ x.c ∧ x.c ≤ 9223372036854775807 ∧ (cells ++ sp).length = x.c * size ∧ Sat G w (blk b (cells ++ sp) T :: L) := by
  obtain ⟨g0, r, H, h1, h2, hs, ⟨⟨b, sp⟩, ⟨e1, e2, e3, e4⟩, k1⟩, hL⟩ := s
  simp only at e1 e2 e3 e4 k1
  rcases e4 with ⟨e4, _⟩ | ⟨e4, e5⟩
  · rw [e4] at h0; exact absurd h0 (by decide)
  · rw [e4] at k1
    simp only [reduceCtorEq, if_false] at k1
    refine ⟨b, sp, e4, e1, e2, e3, e5, ?_⟩
    obtain ⟨g1, g2, gs, go, gn⟩ := k1
    exact ⟨g0, r, H, h1, h2, hs, gs.le1 _ _ go, hL⟩
theorem ent_oslClose {x : SV} {b : Nat} {cells sp : List Value} {size : Nat} {T : TypeId} {L : List HP} (ha : x.a = some ⟨b, 0, none⟩) (h1 : cells.length = x.n * size) (h2 : x.n ≤ x.c) (h3 : x.c ≤ 9223372036854775807) (h4 : (cells ++ sp).length = x.c * size) :
    Ent (blk b (cells ++ sp) T :: L) (osl x cells size T :: L) := by
  obtain ⟨xa, xn, xc⟩ := x
  simp only at ha h1 h2 h3 h4
  subst ha
  exact ent_nf (b, sp) ⟨h1, h2, h3, .inr ⟨rfl, h4⟩⟩ (Ent.refl _)

theorem wk_oslOpen {P : Program} {C : Cx} {e : Env} {L : List HP} {ds : List Deferred} {k : List Item} {x : SV} {cells : List Value} {size : Nat} {T : TypeId} (h0 : 0 < x.n)
    (h : ∀ b sp, x.a = some ⟨b, 0, none⟩ → cells.length = x.n * size → x.n ≤ x.c → x.c ≤ 9223372036854775807 → (cells ++ sp).length = x.c * size → Wk P C ds k e (blk b (cells ++ sp) T :: L)) : Wk P C ds k e (osl x cells size T :: L) := by
  intro w tm s a'
  obtain ⟨b, sp, h1, h2, h3, h4, h5, s'⟩ := osl_block h0 s
  exact h b sp h1 h2 h3 h4 h5 w tm s' a'

theorem callw_loop {P : Program} {C : Cx} {fv : Value} {args : Array Value} {L : List HP} {K : Value → List HP → Prop} {l : Nat} {f n : Nat} {e : Env} {ps : Array Tmp} {assign body : Code} {D : Nat}
    (h : ∀ LP : LoopState → Option Code → HP, (LP = fun st pd => loopH l st pd f n e ps assign body D) → CallW P C fv args (LP .ready none :: L) K) : CallW P C fv args (loopH l .ready none f n e ps assign body D :: L) K := h _ rfl

end Go.Proofs.YtealmijbkebipaaGreatDoor

namespace Go.Proofs.YtealmijbkebipaaGreatDoor
open Go

theorem take_mid : ∀ (l : List HP) (p : HP) (M : List HP), Take p (l ++ p :: M) (l ++ M)
  | [], _, _ => .here
  | _ :: l, p, M => .there (take_mid l p M)
theorem takeL_pre : ∀ (l L : List HP), TakeL l (l ++ L) L
  | [], _ => .nil
  | _ :: l, L => .cons .here (takeL_pre l L)
theorem ent_nfL_out {p : HP} {l1 l2 L : List HP} : Ent (nfL (l1 ++ p :: l2) :: L) (p :: nfL (l1 ++ l2) :: L) := by
  refine Ent.open_ fun _ _ => ?_
  rw [List.append_assoc, List.cons_append]
  refine (Ent.take (take_mid l1 p (l2 ++ L))).trans (Ent.cons _ ?_)
  rw [← List.append_assoc]
  exact Ent.close () trivial (takeL_pre _ _)
theorem ent_nfL_in {p : HP} {l L : List HP} : Ent (p :: nfL l :: L) (nfL (p :: l) :: L) := by
  refine (Ent.take (.there .here)).trans (Ent.open_ fun _ _ => ?_)
  exact Ent.close () trivial (.cons (take_mid l p L) (takeL_pre _ _))

section
variable {β : Type}
def gget : List (Int × β) → Int → Option β
  | [], _ => none
  | e :: l, k => if k = e.1 then some e.2 else gget l k
def gput : List (Int × β) → Int → β → List (Int × β)
  | [], k, b => [(k, b)]
  | e :: l, k, b => if k = e.1 then (e.1, b) :: l else e :: gput l k b
theorem mget_map (l : List (Int × β)) (g : β → Value) (k : Int) : mget (l.map fun e => (e.1, g e.2)) k = (gget l k).map g := by
  induction l with
  | nil => rfl
  | cons e l ih =>
    simp only [List.map_cons, mget, gget]
    split
    · rfl
    · exact ih
theorem mput_map (l : List (Int × β)) (g : β → Value) (k : Int) (b : β) : mput (l.map fun e => (e.1, g e.2)) k (g b) = (gput l k b).map fun e => (e.1, g e.2) := by
  induction l with
  | nil => rfl
  | cons e l ih =>
    simp only [List.map_cons, mput, gput]
    split
    · rfl
    · simp only [List.map_cons, ih]
theorem gget_put (l : List (Int × β)) (k j : Int) (b : β) : gget (gput l k b) j = if j = k then some b else gget l j := by
  induction l with
  | nil => simp [gput, gget]
  | cons e l ih =>
    simp only [gput]
    by_cases h1 : k = e.1
    · rw [if_pos h1]
      simp only [gget]
      by_cases h2 : j = e.1
      · rw [if_pos h2, if_pos (h2.trans h1.symm)]
      · rw [if_neg h2, if_neg (fun h => h2 (h.trans h1)), if_neg h2]
    · rw [if_neg h1]
      simp only [gget, ih]
      by_cases h2 : j = e.1
      · rw [if_pos h2, if_neg (fun h => h1 (h.symm.trans h2)), if_pos h2]
      · rw [if_neg h2, if_neg h2]
theorem gput_mem {l : List (Int × β)} {k : Int} {b : β} {e : Int × β} (h : e ∈ gput l k b) : e.2 = b ∨ e ∈ l := by
  induction l with
  | nil => simp [gput] at h; subst h; exact .inl rfl
  | cons a l ih =>
    simp only [gput] at h
    split at h
    · rcases List.mem_cons.1 h with rfl | h
      · exact .inl rfl
      · exact .inr (List.mem_cons_of_mem _ h)
    · rcases List.mem_cons.1 h with rfl | h
      · exact .inr List.mem_cons_self
      · rcases ih h with h | h
        · exact .inl h
        · exact .inr (List.mem_cons_of_mem _ h)
theorem gget_mem {l : List (Int × β)} {k : Int} {b : β} (h : gget l k = some b) : (k, b) ∈ l := by
  induction l with
  | nil => cases h
  | cons e l ih =>
    simp only [gget] at h
    split at h
    · rename_i hk; obtain ⟨k', q⟩ := e; simp only at hk h; cases h; subst hk; exact List.mem_cons_self
    · exact List.mem_cons_of_mem _ (ih h)
theorem gput_none {l : List (Int × β)} {k : Int} {b : β} (h : gget l k = none) : gput l k b = l ++ [(k, b)] := by
  induction l with
  | nil => rfl
  | cons e l ih =>
    simp only [gget] at h
    split at h
    · cases h
    · rename_i hne
      simp only [gput, if_neg hne, List.cons_append, ih h]
theorem gput_some {l : List (Int × β)} {k : Int} {b b0 : β} (h : gget l k = some b0) : ∃ l1 l2, l = l1 ++ (k, b0) :: l2 ∧ gput l k b = l1 ++ (k, b) :: l2 := by
  induction l with
  | nil => cases h
  | cons e l ih =>
    obtain ⟨k', q⟩ := e
    simp only [gget] at h
    split at h
    · rename_i hk; cases h; subst hk
      exact ⟨[], l, rfl, by simp [gput]⟩
    · rename_i hne
      obtain ⟨l1, l2, e1, e2⟩ := ih h
      exact ⟨(k', q) :: l1, l2, by rw [e1]; rfl, by simp only [gput, if_neg hne, e2]; rfl⟩
/-- A row in another order, in which one entry is put anew. -/
theorem gput_perm {l q : List (Int × β)} (hp : q.Perm l) {k : Int} {b b0 : β} (h : gget l k = some b0) : ∃ q1 q2, q = q1 ++ (k, b0) :: q2 ∧ ((k, b) :: (q1 ++ q2)).Perm (gput l k b) := by
  obtain ⟨l1, l2, e1, e2⟩ := gput_some (b := b) h
  obtain ⟨q1, q2, e3⟩ := List.append_of_mem (hp.mem_iff.2 (gget_mem h))
  refine ⟨q1, q2, e3, ?_⟩
  rw [e2]
  have h1 : ((k, b0) :: (q1 ++ q2)).Perm ((k, b0) :: (l1 ++ l2)) := by
    refine (List.perm_middle.symm.trans ?_).trans List.perm_middle
    rw [← e3, ← e1]; exact hp
  exact ((List.Perm.cons_inv h1).cons _).trans List.perm_middle.symm
theorem gput_perm0 {l q : List (Int × β)} (hp : q.Perm l) {k : Int} {b : β} (h : gget l k = none) : ((k, b) :: q).Perm (gput l k b) := by
  rw [gput_none h]
  exact (hp.cons _).trans (List.perm_append_singleton _ _).symm
end

theorem ent_pe2 {L : List HP} {p q s : Pe} (hp : HasPe L p) (hq : HasPe L q) (f : ∀ r, p.q r → q.q r → s.q r) : Ent L (pe s :: L) := fun h0 r hl =>
  ⟨fun _ => none, h0, fun _ => .inr ⟨rfl, rfl⟩, f r (hp.q hl) (hq.q hl), hl⟩

abbrev PastE := Int × SV × List (SV × List UInt8)
def pastF (e : PastE) : HP := osl e.2.1 (e.2.2.map (·.1.v)) 1 45
theorem past_at {P Q : List PastE} (hp : Q.Perm P) (k : Int) {n size : Nat} (hP : ∀ e ∈ P, e.2.1.n = e.2.2.length ∧ e.2.2.length ≤ n ∧ ∀ b ∈ e.2.2, b.2.length = size) :
    ∃ (x0 : SV) (l0 : List (SV × List UInt8)) (Qr : List PastE), (mget (P.map fun e => (e.1, e.2.1.v)) k).getD (.slice none 0 0) = x0.v ∧ (∀ L, Ent (nfL (Q.map pastF) :: L) (osl x0 (l0.map (·.1.v)) 1 45 :: nfL (Qr.map pastF) :: L)) ∧
      x0.n = l0.length ∧ l0.length ≤ n ∧ (∀ b ∈ l0, b.2.length = size) ∧ (∀ e ∈ Qr, e ∈ Q) ∧ (∀ b ∈ l0, ∃ e ∈ Q, b ∈ e.2.2) ∧ ∀ p', ((k, p') :: Qr).Perm (gput P k p') := by
  rw [mget_map P (fun p => p.1.v) k]
  cases h : gget P k with
  | none => exact ⟨nilSV, [], Q, rfl, fun L => ent_oslNil (Ent.refl _), rfl, Nat.zero_le _, (fun b hb => by cases hb), (fun e he => he), (fun b hb => by cases hb), fun p' => gput_perm0 hp h⟩
  | some b0 =>
    obtain ⟨x0, l0⟩ := b0
    have hm := gget_mem h
    obtain ⟨f1, f2, f3⟩ := hP _ hm
    obtain ⟨q1, q2, e1, _⟩ := gput_perm (b := (x0, l0)) hp h
    have hperm : ∀ p', ((k, p') :: (q1 ++ q2)).Perm (gput P k p') := by
      intro p'
      obtain ⟨l1, l2, g1, g2⟩ := gput_some (b := p') h
      rw [g2]
      have h1 : ((k, x0, l0) :: (q1 ++ q2)).Perm ((k, x0, l0) :: (l1 ++ l2)) := by
        refine (List.perm_middle.symm.trans ?_).trans List.perm_middle
        rw [← e1, ← g1]; exact hp
      exact ((List.Perm.cons_inv h1).cons _).trans List.perm_middle.symm
    refine ⟨x0, l0, q1 ++ q2, rfl, fun L => ?_, f1, f2, f3, fun e he => ?_, fun b hb => ⟨(k, x0, l0), by rw [e1]; simp, hb⟩, hperm⟩
    · rw [e1, List.map_append, List.map_cons, List.map_append]
      exact ent_nfL_out (p := pastF (k, x0, l0))
    · rw [e1]; rcases List.mem_append.1 he with h | h
      · exact List.mem_append_left _ h
      · exact List.mem_append_right _ (List.mem_cons_of_mem _ h)

end Go.Proofs.YtealmijbkebipaaGreatDoor

namespace Go.Proofs.YtealmijbkebipaaGreatDoor
open Go
attribute [local irreducible] own pe nf

/-- Many slices of bytes that stay. -/
def bslAll (l : List (SV × List UInt8)) : Pe := ⟨fun r => ∀ p ∈ l, (bsl p.1 p.2).q r, fun h hr p hp => (bsl p.1 p.2).mono (h p hp) hr⟩

/-- A device, as the document has it. -/
structure DevA where
  n : Nat
  size : Nat
  fast : Int → List UInt8
  loose : List (Int × List UInt8)
  armed : Nat
  acts : Nat
  down : Bool

abbrev Ent3 := Int × SV × List UInt8
structure DevX where
  mf : Nat
  F : List Ent3
  xl : SV
  Lz : List Ent3
  mp : Nat
  P : List (Int × SV × List (SV × List UInt8))
  Q : List (Int × SV × List (SV × List UInt8))
  T : TypeId

abbrev fget (l : List Ent3) (k : Int) : Option (SV × List UInt8) := gget l k
def kvM (F : List Ent3) : MapL := F.map fun e => (e.1, e.2.1.v)
def looseC (l : List Ent3) : List Value := (l.map fun e => [Value.int .i64 e.1, e.2.1.v]).flatten
def zeros (n : Nat) : List UInt8 := List.replicate n 0

structure DevOK (st : DevA) (X : DevX) : Prop where
  fast : ∀ k, st.fast k = ((fget X.F k).map (·.2)).getD (zeros st.size)
  flen : ∀ e ∈ X.F, e.2.2.length = st.size
  loose : st.loose = X.Lz.map fun e => (e.1, e.2.2)
  llen : ∀ e ∈ X.Lz, e.2.2.length = st.size
  xln : X.xl.n = X.Lz.length
  lacts : X.Lz.length ≤ st.acts
  past : ∀ e ∈ X.P, e.2.1.n = e.2.2.length ∧ e.2.2.length ≤ st.acts ∧ ∀ b ∈ e.2.2, b.2.length = st.size
  perm : X.Q.Perm X.P
  s1 : 96 ≤ st.size
  s2 : st.size ≤ 512
  n1 : 1 ≤ st.n
  n2 : st.n ≤ 16384
  acts : st.acts ≤ 1099511627776
  armed : st.armed ≤ 9223372036854775807

def devL (d : Nat) (st : DevA) (X : DevX) : List HP :=
  [blk d [.int .i64 st.n, .int .i64 st.size, .map (some X.mf), X.xl.v, .map (some X.mp), .int .i64 st.armed, .int .i64 st.acts, .bool st.down] X.T,
    mapH X.mf (kvM X.F), pe (bslAll (X.F.map (·.2))), osl X.xl (looseC X.Lz) 2 79, pe (bslAll (X.Lz.map (·.2))),
    mapH X.mp (X.P.map fun e => (e.1, e.2.1.v)), nfL (X.Q.map pastF), pe (bslAll (X.Q.flatMap (·.2.2)))]
def DevH (d : Nat) (st : DevA) : HP := nf (fun X : DevX => DevOK st X) (devL d st)

theorem s_flash_Device_there {d : Nat} {st : DevA} {at_ : Int} : FnSpec Tryz.prog 88 #[.pointer (some ⟨d, 0, none⟩), .int .i64 at_] [DevH d st]
    (fun _ : Unit => .bool (decide (0 ≤ at_ ∧ at_ < st.n))) (fun _ => True) (fun _ R => DevH d st :: R) := by
  refine fn_spec Tryz.func88 rfl rfl rfl rfl fun G R => ?_
  refine wk_nf fun ⟨mf, F, xl, Lz, mp, P, Q, T⟩ hw => ?_
  dsimp only [List.append_eq, List.cons_append, List.nil_append, devL] at hw ⊢
  refine wk_seq ?_
  refine wk_region ?_
  refine wo_v (v_assign rfl) ?_
  refine wo_nil ?_
  refine wk_seq ?_
  refine wk_region ?_
  refine wo_v (v_move rfl) ?_
  refine wo_v (v_geq rfl rfl) ?_
  refine wo_v (v_move rfl) ?_
  refine wo_if (t := 7) rfl (fun hb => ?_) (fun hb => ?_)
  · refine wo_gv (v_move rfl) ?_
    refine wo_gv (v_move rfl) ?_
    refine wo_gv (v_nilCheck rfl) ?_
    refine wo_gv (v_fieldAddr tyF_60_0 rfl) ?_
    refine wo_gv (v_load tyS_3 rfl rfl) ?_
    refine wo_gv (v_lss rfl rfl) ?_
    refine wo_v (v_pickT rfl rfl) ?_
    refine wo_v (v_assign rfl) ?_
    refine wo_nil ?_
    refine wk_ret Tryz.func88 rfl rfl (res_tmp rfl res_nil) fun W h => ?_
    refine ⟨(), ?_, trivial, Ent.sat (by refine ent_nf ⟨mf, F, xl, Lz, mp, P, Q, T⟩ hw ?_; exact ent_tail) h⟩
    have : decide (0 ≤ at_ ∧ at_ < (st.n : Int)) = decide (at_ < (st.n : Int)) := by rw [decide_eq_decide]; omega
    rw [this]; rfl
  · refine wo_gF ?_
    refine wo_gF ?_
    refine wo_gF ?_
    refine wo_gF ?_
    refine wo_gF ?_
    refine wo_gF ?_
    refine wo_v (v_pickF rfl rfl) ?_
    refine wo_v (v_assign rfl) ?_
    refine wo_nil ?_
    refine wk_ret Tryz.func88 rfl rfl (res_tmp rfl res_nil) fun W h => ?_
    refine ⟨(), ?_, trivial, Ent.sat (by refine ent_nf ⟨mf, F, xl, Lz, mp, P, Q, T⟩ hw ?_; exact ent_tail) h⟩
    have : decide (0 ≤ at_ ∧ at_ < (st.n : Int)) = false := by rw [decide_eq_false_iff_not]; omega
    rw [this]; rfl

/-- May a sector be asked for? -/
def DevA.ready (st : DevA) (at_ : Int) : Nat := if st.down = true then 4 else if 0 ≤ at_ ∧ at_ < st.n then 0 else 2

theorem s_flash_Device_ready {d : Nat} {st : DevA} {at_ : Int} : FnSpec Tryz.prog 67 #[.pointer (some ⟨d, 0, none⟩), .int .i64 at_] [DevH d st]
    (fun _ : Unit => .int .i64 (st.ready at_)) (fun _ => True) (fun _ R => DevH d st :: R) := by
  refine fn_spec Tryz.func67 rfl rfl rfl rfl fun G R => ?_
  refine wk_nf fun ⟨mf, F, xl, Lz, mp, P, Q, T⟩ hw => ?_
  dsimp only [List.append_eq, List.cons_append, List.nil_append, devL] at hw ⊢
  refine wk_seq ?_
  refine wk_region ?_
  refine wo_v (v_assign rfl) ?_
  refine wo_nil ?_
  refine wk_seq ?_
  refine wk_block ?_
  refine wk_seq ?_
  refine wk_region ?_
  refine wo_v (v_move rfl) ?_
  refine wo_v (v_eqSome tyU_27 rfl rfl) ?_
  refine wo_v (v_assign rfl) ?_
  refine wo_nil ?_
  refine wk_condF rfl ?_
  refine wk_seq ?_
  refine wk_region ?_
  refine wo_v (v_move rfl) ?_
  refine wo_v (v_nilCheck rfl) ?_
  refine wo_v (v_fieldAddr tyF_60_7 rfl) ?_
  refine wo_v (v_load tyS_4 rfl rfl) ?_
  refine wo_v (v_assign rfl) ?_
  refine wo_nil ?_
  refine wk_if rfl (fun hd => ?_) (fun hd => ?_)
  · refine wk_seq ?_
    refine wk_region ?_
    refine wo_v (v_assign rfl) ?_
    refine wo_nil ?_
    refine wk_ret Tryz.func67 rfl rfl (res_tmp rfl res_nil) fun W h => ?_
    rw [show st.ready at_ = 4 from if_pos hd]
    exact ⟨(), rfl, trivial, Ent.sat (by refine ent_nf ⟨mf, F, xl, Lz, mp, P, Q, T⟩ hw ?_; exact ent_tail) h⟩
  · refine wk_ent (M := DevH d st :: R) (by refine ent_nf ⟨mf, F, xl, Lz, mp, P, Q, T⟩ hw ?_; exact ent_tail) ?_
    refine wk_seq ?_
    refine wk_region ?_
    refine wo_v (v_move rfl) ?_
    refine wo_v (v_move rfl) ?_
    refine wo_w (w_call s_flash_Device_there rfl (by repeat constructor) ?_)
    rintro ⟨⟩ -
    refine wo_v (v_not rfl) ?_
    refine wo_v (v_assign rfl) ?_
    refine wo_nil ?_
    refine wk_if rfl (fun hb => ?_) (fun hb => ?_)
    · refine wk_seq ?_
      refine wk_region ?_
      refine wo_v (v_assign rfl) ?_
      refine wo_nil ?_
      refine wk_ret Tryz.func67 rfl rfl (res_tmp rfl res_nil) fun W h => ?_
      rw [show st.ready at_ = 2 from by rw [DevA.ready, if_neg (by rw [hd]; decide), if_neg hb]]
      exact ⟨(), rfl, trivial, h⟩
    · refine wk_skip ?_
      refine wk_inBlock ?_
      refine wk_seq ?_
      refine wk_region ?_
      refine wo_v (v_assign rfl) ?_
      refine wo_nil ?_
      refine wk_ret Tryz.func67 rfl rfl (res_tmp rfl res_nil) fun W h => ?_
      rw [show st.ready at_ = 0 from by rw [DevA.ready, if_neg (by rw [hd]; decide), if_pos hb]]
      exact ⟨(), rfl, trivial, h⟩

theorem s_flash_Device_Size {d : Nat} {st : DevA} : FnSpec Tryz.prog 42 #[.pointer (some ⟨d, 0, none⟩)] [DevH d st]
    (fun _ : Unit => .int .i64 st.size) (fun _ => True) (fun _ R => DevH d st :: R) := by
  refine fn_spec Tryz.func42 rfl rfl rfl rfl fun G R => ?_
  refine wk_nf fun ⟨mf, F, xl, Lz, mp, P, Q, T⟩ hw => ?_
  dsimp only [List.append_eq, List.cons_append, List.nil_append, devL] at hw ⊢
  refine wk_seq ?_
  refine wk_region ?_
  refine wo_v (v_assign rfl) ?_
  refine wo_nil ?_
  refine wk_seq ?_
  refine wk_seq ?_
  refine wk_region ?_
  refine wo_v (v_move rfl) ?_
  refine wo_v (v_eqSome tyU_27 rfl rfl) ?_
  refine wo_nil ?_
  refine wk_condF rfl ?_
  refine wk_skip ?_
  refine wk_seq ?_
  refine wk_region ?_
  refine wo_v (v_move rfl) ?_
  refine wo_v (v_nilCheck rfl) ?_
  refine wo_v (v_fieldAddr tyF_60_1 rfl) ?_
  refine wo_v (v_load tyS_3 rfl rfl) ?_
  refine wo_v (v_assign rfl) ?_
  refine wo_nil ?_
  refine wk_ret Tryz.func42 rfl rfl (res_tmp rfl res_nil) fun W h => ?_
  exact ⟨(), rfl, trivial, Ent.sat (by refine ent_nf ⟨mf, F, xl, Lz, mp, P, Q, T⟩ hw ?_; exact ent_tail) h⟩
theorem s_flash_Device_Sectors {d : Nat} {st : DevA} : FnSpec Tryz.prog 35 #[.pointer (some ⟨d, 0, none⟩)] [DevH d st]
    (fun _ : Unit => .int .i64 st.n) (fun _ => True) (fun _ R => DevH d st :: R) := by
  refine fn_spec Tryz.func35 rfl rfl rfl rfl fun G R => ?_
  refine wk_nf fun ⟨mf, F, xl, Lz, mp, P, Q, T⟩ hw => ?_
  dsimp only [List.append_eq, List.cons_append, List.nil_append, devL] at hw ⊢
  refine wk_seq ?_
  refine wk_region ?_
  refine wo_v (v_assign rfl) ?_
  refine wo_nil ?_
  refine wk_seq ?_
  refine wk_seq ?_
  refine wk_region ?_
  refine wo_v (v_move rfl) ?_
  refine wo_v (v_eqSome tyU_27 rfl rfl) ?_
  refine wo_nil ?_
  refine wk_condF rfl ?_
  refine wk_skip ?_
  refine wk_seq ?_
  refine wk_region ?_
  refine wo_v (v_move rfl) ?_
  refine wo_v (v_nilCheck rfl) ?_
  refine wo_v (v_fieldAddr tyF_60_0 rfl) ?_
  refine wo_v (v_load tyS_3 rfl rfl) ?_
  refine wo_v (v_assign rfl) ?_
  refine wo_nil ?_
  refine wk_ret Tryz.func35 rfl rfl (res_tmp rfl res_nil) fun W h => ?_
  exact ⟨(), rfl, trivial, Ent.sat (by refine ent_nf ⟨mf, F, xl, Lz, mp, P, Q, T⟩ hw ?_; exact ent_tail) h⟩

/-- An act: a write, or a sync. -/
def DevA.act (st : DevA) : DevA := { st with acts := st.acts + 1, armed := st.armed - 1, down := if 0 < st.armed then decide (st.armed = 1) else st.down }
theorem DevOK.act {st : DevA} {X : DevX} (h : DevOK st X) (ha : st.acts < 1099511627776) : DevOK st.act X :=
  { h with
    lacts := Nat.le_succ_of_le h.lacts
    past := fun e he => ⟨(h.past e he).1, Nat.le_succ_of_le (h.past e he).2.1, (h.past e he).2.2⟩
    acts := ha
    armed := Nat.le_trans (Nat.sub_le _ _) h.armed }

theorem s_flash_Device_act {d : Nat} {st : DevA} {v2 v3 v4 : Value} {T : TypeId} (ha : st.acts < 1099511627776) (harm : st.armed ≤ 9223372036854775807) : FnSpec Tryz.prog 22 #[.pointer (some ⟨d, 0, none⟩)] [blk d [.int .i64 st.n, .int .i64 st.size, v2, v3, v4, .int .i64 st.armed, .int .i64 st.acts, .bool st.down] T]
    (fun _ : Unit => .bool st.act.down) (fun _ => True) (fun _ R => blk d [.int .i64 st.act.n, .int .i64 st.act.size, v2, v3, v4, .int .i64 st.act.armed, .int .i64 st.act.acts, .bool st.act.down] T :: R) := by
  refine fn_spec Tryz.func22 rfl rfl rfl rfl fun G R => ?_
  dsimp only [List.append_eq, List.cons_append, List.nil_append]
  refine wk_seq ?_
  refine wk_region ?_
  refine wo_v (v_assign rfl) ?_
  refine wo_nil ?_
  refine wk_seq ?_
  refine wk_region ?_
  refine wo_v (v_move rfl) ?_
  refine wo_v (v_nilCheck rfl) ?_
  refine wo_v (v_fieldAddr tyF_60_6 rfl) ?_
  refine wo_v (v_load tyS_3 rfl rfl) ?_
  refine wo_v (v_addI rfl rfl) ?_
  refine wo_v (v_nilCheck rfl) ?_
  refine wo_v (v_fieldAddr tyF_60_6 rfl) ?_
  refine wo_w0 (w_storeN1 tyN_3 rfl rfl rfl (by repeat constructor) (by repeat constructor) ?_)
  refine wo_nil ?_
  refine wk_seq ?_
  refine wk_seq ?_
  refine wk_region ?_
  refine wo_v (v_move rfl) ?_
  refine wo_v (v_nilCheck rfl) ?_
  refine wo_v (v_fieldAddr tyF_60_5 rfl) ?_
  refine wo_v (v_load tyS_3 rfl rfl) ?_
  refine wo_v (v_gtr rfl rfl) ?_
  refine wo_nil ?_
  refine wk_if rfl (fun hb => ?_) (fun hb => ?_)
  · refine wk_seq ?_
    refine wk_region ?_
    refine wo_v (v_move rfl) ?_
    refine wo_v (v_nilCheck rfl) ?_
    refine wo_v (v_fieldAddr tyF_60_5 rfl) ?_
    refine wo_v (v_load tyS_3 rfl rfl) ?_
    refine wo_v (v_subI rfl rfl) ?_
    refine wo_v (v_nilCheck rfl) ?_
    refine wo_v (v_fieldAddr tyF_60_5 rfl) ?_
    refine wo_w0 (w_storeN1 tyN_3 rfl rfl rfl (by repeat constructor) (by repeat constructor) ?_)
    refine wo_nil ?_
    refine wk_region ?_
    refine wo_v (v_move rfl) ?_
    refine wo_v (v_move rfl) ?_
    refine wo_v (v_nilCheck rfl) ?_
    refine wo_v (v_fieldAddr tyF_60_5 rfl) ?_
    refine wo_v (v_load tyS_3 rfl rfl) ?_
    refine wo_v (v_eql rfl rfl) ?_
    refine wo_v (v_nilCheck rfl) ?_
    refine wo_v (v_fieldAddr tyF_60_7 rfl) ?_
    refine wo_w0 (w_storeN1 tyN_4 rfl rfl rfl (by repeat constructor) (by repeat constructor) ?_)
    refine wo_nil ?_
    refine wk_seq ?_
    refine wk_region ?_
    refine wo_v (v_move rfl) ?_
    refine wo_v (v_nilCheck rfl) ?_
    refine wo_v (v_fieldAddr tyF_60_7 rfl) ?_
    refine wo_v (v_load tyS_4 rfl rfl) ?_
    refine wo_v (v_assign rfl) ?_
    refine wo_nil ?_
    refine wk_ret Tryz.func22 rfl rfl (res_tmp rfl res_nil) fun W h => ?_
    have e1 : decide ((st.armed : Int) - 1 = 0) = st.act.down := by
      rw [DevA.act, if_pos (by omega)]; rw [decide_eq_decide]; omega
    have e2 : (st.armed : Int) - 1 = (st.act.armed : Nat) := by show _ = ((st.armed - 1 : Nat) : Int); omega
    rw [e1, e2] at h
    rw [e1]
    exact ⟨(), rfl, trivial, Ent.sat (by refine ent_take ?_; exact ent_tail) h⟩
  · refine wk_skip ?_
    refine wk_seq ?_
    refine wk_region ?_
    refine wo_v (v_move rfl) ?_
    refine wo_v (v_nilCheck rfl) ?_
    refine wo_v (v_fieldAddr tyF_60_7 rfl) ?_
    refine wo_v (v_load tyS_4 rfl rfl) ?_
    refine wo_v (v_assign rfl) ?_
    refine wo_nil ?_
    refine wk_ret Tryz.func22 rfl rfl (res_tmp rfl res_nil) fun W h => ?_
    have h0 : st.armed = 0 := by omega
    have e1 : st.down = st.act.down := by rw [DevA.act, if_neg (by omega)]
    have e2 : st.armed = st.act.armed := by show st.armed = st.armed - 1; omega
    rw [e1, e2] at h
    rw [e1]
    exact ⟨(), rfl, trivial, Ent.sat (by refine ent_take ?_; exact ent_tail) h⟩

end Go.Proofs.YtealmijbkebipaaGreatDoor

namespace Go.Proofs.YtealmijbkebipaaGreatDoor
open Go
attribute [local irreducible] own pe nf

theorem DevOK.armT {st : DevA} {X : DevX} (h : DevOK st X) {k : Nat} (hk : k ≤ 9223372036854775807) : DevOK { st with armed := k } X := { h with armed := hk }

theorem s_flash_Device_Arm {d : Nat} {st : DevA} {k : Int} (hk : k ≤ 9223372036854775807) : FnSpec Tryz.prog 8 #[.pointer (some ⟨d, 0, none⟩), .int .i64 k] [DevH d st]
    (fun _ : Unit => .tuple #[]) (fun _ => True) (fun _ R => DevH d { st with armed := k.toNat } :: R) := by
  refine fn_spec Tryz.func8 rfl rfl rfl rfl fun G R => ?_
  refine wk_nf fun ⟨mf, F, xl, Lz, mp, P, Q, T⟩ hw => ?_
  dsimp only [List.append_eq, List.cons_append, List.nil_append, devL] at hw ⊢
  refine wk_seq ?_
  refine wk_region ?_
  refine wo_v (v_move rfl) ?_
  refine wo_v (v_neSome tyU_27 rfl rfl) ?_
  refine wo_nil ?_
  refine wk_condT rfl ?_
  refine wk_region ?_
  refine wo_v (v_move rfl) ?_
  refine wo_v (v_move rfl) ?_
  refine wo_v (v_maxI rfl rfl) ?_
  refine wo_v (v_nilCheck rfl) ?_
  refine wo_v (v_fieldAddr tyF_60_5 rfl) ?_
  refine wo_w0 (w_storeN1 tyN_3 rfl rfl rfl (by repeat constructor) (by repeat constructor) ?_)
  refine wo_nil ?_
  refine wk_end Tryz.func8 rfl rfl res_nil fun W h => ?_
  have e1 : (if (0 : Int) > k then 0 else k) = (k.toNat : Int) := by split <;> omega
  rw [e1] at h
  exact ⟨(), rfl, trivial, Ent.sat (by refine ent_nf ⟨mf, F, xl, Lz, mp, P, Q, T⟩ (hw.armT (by omega)) ?_; exact ent_tail) h⟩

def DevA.new (n size : Nat) : DevA := ⟨n, size, fun _ => zeros size, [], 0, 0, false⟩

theorem DevOK.new {n size : Nat} (h1 : 1 ≤ n) (h2 : n ≤ 16384) (h3 : 96 ≤ size) (h4 : size ≤ 512) {b1 b2 : Nat} {T : TypeId} : DevOK (DevA.new n size) ⟨b1, [], nilSV, [], b2, [], [], T⟩ where
  fast := fun _ => rfl
  flen := fun e he => by cases he
  loose := rfl
  llen := fun e he => by cases he
  xln := rfl
  lacts := Nat.le_refl _
  past := fun e he => by cases he
  perm := .refl _
  s1 := h3
  s2 := h4
  n1 := h1
  n2 := h2
  acts := Nat.zero_le _
  armed := Nat.zero_le _

theorem s_flash_New {n size : Nat} (h1 : 1 ≤ n) (h2 : n ≤ 16384) (h3 : 96 ≤ size) (h4 : size ≤ 512) : FnSpec Tryz.prog 5 #[.int .i64 n, .int .i64 size] []
    (fun d : Nat => .pointer (some ⟨d, 0, none⟩)) (fun _ => True) (fun d R => DevH d (DevA.new n size) :: R) := by
  refine fn_spec Tryz.func5 rfl rfl rfl rfl fun G R => ?_
  dsimp only [List.append_eq, List.cons_append, List.nil_append]
  refine wk_seq ?_
  refine wk_region ?_
  refine wo_v (v_assign rfl) ?_
  refine wo_nil ?_
  refine wk_seq ?_
  refine wk_seq ?_
  refine wk_region ?_
  refine wo_v (v_move rfl) ?_
  refine wo_v (v_lss rfl rfl) ?_
  refine wo_v (v_move rfl) ?_
  refine wo_if (t := 7) rfl (fun k1 => ?_) (fun k1 => ?_)
  · exact absurd k1 (by omega)
  · refine wo_gv (v_move rfl) ?_
    refine wo_gv (v_gtr rfl rfl) ?_
    refine wo_v (v_pickF rfl rfl) ?_
    refine wo_v (v_move rfl) ?_
    refine wo_if (t := 11) rfl (fun k2 => ?_) (fun k2 => ?_)
    · exact absurd k2 (by omega)
    · refine wo_gv (v_move rfl) ?_
      refine wo_gv (v_lss rfl rfl) ?_
      refine wo_v (v_pickF rfl rfl) ?_
      refine wo_v (v_move rfl) ?_
      refine wo_if (t := 15) rfl (fun k3 => ?_) (fun k3 => ?_)
      · exact absurd k3 (by omega)
      · refine wo_gv (v_move rfl) ?_
        refine wo_gv (v_gtr rfl rfl) ?_
        refine wo_v (v_pickF rfl rfl) ?_
        refine wo_nil ?_
        refine wk_if rfl (fun k4 => ?_) (fun k4 => ?_)
        · exact absurd k4 (by omega)
        · refine wk_skip ?_
          refine wk_seq ?_
          refine wk_region ?_
          refine wo_v (v_move rfl) ?_
          refine wo_v (v_move rfl) ?_
          refine wo_w (w_makeMapH fun b1 => ?_)
          refine wo_w (w_makeMapH fun b2 => ?_)
          refine wo_v (v_buildN tyBu_60 rfl (by repeat constructor)) ?_
          refine wo_w (w_boxA rfl fun b3 => ?_)
          refine wo_v (v_assign rfl) ?_
          refine wo_nil ?_
          refine wk_ret Tryz.func5 rfl rfl (res_tmp rfl res_nil) fun W h => ?_
          have hA := Ent.sat (ent_oslNil (size := 2) (T := 79) (Ent.refl _)) h
          have hB := Ent.sat (ent_pe (q := bslAll []) (fun _ p hp => by cases hp) (Ent.refl _)) hA
          have hC := Ent.sat (ent_nf (p := fun _ : Unit => True) (l := fun _ : Unit => []) () trivial (Ent.refl _) .nil) hB
          refine ⟨b3, rfl, trivial, Ent.sat (by refine ent_nf ⟨b1, [], nilSV, [], b2, [], [], 60⟩ ?_ ?_; exact DevOK.new h1 h2 h3 h4; exact ent_tail) hC⟩


theorem kvM_get (F : List Ent3) (k : Int) : mget (kvM F) k = (fget F k).map (·.1.v) := mget_map F (fun p => p.1.v) k
theorem fget_mem {F : List Ent3} {k : Int} {p : SV × List UInt8} (h : fget F k = some p) : (k, p) ∈ F := gget_mem h
theorem bslAll_one {l : List (SV × List UInt8)} {p : SV × List UInt8} (hp : p ∈ l) (r : PH) (h : (bslAll l).q r) : (bsl p.1 p.2).q r := h p hp

theorem s_flash_Device_kept {d : Nat} {st : DevA} {at_ : Int} : FnSpec Tryz.prog 34 #[.pointer (some ⟨d, 0, none⟩), .int .i64 at_] [DevH d st]
    (fun x : SV => x.v) (fun x => x.n = st.size ∧ (st.fast at_).length = st.size) (fun x R => pe (bsl x (st.fast at_)) :: DevH d st :: R) := by
  refine fn_spec Tryz.func34 rfl rfl rfl rfl fun G R => ?_
  refine wk_nf fun ⟨mf, F, xl, Lz, mp, P, Q, T⟩ hw => ?_
  dsimp only [List.append_eq, List.cons_append, List.nil_append, devL] at hw ⊢
  have hf := hw.fast at_
  dsimp only at hf
  have hs2 := hw.s2
  refine wk_seq ?_
  refine wk_region ?_
  refine wo_v (v_assign rfl) ?_
  refine wo_nil ?_
  refine wk_seq ?_
  refine wk_seq ?_
  refine wk_region ?_
  refine wo_v (v_move rfl) ?_
  refine wo_v (v_nilCheck rfl) ?_
  refine wo_v (v_fieldAddr tyF_60_2 rfl) ?_
  refine wo_v (v_load tyS_56 rfl rfl) ?_
  refine wo_v (v_move rfl) ?_
  refine wo_v (v_lookup2 tyM_56 rfl rfl) ?_
  refine wo_v (v_move rfl) ?_
  refine wo_v (v_extract rfl rfl) ?_
  refine wo_v (v_extract rfl rfl) ?_
  refine wo_v (v_assign rfl) ?_
  refine wo_v (v_assign rfl) ?_
  refine wo_nil ?_
  refine wk_seq ?_
  refine wk_region ?_
  refine wo_v (v_move rfl) ?_
  refine wo_nil ?_
  refine wk_if rfl (fun hb => ?_) (fun hb => ?_)
  · refine wk_seq ?_
    refine wk_region ?_
    refine wo_v (v_move rfl) ?_
    refine wo_v (v_assign rfl) ?_
    refine wo_nil ?_
    refine wk_ret Tryz.func34 rfl rfl (res_tmp rfl res_nil) fun W h => ?_
    rw [kvM_get, Option.isSome_map] at hb
    obtain ⟨p, hp⟩ := Option.isSome_iff_exists.1 hb
    rw [hp] at hf
    have hfp : st.fast at_ = p.2 := hf
    have hm := fget_mem hp
    have hlen : p.2.length = st.size := hw.flen (at_, p) hm
    rw [hfp]
    refine Ent.sat (ent_ro (p := bslAll (F.map (·.2))) (q := bsl p.1 p.2) (by repeat constructor) (bslAll_one (List.mem_map.2 ⟨_, hm, rfl⟩)) (Ent.refl _)) h |> fun h' => ⟨p.1, ?_, ⟨?_, hlen⟩, Ent.sat (by refine ent_take ?_; refine ent_nf ⟨mf, F, xl, Lz, mp, P, Q, T⟩ hw ?_; exact ent_tail) h'⟩
    · show (mget (kvM F) at_).getD _ = _
      rw [kvM_get, hp]; rfl
    · have := HasPe.fact (φ := p.1.n = st.size) (HasPe.here (p := bsl p.1 p.2)) (fun r hr => by have := (roSl_fact hr).1; rw [u8s_length] at this; omega) _ _ h'
      exact this
  · refine wk_skip ?_
    refine wk_seq ?_
    refine wk_region ?_
    refine wo_v (v_move rfl) ?_
    refine wo_v (v_nilCheck rfl) ?_
    refine wo_v (v_fieldAddr tyF_60_1 rfl) ?_
    refine wo_v (v_load tyS_3 rfl rfl) ?_
    refine wo_w (w_makeSliceN tyU_45 tyB_5 tyN_5 tyZ_5 rfl rfl rfl rfl rfl (by omega) fun b1 => ?_)
    refine wo_v (v_assign rfl) ?_
    refine wo_nil ?_
    refine wk_ret Tryz.func34 rfl rfl (res_tmp rfl res_nil) fun W h => ?_
    rw [kvM_get, Option.isSome_map] at hb
    have hn : fget F at_ = none := by simpa using hb
    rw [hn] at hf
    have hfz : st.fast at_ = zeros st.size := hf
    rw [hfz]
    refine ⟨⟨some ⟨b1, 0, none⟩, st.size, st.size⟩, rfl, ⟨rfl, by simp [zeros]⟩, Ent.sat (by refine ent_take ?_; refine ent_nf ⟨mf, F, xl, Lz, mp, P, Q, T⟩ hw ?_; exact ent_tail) (up_freeze0 _ _ h)⟩

end Go.Proofs.YtealmijbkebipaaGreatDoor

namespace Go.Proofs.YtealmijbkebipaaGreatDoor
open Go
attribute [local irreducible] own pe nf

theorem looseC_len (l : List Ent3) : (looseC l).length = l.length * 2 := by
  induction l with
  | nil => rfl
  | cons e l ih => simp only [looseC, List.map_cons, List.flatten_cons, List.length_append] at *; rw [ih]; simp; omega
theorem looseC_get {l : List Ent3} {i : Nat} {e : Ent3} (h : l[i]? = some e) (sp : List Value) : (((looseC l) ++ sp).drop (0 + i * 2)).take 2 = [Value.int .i64 e.1, e.2.1.v] := by
  induction l generalizing i with
  | nil => simp at h
  | cons a l ih =>
    cases i with
    | zero => simp at h; subst h; simp [looseC]
    | succ i =>
      have := ih (i := i) (by simpa using h)
      rw [← this, show 0 + (i + 1) * 2 = (0 + i * 2) + 2 from by omega, ← List.drop_drop]
      simp [looseC]

theorem s_slices_Backward_write_write {x : SV} : FnSpec Tryz.prog 68 #[x.v] []
    (fun c : Nat => .func (.func 89) #[] #[.pointer (some ⟨c, 0, none⟩)]) (fun _ => True) (fun c R => blk c [x.v] 58 :: R) := by
  refine fn_spec Tryz.func68 rfl rfl rfl rfl fun G R => ?_
  dsimp only [List.append_eq, List.cons_append, List.nil_append]
  refine wk_seq ?_
  refine wk_region ?_
  refine wo_w (w_box1 rfl rfl fun b1 => ?_)
  refine wo_v (v_assign rfl) ?_
  refine wo_nil ?_
  refine wk_seq ?_
  refine wk_region ?_
  refine wo_v (v_makeFunc rfl rfl) ?_
  refine wo_v (v_assign rfl) ?_
  refine wo_nil ?_
  refine wk_ret Tryz.func68 rfl rfl (res_tmp rfl res_nil) fun W h => ?_
  exact ⟨_, rfl, trivial, h⟩

theorem s_slices_Backward_1_write_write {c : Nat} {x : SV} {l : List Ent3} {T : TypeId} {yv : Value} (hn : x.n = l.length) (hm : l.length ≤ 1099511627776) (J : Nat → HP) (D : Nat → HP)
    (hy : ∀ i e, l[i]? = some e → FvSpec Tryz.prog yv #[.int .i64 (i : Nat), .agg [.int .i64 e.1, e.2.1.v].toArray] [J (i + 1)] (fun b : Bool => .bool b) (fun _ => True) (fun b R => (bif b then J i else D i) :: R)) :
    FnSpec Tryz.prog 89 #[yv, .pointer (some ⟨c, 0, none⟩)] [J l.length, blk c [x.v] T, osl x (looseC l) 2 79]
    (fun _ : Option Nat => .tuple #[]) (fun _ => True) (fun o R => (match o with | none => J 0 | some i => D i) :: osl x (looseC l) 2 79 :: R) := by
  refine fn_spec Tryz.func89 rfl rfl rfl rfl fun G R => ?_
  dsimp only [List.append_eq, List.cons_append, List.nil_append]
  refine wk_seq ?_
  refine wk_region ?_
  refine wo_v (v_load tyS_58 rfl rfl) ?_
  refine wo_v (v_len tyU_58 rfl) ?_
  refine wo_v (v_subI rfl rfl) ?_
  refine wo_v (v_assign rfl) ?_
  refine wo_nil ?_
  refine wk_block ?_
  refine wk_loop (fun i : Nat => i ≤ l.length) (fun i => [(0, yv), (1, .pointer (some ⟨c, 0, none⟩)), (3, .int .i64 ((i : Int) - 1))]) (fun i => J i :: blk c [x.v] T :: osl x (looseC l) 2 79 :: R) (fun i => i) l.length (Nat.le_refl _) ⟨rfl, rfl, by rw [← hn]; rfl, trivial⟩ (by refine ent_take ?_; refine ent_take ?_; refine ent_take ?_; exact ent_tail) fun i hi next => ?_
  refine wk_seq ?_
  refine wk_seq ?_
  refine wk_region ?_
  refine wo_v (v_move rfl) ?_
  refine wo_v (v_geq rfl rfl) ?_
  refine wo_nil ?_
  refine wk_if rfl (fun hb => ?_) (fun hb => ?_)
  · obtain ⟨j, rfl⟩ : ∃ j, i = j + 1 := ⟨i - 1, by omega⟩
    rw [show (((j + 1 : Nat) : Int) - 1) = (j : Int) from by omega]
    have hjl : j < l.length := by omega
    have hg : l[j]? = some l[j] := List.getElem?_eq_getElem hjl
    generalize l[j] = q at hg
    refine wk_ent (M := osl x (looseC l) 2 79 :: J (j + 1) :: blk c [x.v] T :: R) (by refine ent_take ?_; refine ent_take ?_; refine ent_take ?_; exact ent_tail) ?_
    refine wk_oslOpen (by omega) fun b sp ha q1 q2 q3 q4 => ?_
    refine wk_skip ?_
    refine wk_seq ?_
    refine wk_block ?_
    refine wk_seq ?_
    refine wk_region ?_
    refine wo_v (v_move rfl) ?_
    refine wo_v (v_move rfl) ?_
    refine wo_v (v_load tyS_58 rfl rfl) ?_
    refine wo_v (v_move rfl) ?_
    refine wo_v (v_indexAddrS tyU_58 tyN_79 rfl rfl ha (by omega)) ?_
    refine wo_v (v_loadA tyA_79 rfl (looseC_get hg sp) rfl) ?_
    refine wo_ent (ent_oslClose ha q1 q2 q3 q4) ?_
    refine wo_w (w_callv rfl (hy j q hg) rfl (by repeat constructor) ?_)
    rintro y -
    refine wo_v (v_not rfl) ?_
    refine wo_nil ?_
    refine wk_if rfl (fun hyb => ?_) (fun hyb => ?_)
    · refine wk_ret Tryz.func89 rfl rfl res_nil fun W h => ?_
      subst hyb
      exact ⟨some j, rfl, trivial, Ent.sat (by refine ent_take ?_; refine ent_take ?_; exact ent_tail) h⟩
    · subst hyb
      refine wk_skip ?_
      refine wk_inBlock ?_
      refine wk_region ?_
      refine wo_v (v_move rfl) ?_
      refine wo_v (v_subI rfl rfl) ?_
      refine wo_v (v_assign rfl) ?_
      refine wo_nil ?_
      refine (next j (by omega) (by omega)).use ⟨rfl, rfl, rfl, trivial⟩ ?_
      dsimp only [cond_true]
      exact (by refine ent_take ?_; refine ent_take ?_; refine ent_take ?_; exact ent_tail)
  · refine wk_exit rfl ?_
    refine wk_end Tryz.func89 rfl rfl res_nil fun W h => ?_
    obtain rfl : i = 0 := by omega
    exact ⟨none, rfl, trivial, Ent.sat (by refine ent_take ?_; refine ent_take ?_; exact ent_tail) h⟩

end Go.Proofs.YtealmijbkebipaaGreatDoor
