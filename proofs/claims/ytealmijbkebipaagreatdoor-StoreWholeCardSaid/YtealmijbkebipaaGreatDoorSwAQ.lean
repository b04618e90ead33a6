/- Layer 13 (store): Flush. Layer 13 (store): Commit. Layer 13 (store): Open and Format. -/
import Derived.Test.YtealmijbkebipaaGreatDoorSwAP
namespace Go.Proofs.YtealmijbkebipaaGreatDoor
open Go
theorem fvspec_nf1 {P : Program} {fv : Value} {args : Array Value} {β : Type} {p : β → Prop} {l : β → List HP} {Pre : List HP} {α : Type} {ret : α → Value} {fact : α → Prop} {Post : α → List HP → List HP} (h : ∀ a, p a → FvSpec P fv args (l a ++ Pre) ret fact Post) : FvSpec P fv args (nf p l :: Pre) ret fact Post := by
  intro G w R s
  obtain ⟨h0, r, H, h1, h2, hs, ⟨a, hp, k1⟩, k2⟩ := s
  refine h a hp G w R ⟨h0, r, H, ?_⟩
  rw [List.append_assoc]
  exact starL_append.2 ⟨h1, h2, hs, k1, k2⟩
attribute [local irreducible] own pe nf

theorem DevA.put_le (st : DevA) (k : Int) (x : LeafA) : (st.put k x).2.acts ≤ st.acts + 1 ∧ (st.put k x).2.size = st.size := by
  unfold DevA.put
  split
  · unfold DevA.write
    split
    · split
      · exact ⟨Nat.le_refl _, rfl⟩
      · exact ⟨Nat.le_succ _, rfl⟩
    · exact ⟨Nat.le_succ _, rfl⟩
  · exact ⟨Nat.le_succ _, rfl⟩

def StA.clean (S : StA) (k : Int) (q : PageA) : StA := { S with mem := mset S.mem k { q with dirty := false } }

theorem s_store_Store_dirty {s : Nat} : FnSpec Tryz.prog 19 #[.pointer (some ⟨s, 0, none⟩)] []
    (fun b : Nat => .func (.func 46) #[] #[.pointer (some ⟨b, 0, none⟩)]) (fun _ => True) (fun b R => blk b [.pointer (some ⟨s, 0, none⟩)] 29 :: R) := by
  refine fn_spec Tryz.func19 rfl rfl rfl rfl fun G R => ?_
  dsimp only [List.append_eq, List.cons_append, List.nil_append]
  refine wk_seq ?_
  refine wk_region ?_
  refine wo_w (w_box1 rfl rfl fun b1 => ?_)
  refine wo_v (v_assign rfl) ?_
  refine wo_nil ?_
  refine wk_seq ?_
  refine wk_region ?_
  refine wo_v (v_makeFunc rfl rfl) ?_
  refine wo_v (v_assign rfl) ?_
  refine wo_nil ?_
  refine wk_ret Tryz.func19 rfl rfl (res_tmp rfl res_nil) fun W h => ?_
  exact ⟨_, rfl, trivial, h⟩

structure FluI (S0 : StA) (st0 : DevA) (ks : List Int) (i : Nat) (S : StA) (st : DevA) : Prop where
  le : i ≤ ks.length
  fl : S0.flushL st0 ks = S.flushL st (ks.drop i)
  mem : ∀ k ∈ ks, (S.mem k).isSome = true
  size : st.size = st0.size
  acts : st.acts + (ks.length - i) ≤ st0.acts + ks.length
theorem FluI.skip {S0 S : StA} {st0 st : DevA} {ks : List Int} {i : Nat} {k : Int} {q : PageA} (h : FluI S0 st0 ks i S st) (hk : ks[i]? = some k) (hq : S.mem k = some q) (hd : q.dirty = false) : FluI S0 st0 ks (i + 1) S st := by
  have hlt := (List.getElem?_eq_some_iff.1 hk).1
  refine ⟨hlt, ?_, h.mem, h.size, by have := h.acts; omega⟩
  rw [h.fl, List.drop_eq_getElem_cons hlt, StA.flushL]
  rw [List.getElem?_eq_getElem hlt] at hk
  rw [Option.some.inj hk, hq]
  simp only [hd]; rfl
theorem FluI.next {S0 S : StA} {st0 st : DevA} {ks : List Int} {i : Nat} {k : Int} {q : PageA} (h : FluI S0 st0 ks i S st) (hk : ks[i]? = some k) (hq : S.mem k = some q) (hd : q.dirty = true) (he : (S.out st k q).1 = 0) : FluI S0 st0 ks (i + 1) (S.clean k q) (S.out st k q).2 := by
  have hlt := (List.getElem?_eq_some_iff.1 hk).1
  obtain ⟨p1, p2⟩ := DevA.put_le st (S.first + k) (StA.leaf k q)
  refine ⟨hlt, ?_, fun j hj => ?_, p2.trans h.size, by have := h.acts; show (st.put (S.first + k) (StA.leaf k q)).2.acts + _ ≤ _; omega⟩
  · rw [h.fl, List.drop_eq_getElem_cons hlt, StA.flushL]
    rw [List.getElem?_eq_getElem hlt] at hk
    rw [Option.some.inj hk, hq]
    simp only [hd, he, if_true]; rfl
  · show (mset S.mem k _ j).isSome = true
    unfold mset
    split
    · rfl
    · exact h.mem j hj
theorem FluI.bad {S0 S : StA} {st0 st : DevA} {ks : List Int} {i : Nat} {k : Int} {q : PageA} (h : FluI S0 st0 ks i S st) (hk : ks[i]? = some k) (hq : S.mem k = some q) (hd : q.dirty = true) (he : (S.out st k q).1 ≠ 0) : S0.flushL st0 ks = ((S.out st k q).1, S, (S.out st k q).2) := by
  have hlt := (List.getElem?_eq_some_iff.1 hk).1
  rw [h.fl, List.drop_eq_getElem_cons hlt, StA.flushL]
  rw [List.getElem?_eq_getElem hlt] at hk
  rw [Option.some.inj hk, hq]
  simp only [hd, if_true]
  rw [if_neg he]
theorem StOK.clean {p : PlanA} {S : StA} {X : StX} (h : StOK p S X) {k : Int} {q : PageA} (hq : S.mem k = some q) : StOK p (S.clean k q) X := by
  refine h.withMem fun j q' hj => ?_
  unfold mset at hj
  split at hj
  · rename_i hjk
    cases hj
    rw [hjk]
    exact h.mem k q hq
  · exact h.mem j q' hj

theorem s_store_Store_dirty_1 {s d cb : Nat} {p : PlanA} {S : StA} {st : DevA} {T : TypeId} {yv : Value} (hd : DevB st) (ha : st.acts + 4096 < 1099511627776) (J : DevA → HP) (D : Nat → DevA → HP)
    (hy : ∀ S st k q sv, DevB st → PgB q → 0 ≤ k → k < S.pages → S.mem k = some q → q.dirty = true → FvSpec Tryz.prog yv #[.int .i64 k, pgV q sv] [J st, StH s d p S, pe (bsl sv q.load)] (fun b : Bool => .bool b) (fun b => b = decide ((S.out st k q).1 = 0))
      (fun b R => (bif b then J (S.out st k q).2 else D (S.out st k q).1 (S.out st k q).2) :: StH s d p (bif b then S.clean k q else S) :: R)) :
    FnSpec Tryz.prog 46 #[yv, .pointer (some ⟨cb, 0, none⟩)] [J st, StH s d p S, blk cb [.pointer (some ⟨s, 0, none⟩)] T]
    (fun _ : List Int => .tuple #[]) (fun ks => KeysR S.mem ks p.memory) (fun ks R => (if (S.flushL st ks).1 = 0 then J (S.flushL st ks).2.2 else D (S.flushL st ks).1 (S.flushL st ks).2.2) :: StH s d p (S.flushL st ks).2.1 :: R) := by
  refine fn_spec Tryz.func46 rfl rfl rfl rfl fun G R => ?_
  dsimp only [List.append_eq, List.cons_append, List.nil_append]
  refine wk_ent (ent_take (p := StH s d p S) (t := by repeat constructor) (Ent.refl _)) ?_
  refine wk_nf fun X hw => ?_
  dsimp only [List.append_eq, List.cons_append, List.nil_append, stL, stB]
  have hpm := hw.plan.m2
  refine wk_seq ?_
  refine wk_region ?_
  refine wo_v (v_load tyS_29 rfl rfl) ?_
  refine wo_v (v_nilCheck rfl) ?_
  refine wo_v (v_fieldAddr tyF_74_10 rfl) ?_
  refine wo_v (v_load tyS_72 rfl rfl) ?_
  refine wo_w (w_call (s_clock_Clock_Keys (room := p.memory) (mem := S.mem)) rfl (by repeat constructor) ?_)
  rintro ⟨x, ks⟩ ⟨hx, hK⟩
  dsimp only at hx hK ⊢
  have hkl := hK.len
  refine wo_up up_freeze ?_
  refine wo_ent (M := StH s d p S :: _) (ent_nf X hw (Ent.refl _)) ?_
  refine wo_v (v_len tyU_23 rfl) ?_
  refine wo_v (v_move rfl) ?_
  refine wo_nil ?_
  refine wk_block ?_
  refine wk_loop (fun a : Nat × StA × DevA => FluI S st ks a.1 a.2.1 a.2.2) (fun a => [(0, yv), (1, .pointer (some ⟨cb, 0, none⟩)), (11, x.v), (12, .int .i64 x.n), (13, .int .i64 a.1)]) (fun a => StH s d p a.2.1 :: J a.2.2 :: pe (roSl x (ks.map keyV) 1) :: blk cb [.pointer (some ⟨s, 0, none⟩)] T :: R) (fun a => ks.length - a.1) (0, S, st) ⟨Nat.zero_le _, by rw [List.drop_zero], fun k hk => (hK.mem k).1 hk, rfl, Nat.le_refl _⟩ ⟨rfl, rfl, rfl, rfl, rfl, trivial⟩ (by refine ent_take ?_; refine ent_take ?_; refine ent_take ?_; refine ent_take ?_; exact ent_tail) fun a0 hI next => ?_
  obtain ⟨i, S', st'⟩ := a0
  dsimp only at hI next ⊢
  clear hw X
  refine wk_seq ?_
  refine wk_region ?_
  refine wo_v (v_lss rfl rfl) ?_
  refine wo_nil ?_
  refine wk_seq ?_
  refine wk_if rfl (fun hb => ?_) (fun hb => ?_)
  · have hil : i < ks.length := by omega
    have hgk : ks[i]? = some ks[i] := List.getElem?_eq_getElem hil
    generalize ks[i] = k at hgk
    have hgv : (ks.map keyV)[i]? = some (.int .i64 k) := by rw [List.getElem?_map, hgk]; rfl
    obtain ⟨q, hq⟩ := Option.isSome_iff_exists.1 (hI.mem k (List.mem_of_getElem? hgk))
    have hI1 := hI.size
    have hI2 := hI.acts
    have hdb : DevB st' := ⟨by rw [hI1]; exact hd.s1, by rw [hI1]; exact hd.s2, by omega⟩
    refine wk_nf fun X hw => ?_
    dsimp only [List.append_eq, List.cons_append, List.nil_append, stL, stB] at hw ⊢
    obtain ⟨m1, m2, m3, m4, m5⟩ := hw.mem k q hq
    refine wk_block' (x := x) (cells := ks.map keyV) (size := 1) (by repeat constructor) (by omega) fun b5 o5 vs5 T5 fz5 ha5 hv5 hle5 => ?_
    refine wk_skip ?_
    refine wk_seq ?_
    refine wk_block ?_
    refine wk_seq ?_
    refine wk_region ?_
    refine wo_v (v_indexAddrS tyU_23 tyN_3 rfl rfl ha5 (by omega)) ?_
    refine wo_v (v_load tyS_3 rfl (ro_get hv5 hgv)) ?_
    refine wo_v (v_assign rfl) ?_
    refine wo_nil ?_
    refine wk_seq ?_
    refine wk_region ?_
    refine wo_v (v_load tyS_29 rfl rfl) ?_
    refine wo_v (v_nilCheck rfl) ?_
    refine wo_v (v_fieldAddr tyF_74_10 rfl) ?_
    refine wo_v (v_load tyS_72 rfl rfl) ?_
    refine wo_v (v_move rfl) ?_
    refine wo_w (w_call (s_clock_Clock_Look (mem := S'.mem) (k := k)) rfl (by repeat constructor) ?_)
    rintro sv -
    have hpq : pageO (S'.mem k) = q := by rw [hq]; rfl
    rw [hpq]
    refine wo_v (v_move rfl) ?_
    refine wo_v (v_extract rfl rfl) ?_
    refine wo_v (v_extract rfl rfl) ?_
    refine wo_ent (M := StH s d p S' :: _) (ent_nf X hw (Ent.refl _)) ?_
    refine wo_w (w_allocA tyZ_67 fun b1 => ?_)
    refine wo_w0 (w_storeN tyN_67 rfl rfl rfl rfl (by repeat constructor) (by repeat constructor) ?_)
    refine wo_v (v_assign rfl) ?_
    refine wo_nil ?_
    refine wk_seq ?_
    refine wk_region ?_
    refine wo_v (v_fieldAddr tyF_67_2 rfl) ?_
    refine wo_v (v_load tyS_4 rfl rfl) ?_
    refine wo_v (v_move rfl) ?_
    refine wo_if (t := 28) rfl (fun hdt => ?_) (fun hdt => ?_)
    · refine wo_gv (v_move rfl) ?_
      refine wo_gv (v_move rfl) ?_
      refine wo_gv (v_loadN tyA_67 rfl (by repeat constructor) (by repeat constructor)) ?_
      refine wo_gw (w_callv rfl (hy S' st' k q sv hdb ⟨m3, m4, m5⟩ m1 m2 hq hdt) rfl (by repeat constructor) ?_)
      rintro y hyb
      refine wo_gv (v_not rfl) ?_
      refine wo_v (v_pickT rfl rfl) ?_
      refine wo_nil ?_
      refine wk_if rfl (fun hyt => ?_) (fun hyt => ?_)
      · refine wk_ret Tryz.func46 rfl rfl res_nil fun W h => ?_
        subst hyt
        have he : (S'.out st' k q).1 ≠ 0 := by simpa using hyb.symm
        have hfl := hI.bad hgk hq hdt he
        refine ⟨ks, rfl, hK, Ent.sat ?_ h⟩
        rw [hfl]
        dsimp only [cond_false]
        rw [if_neg he]
        exact (by refine ent_take ?_; refine ent_take ?_; exact ent_tail)
      · subst hyt
        have he : (S'.out st' k q).1 = 0 := by simpa using hyb.symm
        refine wk_skip ?_
        refine wk_inBlock ?_
        refine wk_region ?_
        refine wo_v (v_addI rfl rfl) ?_
        refine wo_v (v_move rfl) ?_
        refine wo_nil ?_
        refine (next (i + 1, S'.clean k q, (S'.out st' k q).2) (hI.next hgk hq hdt he) (by dsimp only; omega)).use ⟨rfl, rfl, rfl, rfl, rfl, trivial⟩ ?_
        dsimp only [cond_true]
        exact (by refine ent_take ?_; refine ent_take ?_; refine ent_take ?_; refine ent_take ?_; exact ent_tail)
    · refine wo_gF ?_
      refine wo_gF ?_
      refine wo_gF ?_
      refine wo_gF ?_
      refine wo_gF ?_
      refine wo_v (v_pickF rfl rfl) ?_
      refine wo_nil ?_
      refine wk_condF rfl ?_
      refine wk_skip ?_
      refine wk_inBlock ?_
      refine wk_region ?_
      refine wo_v (v_addI rfl rfl) ?_
      refine wo_v (v_move rfl) ?_
      refine wo_nil ?_
      refine (next (i + 1, S', st') (hI.skip hgk hq hdt) (by dsimp only; omega)).use ⟨rfl, rfl, rfl, rfl, rfl, trivial⟩ ?_
      exact (by refine ent_take ?_; refine ent_take ?_; refine ent_take ?_; refine ent_take ?_; exact ent_tail)
  · refine wk_exit rfl ?_
    refine wk_end Tryz.func46 rfl rfl res_nil fun W h => ?_
    have hil : i = ks.length := by have := hI.le; omega
    have hfl := hI.fl
    rw [hil, List.drop_length, StA.flushL] at hfl
    refine ⟨ks, rfl, hK, Ent.sat ?_ h⟩
    rw [hfl]
    dsimp only
    rw [if_pos rfl]
    exact (by refine ent_take ?_; refine ent_take ?_; exact ent_tail)

/-- A loop's record, the store's address, what is to be told. -/
def fluJ (LP : LoopState → Option Code → HP) (s d b1 b2 : Nat) (st : DevA) : HP := nf (fun _ : Unit => True) fun _ => [LP .ready none, blk b1 [.pointer (some ⟨s, 0, none⟩)] 29, blk b2 [.int .i64 0] 30, DevH d st]
def fluD (LP : LoopState → Option Code → HP) (s d b1 b2 : Nat) (e : Nat) (st : DevA) : HP := nf (fun _ : Unit => True) fun _ => [LP .done (some .ret), blk b1 [.pointer (some ⟨s, 0, none⟩)] 29, blk b2 [.int .i64 e] 30, DevH d st]

theorem PutR.stays {m m' : MemA} {k : Int} {p q : PageA} {res : Option (Int × PageA)} (h : PutR m k p res m') (hq : m k = some q) : res = none ∧ m' = mset m k p := by
  cases h with
  | stay => exact ⟨rfl, rfl⟩
  | goes h1 _ => rw [hq] at h1; cases h1

theorem s_store_Store_Flush {s d : Nat} {p : PlanA} {S : StA} {st : DevA} (hd : DevB st) (ha : st.acts + 4096 < 1099511627776) : FnSpec Tryz.prog 10 #[.pointer (some ⟨s, 0, none⟩)] [StH s d p S, DevH d st]
    (fun ks : List Int => .int .i64 (S.flushL st ks).1) (fun ks => KeysR S.mem ks p.memory) (fun ks R => StH s d p (S.flushL st ks).2.1 :: DevH d (S.flushL st ks).2.2 :: R) := by
  refine fn_spec Tryz.func10 rfl rfl rfl rfl fun G R => ?_
  dsimp only [List.append_eq, List.cons_append, List.nil_append]
  refine wk_seq ?_
  refine wk_region ?_
  refine wo_w (w_box1 rfl rfl fun b1 => ?_)
  refine wo_w (w_alloc1 tyZ_30 rfl fun b2 => ?_)
  refine wo_nil ?_
  refine wk_seq ?_
  refine wk_seq ?_
  refine wk_region ?_
  refine wo_v (v_load tyS_29 rfl rfl) ?_
  refine wo_v (v_eqSome tyU_29 rfl rfl) ?_
  refine wo_nil ?_
  refine wk_condF rfl ?_
  refine wk_skip ?_
  refine wk_seq ?_
  refine wk_seq ?_
  refine wk_region ?_
  refine wo_v (v_load tyS_29 rfl rfl) ?_
  refine wo_w (w_call (s_store_Store_dirty (s := s)) rfl (by repeat constructor) ?_)
  rintro cb -
  refine wo_nil ?_
  refine wk_block ?_
  refine Wk.use (E := [(1, .pointer (some ⟨b1, 0, none⟩)), (2, .pointer (some ⟨b2, 0, none⟩)), (9, .func (.func 46) #[] #[.pointer (some ⟨cb, 0, none⟩)])]) (M := defH [] :: _) ?_ ⟨rfl, rfl, rfl, trivial⟩ (ent_defNil (Ent.refl _))
  refine wk_rangeFunc (rs := []) rfl rfl (by repeat constructor) fun lp r => ?_
  refine callw_loop fun LP hLP => ?_
  have hy : ∀ S st k q sv, DevB st → PgB q → 0 ≤ k → k < S.pages → S.mem k = some q → q.dirty = true → FvSpec Tryz.prog (.func (.yield lp) #[] #[]) #[.int .i64 k, pgV q sv] [fluJ LP s d b1 b2 st, StH s d p S, pe (bsl sv q.load)] (fun b : Bool => .bool b) (fun b => b = decide ((S.out st k q).1 = 0)) (fun b R => (bif b then fluJ LP s d b1 b2 (S.out st k q).2 else fluD LP s d b1 b2 (S.out st k q).1 (S.out st k q).2) :: StH s d p (bif b then S.clean k q else S) :: R) := by
    intro S st k q sv hd hq h0 h1 hmq hdt
    refine fvspec_nf1 fun _ _ => ?_
    subst hLP
    dsimp only [List.append_eq, List.cons_append, List.nil_append]
    refine fv_yield (args := [_, _]) rfl rfl fun G R => ?_
    dsimp only [List.append_eq, List.cons_append, List.nil_append]
    refine wk_seq ?_
    refine wk_region ?_
    refine wo_v (v_assign rfl) ?_
    refine wo_nil ?_
    refine wk_region ?_
    refine wo_w (w_allocA tyZ_67 fun b3 => ?_)
    refine wo_w0 (w_storeN tyN_67 rfl rfl rfl rfl (by repeat constructor) (by repeat constructor) ?_)
    refine wo_nil ?_
    refine wk_beginRound rfl (by repeat constructor) ?_
    refine wk_block ?_
    refine wk_seq ?_
    refine wk_seq ?_
    refine wk_region ?_
    refine wo_v (v_load tyS_29 rfl rfl) ?_
    refine wo_v (v_move rfl) ?_
    refine wo_v (v_loadN tyA_67 rfl (by repeat constructor) (by repeat constructor)) ?_
    refine wo_w (w_call (s_store_Store_out (S := S) (st := st) (n := k) (q := q) (sv := sv) hd hq h0 h1) rfl (by repeat constructor) ?_)
    rintro ⟨⟩ -
    refine wo_v (v_assign rfl) ?_
    refine wo_nil ?_
    refine wk_seq ?_
    refine wk_region ?_
    refine wo_v (v_move rfl) ?_
    refine wo_v (v_neq rfl rfl) ?_
    refine wo_nil ?_
    refine wk_if rfl (fun he => ?_) (fun he => ?_)
    · refine wk_seq ?_
      refine wk_region ?_
      refine wo_v (v_move rfl) ?_
      refine wo_w0 (w_storeN1 tyN_30 rfl rfl rfl (by repeat constructor) (by repeat constructor) ?_)
      refine wo_nil ?_
      refine wk_roundRet rfl (by repeat constructor) fun W h => ?_
      have he' : (S.out st k q).1 ≠ 0 := by omega
      refine ⟨false, rfl, (by simp [he']), Ent.sat ?_ h⟩
      dsimp only [cond_false]
      refine ent_nf () trivial ?_
      exact (by refine ent_take ?_; exact ent_tail)
    · have he' : (S.out st k q).1 = 0 := by omega
      refine wk_ent (ent_take (p := StH s d p S) (t := by repeat constructor) (Ent.refl _)) ?_
      refine wk_nf fun X hw => ?_
      dsimp only [List.append_eq, List.cons_append, List.nil_append, stL, stB] at hw ⊢
      refine wk_skip ?_
      refine wk_seq ?_
      refine wk_region ?_
      refine wo_v (v_fieldAddr tyF_67_2 rfl) ?_
      refine wo_w0 (w_storeN1 tyN_4 rfl rfl rfl (by repeat constructor) (by repeat constructor) ?_)
      refine wo_nil ?_
      refine wk_draw (n := 7) (pend := 127) ⟨7, fun _ => True⟩ mixed (by kernel_rfl) rfl (fun _ _ => trivial) rfl ?_
      refine wd_a 0 rfl (v_load tyS_29 rfl rfl) ?_
      refine wd_a 1 rfl (v_nilCheck rfl) ?_
      refine wd_a 2 rfl (v_fieldAddr tyF_74_10 rfl) ?_
      refine wd_a 3 rfl (v_load tyS_72 rfl rfl) ?_
      refine wd_a 4 rfl (v_move rfl) ?_
      refine wd_a 5 rfl (v_loadN tyA_67 rfl (by repeat constructor) (by repeat constructor)) ?_
      refine wd_l 6 rfl (w_call (s_clock_Clock_Put (mem := S.mem) (p := ⟨q.stamp, q.load, false⟩) (sv := sv)) rfl (by repeat constructor) ?_)
      rintro ⟨res, sv2, mem'⟩ hput
      refine ⟨fun _ _ _ => trivial, ?_⟩
      refine wd_done ?_
      refine wk_inBlock ?_
      refine wk_roundEnd rfl (by repeat constructor) fun W h => ?_
      obtain ⟨_, hm'⟩ := hput.stays hmq
      dsimp only at hm' h
      subst hm'
      refine ⟨true, rfl, (by simp [he']), Ent.sat ?_ h⟩
      dsimp only [cond_true]
      refine ent_nf () trivial ?_
      refine ent_nf X (hw.clean hmq) ?_
      exact ent_tail
  refine callw_ent (M := fluJ LP s d b1 b2 st :: _) (ent_nf () trivial (Ent.refl _)) ?_
  refine callw_spec (FnSpec.fv (first := #[]) (args := #[_]) (cap := #[_]) (s_store_Store_dirty_1 (p := p) (S := S) hd ha (fluJ LP s d b1 b2) (fluD LP s d b1 b2) hy)) (by repeat constructor) fun ks hK => ?_
  by_cases hfe : (S.flushL st ks).1 = 0
  rotate_left
  · rw [if_neg hfe]
    refine wk_nf fun _ _ => ?_
    subst hLP
    dsimp only [List.append_eq, List.cons_append, List.nil_append]
    refine wk_endRange (by repeat constructor) (by simp) ?_
    dsimp only [Option.map, Option.toList, List.cons_append, List.nil_append]
    refine wk_retD Tryz.func10 rfl rfl (by repeat constructor) (res_cell1 tyS_30 rfl (by repeat constructor) rfl res_nil) fun W h => ?_
    exact ⟨ks, rfl, hK, Ent.sat (by refine ent_take ?_; refine ent_take ?_; exact ent_tail) h⟩
  rw [if_pos hfe]
  refine wk_nf fun _ _ => ?_
  subst hLP
  dsimp only [List.append_eq, List.cons_append, List.nil_append]
  refine wk_endRange (by repeat constructor) (by simp) ?_
  dsimp only [Option.map, Option.toList, List.nil_append]
  refine wk_inBlock ?_
  refine wk_seq ?_
  refine wk_region ?_
  refine wo_w0 (w_storeN1 tyN_30 rfl rfl rfl (by repeat constructor) (by repeat constructor) ?_)
  refine wo_nil ?_
  refine wk_retD Tryz.func10 rfl rfl (by repeat constructor) (res_cell1 tyS_30 rfl (by repeat constructor) rfl res_nil) fun W h => ?_
  exact ⟨ks, by rw [hfe]; rfl, hK, Ent.sat (by refine ent_take ?_; refine ent_take ?_; exact ent_tail) h⟩

end Go.Proofs.YtealmijbkebipaaGreatDoor

namespace Go.Proofs.YtealmijbkebipaaGreatDoor
open Go
attribute [local irreducible] own pe nf

/-- Some keys are cleared already. -/
structure ComI (S : StA) (LD : List Int) (D : List Int) (T : SetA) (m : MemA) : Prop where
  n : T.n = S.taken.n
  hand : T.hand = S.taken.hand
  len : T.taken.length = S.taken.taken.length
  has : ∀ i, T.has i = (S.taken.has i && !decide ((i : Int) ∈ D))
  mem : m = fun k => if k ∈ D then none else S.mem k
  sub : ∀ k ∈ D, k ∈ LD
theorem ComI.start (S : StA) (LD : List Int) : ComI S LD [] S.taken S.mem := ⟨rfl, rfl, rfl, fun i => by simp, by funext k; simp, fun k h => by cases h⟩
theorem SetA.has_put (st : SetA) (k : Nat) (b : Bool) (i : Nat) : (st.put k b).has i = if i = k ∧ k < st.taken.length then b else st.has i := by
  unfold SetA.put SetA.has
  rw [List.getElem?_set]
  by_cases h : k = i
  · subst h
    rw [if_pos rfl]
    by_cases h2 : k < st.taken.length
    · rw [if_pos h2, if_pos ⟨rfl, h2⟩]; rfl
    · rw [if_neg h2, if_neg (fun h => h2 h.2), List.getElem?_eq_none (by omega)]
  · rw [if_neg h, if_neg (fun hh => h hh.1.symm)]
theorem ComI.step {S : StA} {LD D : List Int} {T : SetA} {m : MemA} (h : ComI S LD D T m) {k : Int} (hk : k ∈ LD) : ComI S LD (D ++ [k]) (if (decide (0 ≤ k) && T.has k.toNat) = true then T.put k.toNat false else T) (mout m k) := by
  refine ⟨by split <;> exact h.n, by split <;> exact h.hand, ?_, fun i => ?_, ?_, fun j hj => ?_⟩
  · split
    · show (T.taken.set _ _).length = _; rw [List.length_set]; exact h.len
    · exact h.len
  · have h1 := h.has i
    by_cases hik : (i : Int) = k
    · subst hik
      have hD : (decide ((i : Int) ∈ D ++ [(i : Int)])) = true := by simp
      rw [hD]
      simp only [Bool.not_true, Bool.and_false]
      by_cases ht : T.has i = true
      · rw [if_pos (by simp [ht]), SetA.has_put, Int.toNat_natCast, if_pos]
        refine ⟨rfl, ?_⟩
        unfold SetA.has at ht
        by_cases hl : i < T.taken.length
        · exact hl
        · rw [List.getElem?_eq_none (by omega)] at ht; cases ht
      · rw [if_neg (by simp [ht])]; simpa using ht
    · have hD : (decide ((i : Int) ∈ D ++ [k])) = decide ((i : Int) ∈ D) := by
        rw [decide_eq_decide]; simp [hik]
      rw [hD, ← h1]
      split
      · rename_i hc
        simp only [Bool.and_eq_true, decide_eq_true_eq] at hc
        rw [SetA.has_put, if_neg]
        rintro ⟨h2, _⟩; omega
      · rfl
  · rw [h.mem]; funext j
    unfold mout
    by_cases hj : j = k
    · simp [hj]
    · simp [hj]
  · rcases List.mem_append.1 hj with hj | hj
    · exact h.sub j hj
    · simp at hj; rw [hj]; exact hk
theorem ComI.done {S : StA} {LD D : List Int} {T : SetA} {m : MemA} (h : ComI S LD D T m) (hall : ∀ k ∈ LD, k ∈ D) (hd : ∀ k, S.dead k = decide (k ∈ LD)) : T = S.commit.taken ∧ m = S.commit.mem := by
  have hDL : ∀ k, decide (k ∈ D) = S.dead k := fun k => by rw [hd, decide_eq_decide]; exact ⟨h.sub k, hall k⟩
  constructor
  · obtain ⟨n, tk, hand⟩ := T
    have h1 := h.n
    have h2 := h.hand
    simp only at h1 h2
    show SetA.mk n tk hand = SetA.mk S.taken.n _ S.taken.hand
    rw [h1, h2]
    congr 1
    apply List.ext_getElem?
    intro i
    rw [List.getElem?_mapIdx]
    have h3 := h.has i
    have h4 := h.len
    simp only [SetA.has] at h3 h4
    by_cases hi : i < tk.length
    · have hi2 : i < S.taken.taken.length := by omega
      rw [List.getElem?_eq_getElem hi, List.getElem?_eq_getElem hi2] at *
      simp only [Option.getD_some] at h3
      simp only [Option.map_some]
      rw [h3, hDL]
    · rw [List.getElem?_eq_none (by omega), List.getElem?_eq_none (by omega)]; rfl
  · rw [h.mem]; funext k
    show (if k ∈ D then none else S.mem k) = if S.dead k = true then none else S.mem k
    rw [← hDL]; simp
def leftN (LD D : List Int) : Nat := (LD.filter fun k => !decide (k ∈ D)).length
theorem leftN_lt {LD D : List Int} {k : Int} (hk : k ∈ LD) (hn : k ∉ D) : leftN LD (D ++ [k]) < leftN LD D := by
  unfold leftN
  induction LD with
  | nil => cases hk
  | cons a l ih =>
    have hle : ∀ l : List Int, (l.filter fun j => !decide (j ∈ D ++ [k])).length ≤ (l.filter fun j => !decide (j ∈ D)).length := by
      intro l
      induction l with
      | nil => exact Nat.le_refl _
      | cons b l ih =>
        rw [List.filter_cons, List.filter_cons]
        by_cases h1 : b ∈ D
        · rw [if_neg (by simp [h1]), if_neg (by simp [h1])]; exact ih
        · by_cases h2 : b = k
          · rw [if_neg (by simp [h2]), if_pos (by simp [h1])]; exact Nat.le_succ_of_le ih
          · rw [if_pos (by simp [h1, h2]), if_pos (by simp [h1])]; exact Nat.succ_le_succ ih
    rw [List.filter_cons, List.filter_cons]
    by_cases h2 : a = k
    · rw [if_neg (by simp [h2]), if_pos (by simp [h2, hn])]
      exact Nat.lt_succ_of_le (hle l)
    · have hk' : k ∈ l := by
        rcases List.mem_cons.1 hk with h | h
        · exact absurd h.symm h2
        · exact h
      have := ih hk'
      by_cases h1 : a ∈ D
      · rw [if_neg (by simp [h1]), if_neg (by simp [h1])]; exact this
      · rw [if_pos (by simp [h1, h2]), if_pos (by simp [h1])]
        exact Nat.succ_lt_succ this

theorem StOK.commit {p : PlanA} {S : StA} {X : StX} (h : StOK p S X) (hg : S.gen < 2199023255552) (b1 b2 : Nat) : StOK p S.commit { X with md := X.my, LD := X.LY, my := b1, LY := [], mf := b2, LF := [] } where
  fr := fun k => rfl
  dy := fun k => rfl
  de := h.dy
  first := h.first
  pages := h.pages
  room := h.room
  plan := h.plan
  tn := h.tn
  g1 := by have := h.g1; show 1 ≤ S.gen + 1; omega
  g2 := by show S.gen + 1 ≤ _; omega
  mem := fun k q hq => h.mem k q (by
    have hq : (if S.dead k = true then none else S.mem k) = some q := hq
    split at hq
    · cases hq
    · exact hq)

theorem s_store_Store_Commit {s d : Nat} {p : PlanA} {S : StA} (hg : S.gen < 2199023255552) : FnSpec Tryz.prog 31 #[.pointer (some ⟨s, 0, none⟩)] [StH s d p S]
    (fun _ : Unit => .tuple #[]) (fun _ => True) (fun _ R => StH s d p S.commit :: R) := by
  refine fn_spec Tryz.func31 rfl rfl rfl rfl fun G R => ?_
  refine wk_nf fun X hw => ?_
  dsimp only [List.append_eq, List.cons_append, List.nil_append, stL, stB]
  refine wk_seq ?_
  refine wk_seq ?_
  refine wk_region ?_
  refine wo_v (v_move rfl) ?_
  refine wo_v (v_eqSome tyU_29 rfl rfl) ?_
  refine wo_nil ?_
  refine wk_condF rfl ?_
  refine wk_skip ?_
  refine wk_seq ?_
  refine wk_seq ?_
  refine wk_region ?_
  refine wo_v (v_move rfl) ?_
  refine wo_v (v_nilCheck rfl) ?_
  refine wo_v (v_fieldAddr tyF_74_9 rfl) ?_
  refine wo_v (v_load tyS_71 rfl rfl) ?_
  refine wo_w (w_range tyM_71 rfl (by repeat constructor) fun b1 => ?_)
  refine wo_nil ?_
  refine wk_block ?_
  refine wk_loop (fun a : List Int × SetA × MemA => ComI S X.LD a.1 a.2.1 a.2.2) (fun _ => [(0, .pointer (some ⟨s, 0, none⟩)), (9, .pointer (some ⟨b1, 0, none⟩))]) (fun a => iterH b1 X.md (onM X.LD) a.1 :: SetH X.t a.2.1 :: ClkH X.c p.memory a.2.2 :: blk s _ 74 :: mapH X.mf (onM X.LF) :: mapH X.my (onM X.LY) :: R) (fun a => leftN X.LD a.1) ([], S.taken, S.mem) (ComI.start S X.LD) ⟨rfl, rfl, trivial⟩ (by refine ent_take ?_; refine ent_take ?_; refine ent_take ?_; refine ent_take ?_; refine ent_take ?_; refine ent_take ?_; exact ent_tail) fun a0 hI next => ?_
  obtain ⟨D, T, m⟩ := a0
  dsimp only at hI next ⊢
  refine wk_seq ?_
  refine wk_region ?_
  refine wo_w (w_next rfl (by repeat constructor) (fun hall => ?_) (fun k v hkv hnew => ?_))
  · refine wo_v (v_extract rfl rfl) ?_
    refine wo_nil ?_
    refine wk_seq ?_
    refine wk_condF rfl ?_
    have hall' : ∀ k ∈ X.LD, k ∈ D := fun k hk => hall k (.bool true) (List.mem_map.2 ⟨k, hk, rfl⟩)
    obtain ⟨e1, e2⟩ := hI.done hall' hw.de
    rw [e1, e2]
    refine wk_ent (ent_iter (Ent.refl _)) ?_
    have hg1 := hw.g1
    refine wk_exit rfl ?_
    refine wk_seq ?_
    refine wk_region ?_
    refine wo_v (v_move rfl) ?_
    refine wo_v (v_move rfl) ?_
    refine wo_v (v_move rfl) ?_
    refine wo_v (v_move rfl) ?_
    refine wo_v (v_nilCheck rfl) ?_
    refine wo_v (v_fieldAddr tyF_74_8 rfl) ?_
    refine wo_v (v_load tyS_71 rfl rfl) ?_
    refine wo_w (w_makeMapH fun b2 => ?_)
    refine wo_w (w_makeMapH fun b3 => ?_)
    refine wo_v (v_nilCheck rfl) ?_
    refine wo_v (v_fieldAddr tyF_74_9 rfl) ?_
    refine wo_w0 (w_storeN1 tyN_71 rfl rfl rfl (by repeat constructor) (by repeat constructor) ?_)
    refine wo_v (v_nilCheck rfl) ?_
    refine wo_v (v_fieldAddr tyF_74_8 rfl) ?_
    refine wo_w0 (w_storeN1 tyN_71 rfl rfl rfl (by repeat constructor) (by repeat constructor) ?_)
    refine wo_v (v_nilCheck rfl) ?_
    refine wo_v (v_fieldAddr tyF_74_7 rfl) ?_
    refine wo_w0 (w_storeN1 tyN_71 rfl rfl rfl (by repeat constructor) (by repeat constructor) ?_)
    refine wo_nil ?_
    refine wk_region ?_
    refine wo_v (v_move rfl) ?_
    refine wo_v (v_nilCheck rfl) ?_
    refine wo_v (v_fieldAddr tyF_74_5 rfl) ?_
    refine wo_v (v_load tyS_3 rfl rfl) ?_
    refine wo_v (v_addI rfl rfl) ?_
    refine wo_v (v_nilCheck rfl) ?_
    refine wo_v (v_fieldAddr tyF_74_5 rfl) ?_
    refine wo_w0 (w_storeN1 tyN_3 rfl rfl rfl (by repeat constructor) (by repeat constructor) ?_)
    refine wo_nil ?_
    refine wk_end Tryz.func31 rfl rfl res_nil fun W h => ?_
    exact ⟨(), rfl, trivial, Ent.sat (by refine ent_nf { X with md := X.my, LD := X.LY, my := b2, LY := [], mf := b3, LF := [] } (hw.commit hg b2 b3) ?_; exact ent_tail) h⟩
  · refine wo_v (v_extract rfl rfl) ?_
    refine wo_nil ?_
    refine wk_seq ?_
    refine wk_condT rfl ?_
    have hk : k ∈ X.LD := by
      obtain ⟨j, hj, he⟩ := List.mem_map.1 hkv
      obtain ⟨rfl, _⟩ := Prod.mk.inj he; exact hj
    refine wk_skip ?_
    refine wk_block ?_
    refine wk_seq ?_
    refine wk_region ?_
    refine wo_v (v_entry rfl hkv) ?_
    refine wo_v (v_extract rfl rfl) ?_
    refine wo_v (v_assign rfl) ?_
    refine wo_nil ?_
    refine wk_seq ?_
    refine wk_region ?_
    refine wo_v (v_move rfl) ?_
    refine wo_v (v_nilCheck rfl) ?_
    refine wo_v (v_fieldAddr tyF_74_6 rfl) ?_
    refine wo_v (v_load tyS_70 rfl rfl) ?_
    refine wo_v (v_move rfl) ?_
    refine wo_w (w_call (s_bits_Set_Clear (st := T) (i := k)) rfl (by repeat constructor) ?_)
    rintro ⟨⟩ -
    refine wo_nil ?_
    refine wk_region ?_
    refine wo_v (v_move rfl) ?_
    refine wo_v (v_nilCheck rfl) ?_
    refine wo_v (v_fieldAddr tyF_74_10 rfl) ?_
    refine wo_v (v_load tyS_72 rfl rfl) ?_
    refine wo_v (v_move rfl) ?_
    refine wo_w (w_call (s_clock_Clock_Drop (mem := m) (k := k)) rfl (by repeat constructor) ?_)
    rintro sv -
    refine wo_nil ?_
    refine wk_inBlock ?_
    refine (next (D ++ [k], _, _) (hI.step hk) (leftN_lt hk hnew)).use ⟨rfl, rfl, trivial⟩ ?_
    exact (by refine ent_take ?_; refine ent_take ?_; refine ent_take ?_; refine ent_take ?_; refine ent_take ?_; refine ent_take ?_; exact ent_tail)

end Go.Proofs.YtealmijbkebipaaGreatDoor

namespace Go.Proofs.YtealmijbkebipaaGreatDoor
open Go
attribute [local irreducible] own pe nf

def StA.new (p : PlanA) (gen : Int) : StA := ⟨p.page, p.pages, p.room, gen + 1, SetA.new p.pages, snone, snone, snone, fun _ => none⟩
abbrev layC (p : PlanA) : List Value := [.int .i64 2, .int .i64 (2 + p.log : Nat), .int .i64 p.page, .int .i64 p.pages, .int .i64 p.per, .int .i64 p.slots, .int .i64 p.tree, .int .i64 p.rroom]
theorem PlanA.Ok.pages {p : PlanA} (h : p.Ok) : 1 ≤ p.pages ∧ p.pages ≤ 16384 := by
  have h1 := h.fits
  have h2 := h.n2
  unfold PlanA.pages
  omega
theorem StOK.new {p : PlanA} (hp : p.Ok) {gen : Int} (h0 : 0 ≤ gen) (h1 : gen ≤ 1099511627776) (t b1 b2 b3 c : Nat) : StOK p (StA.new p gen) ⟨t, b1, b2, b3, c, [], [], []⟩ where
  fr := fun k => rfl
  dy := fun k => rfl
  de := fun k => rfl
  first := rfl
  pages := rfl
  room := rfl
  plan := hp
  tn := rfl
  g1 := by show 1 ≤ gen + 1; omega
  g2 := by show gen + 1 ≤ _; omega
  mem := fun k q h => by cases h

theorem s_store_Open {d : Nat} {p : PlanA} {st : DevA} {gen : Int} {T : TypeId} {fz : Nat × Nat} (hp : p.Ok) (h0 : 0 ≤ gen) (h1 : gen ≤ 1099511627776) (hn : st.n = p.sectors) (hs : st.size = p.size) : FnSpec Tryz.prog 17 #[.pointer (some ⟨d, 0, none⟩), planV p, .int .i64 gen] [DevH d st, pe (tabP T fz)]
    (fun s : Nat => .tuple #[.pointer (some ⟨s, 0, none⟩), .int .i64 0]) (fun _ => True) (fun s R => StH s d p (StA.new p gen) :: DevH d st :: R) := by
  refine fn_spec Tryz.func17 rfl rfl rfl rfl fun G R => ?_
  dsimp only [List.append_eq, List.cons_append, List.nil_append]
  have hpg := hp.pages
  refine wk_seq ?_
  refine wk_region ?_
  refine wo_w (w_boxA rfl fun b1 => ?_)
  refine wo_v (v_assign rfl) ?_
  refine wo_v (v_assign rfl) ?_
  refine wo_nil ?_
  refine wk_seq ?_
  refine wk_seq ?_
  refine wk_region ?_
  refine wo_v (v_move rfl) ?_
  refine wo_v (v_eqSome tyU_27 rfl rfl) ?_
  refine wo_nil ?_
  refine wk_condF rfl ?_
  refine wk_skip ?_
  refine wk_seq ?_
  refine wk_region ?_
  refine wo_v (v_loadN tyA_35 rfl (by repeat constructor) (by repeat constructor)) ?_
  refine wo_w (w_call (s_plan_Fit hp) rfl (by repeat constructor) ?_)
  rintro ⟨⟩ -
  refine wo_v (v_move rfl) ?_
  refine wo_v (v_extract rfl rfl) ?_
  refine wo_v (v_extract rfl rfl) ?_
  refine wo_w (w_allocA tyZ_110 fun b2 => ?_)
  refine wo_w0 (w_storeN tyN_110 rfl rfl rfl rfl (by repeat constructor) (by repeat constructor) ?_)
  refine wo_v (v_assign rfl) ?_
  refine wo_nil ?_
  refine wk_seq ?_
  refine wk_block ?_
  refine wk_seq ?_
  refine wk_draw (n := 17) (pend := 131071) ⟨16, fun w => Sat G w [blk b1 p.cells 35, DevH d st]⟩ mixed (by kernel_rfl) rfl (fun w s_ => Ent.sat (by refine ent_take ?_; refine ent_take ?_; exact ent_nil) s_) rfl ?_
  refine wd_a 0 rfl (v_move rfl) ?_
  refine wd_a 1 rfl (v_neq rfl rfl) ?_
  refine wd_a 2 rfl (v_move rfl) ?_
  refine wd_ag 5 rfl rfl rfl (v_move rfl) ?_
  refine wd_pg 3 rfl rfl rfl (v_fieldAddr tyF_35_0 rfl) ?_
  refine wd_frg 4 rfl rfl rfl (fun w h => h) (v_load tyS_3 rfl rfl) ?_
  refine wd_lg 6 rfl rfl rfl (w_call (s_flash_Device_Sectors (st := st)) rfl (by repeat constructor) ?_)
  rintro ⟨⟩ -
  refine ⟨fun w s_ _ => Ent.sat (by refine ent_take ?_; refine ent_take ?_; exact ent_nil) s_, ?_⟩
  refine wd_ag 7 rfl rfl rfl (v_neq rfl rfl) ?_
  refine wd_a 8 rfl (v_pickF rfl rfl) ?_
  refine wd_a 9 rfl (v_move rfl) ?_
  refine wd_if (t := 28) rfl (fun k0 => ?_) (fun k0 => ?_)
  · exact absurd (by omega) k0
  · refine wd_ag 12 rfl rfl rfl (v_move rfl) ?_
    refine wd_pg 10 rfl rfl rfl (v_fieldAddr tyF_35_1 rfl) ?_
    refine wd_frg 11 rfl rfl rfl (fun w h => h) (v_load tyS_3 rfl rfl) ?_
    refine wd_lg 13 rfl rfl rfl (w_call (s_flash_Device_Size (st := st)) rfl (by repeat constructor) ?_)
    rintro ⟨⟩ -
    refine ⟨fun w s_ _ => Ent.sat (by refine ent_take ?_; refine ent_take ?_; exact ent_nil) s_, ?_⟩
    refine wd_ag 14 rfl rfl rfl (v_neq rfl rfl) ?_
    refine wd_a 15 rfl (v_pickF rfl rfl) ?_
    refine wd_al 16 rfl (v_assign rfl) ?_
    refine wd_done ?_
    refine wk_if rfl (fun k1 => ?_) (fun k1 => ?_)
    · exact absurd (by omega) k1
    · refine wk_seq ?_
      refine wk_region ?_
      refine wo_v (v_move rfl) ?_
      refine wo_v (v_lss rfl rfl) ?_
      refine wo_v (v_move rfl) ?_
      refine wo_if (t := 38) rfl (fun k2 => ?_) (fun k2 => ?_)
      · exact absurd k2 (by omega)
      · refine wo_gv (v_move rfl) ?_
        refine wo_gv (v_gtr rfl rfl) ?_
        refine wo_v (v_pickF rfl rfl) ?_
        refine wo_v (v_assign rfl) ?_
        refine wo_nil ?_
        refine wk_if rfl (fun k3 => ?_) (fun k3 => ?_)
        · exact absurd k3 (by omega)
        · refine wk_skip ?_
          refine wk_inBlock ?_
          refine wk_seq ?_
          refine wk_draw (n := 14) (pend := 16383) ⟨11, fun w => Sat G w [blk b1 p.cells 35, blk b2 (layC p) 110]⟩ mixed (by kernel_rfl) rfl (fun w s_ => Ent.sat (by refine ent_take ?_; refine ent_take ?_; exact ent_nil) s_) rfl ?_
          refine wd_a 6 rfl (v_fieldAddr tyF_35_1 rfl) ?_
          refine wd_a 7 rfl (v_load tyS_3 rfl rfl) ?_
          refine wd_p 0 rfl (v_move rfl) ?_
          refine wd_p 2 rfl (v_fieldAddr tyF_110_2 rfl) ?_
          refine wd_p 4 rfl (v_fieldAddr tyF_110_3 rfl) ?_
          refine wd_p 9 rfl (v_move rfl) ?_
          refine wd_p 10 rfl (v_addI rfl rfl) ?_
          refine wd_fr 1 rfl (fun w h => h) (v_loadN tyA_35 rfl (by repeat constructor) (by repeat constructor)) ?_
          refine wd_fr 3 rfl (fun w h => h) (v_load tyS_3 rfl rfl) ?_
          refine wd_fr 5 rfl (fun w h => h) (v_load tyS_3 rfl rfl) ?_
          refine wd_l 8 rfl (w_call (s_leaf_Room hp.s1 hp.s2) rfl (by repeat constructor) ?_)
          rintro ⟨⟩ -
          refine ⟨fun w s_ _ => Ent.sat (by refine ent_take ?_; refine ent_take ?_; exact ent_nil) s_, ?_⟩
          refine wd_al 11 rfl (v_buildN tyBu_74 rfl (by repeat constructor)) ?_
          refine wd_l 12 rfl (w_boxA rfl fun b3 => ?_)
          refine ⟨fun w s_ => Wat.gone (by decide), ?_⟩
          refine wd_a 13 rfl (v_assign rfl) ?_
          refine wd_done ?_
          refine wk_seq ?_
          refine wk_region ?_
          refine wo_v (v_move rfl) ?_
          refine wo_v (v_fieldAddr tyF_110_3 rfl) ?_
          refine wo_v (v_load tyS_3 rfl rfl) ?_
          refine wo_w (w_call (s_bits_New (n := p.pages) (T := T) (fz := fz) hpg.1 (by omega)) rfl (by repeat constructor) ?_)
          rintro t -
          refine wo_v (v_nilCheck rfl) ?_
          refine wo_v (v_fieldAddr tyF_74_6 rfl) ?_
          refine wo_w0 (w_storeN1 tyN_70 rfl rfl rfl (by repeat constructor) (by repeat constructor) ?_)
          refine wo_nil ?_
          refine wk_seq ?_
          refine wk_region ?_
          refine wo_v (v_move rfl) ?_
          refine wo_v (v_fieldAddr tyF_35_6 rfl) ?_
          refine wo_v (v_load tyS_3 rfl rfl) ?_
          refine wo_w (w_call (s_clock_New (n := p.memory) (by have := hp.m1; omega) (by have := hp.m2; omega)) rfl (by repeat constructor) ?_)
          rintro c -
          refine wo_v (v_nilCheck rfl) ?_
          refine wo_v (v_fieldAddr tyF_74_10 rfl) ?_
          refine wo_w0 (w_storeN1 tyN_72 rfl rfl rfl (by repeat constructor) (by repeat constructor) ?_)
          refine wo_nil ?_
          refine wk_seq ?_
          refine wk_region ?_
          refine wo_v (v_move rfl) ?_
          refine wo_v (v_move rfl) ?_
          refine wo_v (v_move rfl) ?_
          refine wo_w (w_makeMapH fun b4 => ?_)
          refine wo_w (w_makeMapH fun b5 => ?_)
          refine wo_w (w_makeMapH fun b6 => ?_)
          refine wo_v (v_nilCheck rfl) ?_
          refine wo_v (v_fieldAddr tyF_74_7 rfl) ?_
          refine wo_w0 (w_storeN1 tyN_71 rfl rfl rfl (by repeat constructor) (by repeat constructor) ?_)
          refine wo_v (v_nilCheck rfl) ?_
          refine wo_v (v_fieldAddr tyF_74_8 rfl) ?_
          refine wo_w0 (w_storeN1 tyN_71 rfl rfl rfl (by repeat constructor) (by repeat constructor) ?_)
          refine wo_v (v_nilCheck rfl) ?_
          refine wo_v (v_fieldAddr tyF_74_9 rfl) ?_
          refine wo_w0 (w_storeN1 tyN_71 rfl rfl rfl (by repeat constructor) (by repeat constructor) ?_)
          refine wo_nil ?_
          refine wk_seq ?_
          refine wk_region ?_
          refine wo_v (v_move rfl) ?_
          refine wo_v (v_assign rfl) ?_
          refine wo_v (v_assign rfl) ?_
          refine wo_nil ?_
          refine wk_ret Tryz.func17 rfl rfl (res_tmp rfl (res_tmp rfl res_nil)) fun W h => ?_
          have e1 : ((p.size - 19 : Nat) : Int) = (p.room : Nat) := rfl
          refine ⟨b3, rfl, trivial, Ent.sat (by refine ent_nf ⟨t, b4, b5, b6, c, [], [], []⟩ (StOK.new hp h0 h1 t b4 b5 b6 c) ?_; refine ent_take ?_; exact ent_tail) h⟩

theorem s_store_Format {d : Nat} {p : PlanA} {st : DevA} {T : TypeId} {fz : Nat × Nat} (hp : p.Ok) (hn : st.n = p.sectors) (hs : st.size = p.size) : FnSpec Tryz.prog 6 #[.pointer (some ⟨d, 0, none⟩), planV p] [DevH d st, pe (tabP T fz)]
    (fun s : Nat => .tuple #[.pointer (some ⟨s, 0, none⟩), .int .i64 0]) (fun _ => True) (fun s R => StH s d p (StA.new p 0) :: DevH d st :: R) := by
  refine fn_spec Tryz.func6 rfl rfl rfl rfl fun G R => ?_
  dsimp only [List.append_eq, List.cons_append, List.nil_append]
  refine wk_seq ?_
  refine wk_region ?_
  refine wo_w (w_boxA rfl fun b1 => ?_)
  refine wo_v (v_assign rfl) ?_
  refine wo_v (v_assign rfl) ?_
  refine wo_nil ?_
  refine wk_seq ?_
  refine wk_region ?_
  refine wo_v (v_move rfl) ?_
  refine wo_v (v_loadN tyA_35 rfl (by repeat constructor) (by repeat constructor)) ?_
  refine wo_w (w_call (s_store_Open (T := T) (fz := fz) hp (Int.le_refl 0) (by decide) hn hs) rfl (by repeat constructor) ?_)
  rintro s -
  refine wo_v (v_extract rfl rfl) ?_
  refine wo_v (v_extract rfl rfl) ?_
  refine wo_v (v_assign rfl) ?_
  refine wo_v (v_assign rfl) ?_
  refine wo_nil ?_
  refine wk_ret Tryz.func6 rfl rfl (res_tmp rfl (res_tmp rfl res_nil)) fun W h => ?_
  exact ⟨s, rfl, trivial, Ent.sat (by refine ent_take ?_; refine ent_take ?_; exact ent_tail) h⟩

end Go.Proofs.YtealmijbkebipaaGreatDoor
