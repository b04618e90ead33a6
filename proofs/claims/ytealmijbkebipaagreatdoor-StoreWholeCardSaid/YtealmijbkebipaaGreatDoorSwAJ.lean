/- Layer 4 (flash): Read. Layer 4 (flash): Write. Layer 4 (flash): Sync. Layer 5 (leaf): Put and Get. Layer 5 (leaf): Get. Layer 4 (flash): Crash. -/
import Derived.Test.YtealmijbkebipaaGreatDoorSwAI
namespace Go.Proofs.YtealmijbkebipaaGreatDoor
open Go
attribute [local irreducible] own pe nf

/-- The last write to a sector. -/
def lastW : List (Int × List UInt8) → Int → Option (List UInt8)
  | [], _ => none
  | w :: l, k => match lastW l k with
    | some b => some b
    | none => if w.1 = k then some w.2 else none
theorem lastW_none {l : List (Int × List UInt8)} {k : Int} (h : ∀ w ∈ l, w.1 ≠ k) : lastW l k = none := by
  induction l with
  | nil => rfl
  | cons w l ih =>
    simp only [lastW]
    rw [ih fun v hv => h v (List.mem_cons_of_mem _ hv), if_neg (h w List.mem_cons_self)]
theorem lastW_some {l : List (Int × List UInt8)} {k : Int} {i : Nat} {w : Int × List UInt8} (hi : l[i]? = some w) (hk : w.1 = k) (h : ∀ j v, i < j → l[j]? = some v → v.1 ≠ k) : lastW l k = some w.2 := by
  induction l generalizing i with
  | nil => simp at hi
  | cons a l ih =>
    cases i with
    | zero =>
      simp at hi; subst hi
      simp only [lastW]
      rw [lastW_none (fun v hv => by
        obtain ⟨j, hj⟩ := List.getElem?_of_mem hv
        exact h (j + 1) v (Nat.succ_pos _) (by simpa using hj)), if_pos hk]
    | succ i =>
      simp only [lastW]
      rw [ih (i := i) (by simpa using hi) (fun j v hj hv => h (j + 1) v (by omega) (by simpa using hv))]
def DevA.read (st : DevA) (k : Int) : List UInt8 := (lastW st.loose k).getD (st.fast k)

def rdJ (LP : LoopState → Option Code → HP) (l : List Ent3) (k : Int) (b3 b4 b5 : Nat) (i : Nat) : HP :=
  nf (fun _ : Unit => ∀ j e, i ≤ j → l[j]? = some e → e.1 ≠ k) fun _ => [LP .ready none, blk b3 [.int .i64 k] 3, blk b4 [.slice none 0 0] 45, blk b5 [.int .i64 0] 30, pe (bslAll (l.map (·.2)))]
def rdD (LP : LoopState → Option Code → HP) (l : List Ent3) (k : Int) (b3 b4 b5 : Nat) (i : Nat) : HP :=
  nf (fun p : Ent3 × SV => l[i]? = some p.1 ∧ p.1.1 = k ∧ (∀ j e, i < j → l[j]? = some e → e.1 ≠ k) ∧ p.2.n = p.1.2.2.length) fun p => [LP .done (some .ret), blk b3 [.int .i64 k] 3, blk b4 [p.2.v] 45, blk b5 [.int .i64 0] 30, pe (bsl p.2 p.1.2.2), pe (bslAll (l.map (·.2)))]

theorem s_flash_Device_Read {d : Nat} {st : DevA} {k : Int} : FnSpec Tryz.prog 36 #[.pointer (some ⟨d, 0, none⟩), .int .i64 k] [DevH d st]
    (fun y : SV => .tuple #[y.v, .int .i64 (st.ready k)]) (fun y => y.n = (if st.ready k = 0 then st.read k else []).length ∧ (st.ready k = 0 → (st.read k).length = st.size)) (fun y R => pe (bsl y (if st.ready k = 0 then st.read k else [])) :: DevH d st :: R) := by
  refine fn_spec Tryz.func36 rfl rfl rfl rfl fun G R => ?_
  dsimp only [List.append_eq, List.cons_append, List.nil_append]
  refine wk_seq ?_
  refine wk_region ?_
  refine wo_w (w_box1 rfl rfl fun b1 => ?_)
  refine wo_w (w_alloc1 tyZ_45 rfl fun b2 => ?_)
  refine wo_w (w_alloc1 tyZ_30 rfl fun b3 => ?_)
  refine wo_nil ?_
  refine wk_seq ?_
  refine wk_seq ?_
  refine wk_region ?_
  refine wo_v (v_move rfl) ?_
  refine wo_v (v_load tyS_3 rfl rfl) ?_
  refine wo_w (w_call (s_flash_Device_ready (st := st) (at_ := k)) rfl (by repeat constructor) ?_)
  rintro ⟨⟩ -
  refine wo_v (v_assign rfl) ?_
  refine wo_nil ?_
  refine wk_seq ?_
  refine wk_region ?_
  refine wo_v (v_move rfl) ?_
  refine wo_v (v_neq rfl rfl) ?_
  refine wo_nil ?_
  refine wk_if rfl (fun hr => ?_) (fun hr => ?_)
  · refine wk_seq ?_
    refine wk_region ?_
    refine wo_v (v_move rfl) ?_
    refine wo_w0 (w_storeN1 tyN_45 rfl rfl rfl (by repeat constructor) (by repeat constructor) ?_)
    refine wo_w0 (w_storeN1 tyN_30 rfl rfl rfl (by repeat constructor) (by repeat constructor) ?_)
    refine wo_nil ?_
    refine wk_ret Tryz.func36 rfl rfl (res_cell1 tyS_45 rfl (by repeat constructor) rfl (res_cell1 tyS_30 rfl (by repeat constructor) rfl res_nil)) fun W h => ?_
    have hr' : ¬ st.ready k = 0 := by omega
    rw [if_neg hr']
    exact ⟨nilSV, rfl, ⟨rfl, fun h => absurd h hr'⟩, Ent.sat (ent_roNil rfl (by refine ent_take ?_; exact ent_tail)) h⟩
  · have hr0 : st.ready k = 0 := by omega
    rw [if_pos hr0, hr0]
    refine wk_ent (M := DevH d st :: blk b1 [.int .i64 k] 3 :: blk b2 [.slice none 0 0] 45 :: blk b3 [.int .i64 0] 30 :: R) (by refine ent_take ?_; refine ent_take ?_; refine ent_take ?_; refine ent_take ?_; exact ent_tail) ?_
    refine wk_nf fun ⟨mf, F, xl, Lz, mp, P, Q, T⟩ hw => ?_
    dsimp only [List.append_eq, List.cons_append, List.nil_append, devL] at hw ⊢
    have hs2 := hw.s2
    have hlm := hw.lacts
    have hla := hw.acts
    dsimp only at hlm
    refine wk_skip ?_
    refine wk_seq ?_
    refine wk_seq ?_
    refine wk_region ?_
    refine wo_v (v_move rfl) ?_
    refine wo_v (v_nilCheck rfl) ?_
    refine wo_v (v_fieldAddr tyF_60_3 rfl) ?_
    refine wo_v (v_load tyS_58 rfl rfl) ?_
    refine wo_w (w_call (s_slices_Backward_write_write (x := xl)) rfl (by repeat constructor) ?_)
    rintro c -
    refine wo_nil ?_
    refine wk_block ?_
    refine Wk.use (E := [(0, .pointer (some ⟨d, 0, none⟩)), (3, .pointer (some ⟨b1, 0, none⟩)), (4, .pointer (some ⟨b2, 0, none⟩)), (5, .pointer (some ⟨b3, 0, none⟩)), (19, .func (.func 89) #[] #[.pointer (some ⟨c, 0, none⟩)])]) (M := defH [] :: _) ?_ ⟨rfl, rfl, rfl, rfl, rfl, trivial⟩ (ent_defNil (Ent.refl _))
    refine wk_rangeFunc (rs := []) rfl rfl (by repeat constructor) fun lp r => ?_
    refine callw_loop fun LP hLP => ?_
    have hy : ∀ i e, Lz[i]? = some e → FvSpec Tryz.prog (.func (.yield lp) #[] #[]) #[.int .i64 (i : Nat), .agg [.int .i64 e.1, e.2.1.v].toArray] [rdJ LP Lz k b1 b2 b3 (i + 1)] (fun b : Bool => .bool b) (fun _ => True) (fun b R => (bif b then rdJ LP Lz k b1 b2 b3 i else rdD LP Lz k b1 b2 b3 i) :: R) := by
      intro i e hg
      obtain ⟨ek, esv, ebs⟩ := e
      have hmem : ((ek, esv, ebs) : Ent3) ∈ Lz := List.mem_of_getElem? hg
      have hel : ebs.length = st.size := hw.llen _ hmem
      refine FvSpec.nf fun _ hno => ?_
      subst hLP
      refine fv_yield (args := [_, _]) rfl rfl fun G R => ?_
      dsimp only [List.append_eq, List.cons_append, List.nil_append]
      refine wk_region ?_
      refine wo_w (w_allocA tyZ_79 fun b4 => ?_)
      refine wo_w0 (w_storeN tyN_79 rfl rfl rfl rfl (by repeat constructor) (by repeat constructor) ?_)
      refine wo_nil ?_
      refine wk_beginRound rfl (by repeat constructor) ?_
      refine wk_block ?_
      refine wk_seq ?_
      refine wk_region ?_
      refine wo_v (v_fieldAddr tyF_79_0 rfl) ?_
      refine wo_v (v_fieldAddr tyF_77_0 rfl) ?_
      refine wo_v (v_load tyS_3 rfl rfl) ?_
      refine wo_v (v_load tyS_3 rfl rfl) ?_
      refine wo_v (v_eql rfl rfl) ?_
      refine wo_nil ?_
      refine wk_if rfl (fun hq => ?_) (fun hq => ?_)
      · refine wk_seq ?_
        refine wk_region ?_
        refine wo_v (v_fieldAddr tyF_79_1 rfl) ?_
        refine wo_v (v_load tyS_45 rfl rfl) ?_
        refine wo_ent (ent_ro (p := bslAll (Lz.map (·.2))) (q := bsl esv ebs) (by repeat constructor) (bslAll_one (p := (esv, ebs)) (List.mem_map.2 ⟨_, hmem, rfl⟩)) (Ent.refl _)) ?_
        refine wo_w (w_call (s_bytes_Clone (bs := ebs) (by omega)) rfl (by repeat constructor) ?_)
        rintro y hyn
        refine wo_w0 (w_storeN1 tyN_45 rfl rfl rfl (by repeat constructor) (by repeat constructor) ?_)
        refine wo_w0 (w_storeN1 tyN_30 rfl rfl rfl (by repeat constructor) (by repeat constructor) ?_)
        refine wo_nil ?_
        refine wk_roundRet rfl (by repeat constructor) fun W h => ?_
        refine ⟨false, rfl, trivial, ?_⟩
        dsimp only [cond_false]
        exact Ent.sat (by refine ent_nf ((ek, esv, ebs), y) ⟨hg, hq, hno, hyn⟩ ?_; exact ent_tail) h
      · refine wk_skip ?_
        refine wk_inBlock ?_
        refine wk_roundEnd rfl (by repeat constructor) fun W h => ?_
        refine ⟨true, rfl, trivial, ?_⟩
        dsimp only [cond_true]
        have hno2 : ∀ j e, i ≤ j → Lz[j]? = some e → e.1 ≠ k := by
          intro j e hj hg'
          rcases Nat.eq_or_lt_of_le hj with rfl | hlt
          · rw [hg] at hg'; cases hg'; exact hq
          · exact hno j e hlt hg'
        exact Ent.sat (by refine ent_nf () hno2 ?_; exact ent_tail) h
    refine callw_ent (M := rdJ LP Lz k b1 b2 b3 Lz.length :: _) (ent_nf () (fun j e hj hg => by rw [List.getElem?_eq_none hj] at hg; cases hg) (Ent.refl _)) ?_
    refine callw_spec (FnSpec.fv (first := #[]) (args := #[_]) (cap := #[_]) (s_slices_Backward_1_write_write (x := xl) (l := Lz) hw.xln (by omega) (rdJ LP Lz k b1 b2 b3) (rdD LP Lz k b1 b2 b3) hy)) (by repeat constructor) fun o _ => ?_
    rcases o with _ | i
    rotate_left
    · dsimp only
      refine wk_nf fun ⟨⟨ek, esv, ebs⟩, y⟩ ⟨hg, hk, hno, hyn⟩ => ?_
      subst hLP
      dsimp only [List.append_eq, List.cons_append, List.nil_append] at hg hk hno hyn ⊢
      refine wk_endRange (by repeat constructor) (by simp) ?_
      dsimp only [Option.map, Option.toList, List.cons_append, List.nil_append]
      refine wk_retD Tryz.func36 rfl rfl (by repeat constructor) (res_cell1 tyS_45 rfl (by repeat constructor) rfl (res_cell1 tyS_30 rfl (by repeat constructor) rfl res_nil)) fun W h => ?_
      have hread : st.read k = ebs := by
        rw [DevA.read, hw.loose, lastW_some (i := i) (w := (ek, ebs)) (by simp [hg]) hk (fun j v hj hv => ?_)]
        · rfl
        · rw [List.getElem?_map] at hv
          obtain ⟨e, he, rfl⟩ := Option.map_eq_some_iff.1 hv
          exact hno j e hj he
      have hsz : ebs.length = st.size := hw.llen (ek, esv, ebs) (List.mem_of_getElem? hg)
      rw [hread]
      refine ⟨y, rfl, ⟨hyn, fun _ => hsz⟩, Ent.sat ?_ h⟩
      refine ent_take ?_
      refine ent_nf ⟨mf, F, xl, Lz, mp, P, Q, T⟩ hw ?_
      exact ent_tail
    dsimp only
    refine wk_nf fun _ hno => ?_
    subst hLP
    dsimp only [List.append_eq, List.cons_append, List.nil_append]
    refine wk_endRange (by repeat constructor) (by simp) ?_
    dsimp only [Option.map, Option.toList, List.nil_append]
    refine wk_inBlock ?_
    refine wk_seq ?_
    refine wk_region ?_
    refine wo_v (v_move rfl) ?_
    refine wo_v (v_load tyS_3 rfl rfl) ?_
    refine wo_ent (M := DevH d st :: _) (ent_nf ⟨mf, F, xl, Lz, mp, P, Q, T⟩ hw (Ent.refl _)) ?_
    refine wo_w (w_call (s_flash_Device_kept (st := st) (at_ := k)) rfl (by repeat constructor) ?_)
    rintro x ⟨hx1, hx2⟩
    refine wo_w (w_call (s_bytes_Clone (bs := st.fast k) (by omega)) rfl (by repeat constructor) ?_)
    rintro y hy2
    refine wo_w0 (w_storeN1 tyN_45 rfl rfl rfl (by repeat constructor) (by repeat constructor) ?_)
    refine wo_w0 (w_storeN1 tyN_30 rfl rfl rfl (by repeat constructor) (by repeat constructor) ?_)
    refine wo_nil ?_
    refine wk_retD Tryz.func36 rfl rfl (by repeat constructor) (res_cell1 tyS_45 rfl (by repeat constructor) rfl (res_cell1 tyS_30 rfl (by repeat constructor) rfl res_nil)) fun W h => ?_
    have hread : st.read k = st.fast k := by
      rw [DevA.read, hw.loose, lastW_none (fun v hv => ?_)]
      · rfl
      · obtain ⟨e, he, rfl⟩ := List.mem_map.1 hv
        obtain ⟨j, hj⟩ := List.getElem?_of_mem he
        exact hno j e (Nat.zero_le _) hj
    rw [hread]
    exact ⟨y, rfl, ⟨hy2, fun _ => hx2⟩, Ent.sat (by refine ent_take ?_; refine ent_take ?_; exact ent_tail) h⟩

end Go.Proofs.YtealmijbkebipaaGreatDoor

namespace Go.Proofs.YtealmijbkebipaaGreatDoor
open Go
attribute [local irreducible] own pe nf

theorem looseC_snoc (l : List Ent3) (e : Ent3) : looseC (l ++ [e]) = looseC l ++ [Value.int .i64 e.1, e.2.1.v] := by simp [looseC]

def DevA.write (st : DevA) (k : Int) (bs : List UInt8) : Nat × DevA :=
  if st.ready k = 0 then if bs.length = st.size then (if st.act.down = true then 4 else 0, { st.act with loose := st.loose ++ [(k, bs)] }) else (3, st) else (st.ready k, st)

theorem write_close {d : Nat} {st : DevA} {k : Int} {bs : List UInt8} {mf mp : Nat} {F Lz : List Ent3} {xl y3 z x0 y5 : SV} {P Q Qr : List PastE} {l0 : List (SV × List UInt8)} {T : TypeId} {R : List HP}
    (hw : DevOK st ⟨mf, F, xl, Lz, mp, P, Q, T⟩) (_ : ∀ e ∈ Lz, e.2.2.length = st.size) (ha : st.acts < 1099511627776) (hbl : bs.length = st.size) (h3 : y3.n = xl.n + 1) (hxl : xl.n = Lz.length) (p3 : x0.n = l0.length) (p4 : l0.length ≤ st.acts) (p5 : ∀ b ∈ l0, b.2.length = st.size)
    (p6 : ∀ e ∈ Qr, e ∈ Q) (p7 : ∀ b ∈ l0, ∃ e ∈ Q, b ∈ e.2.2) (p8 : ∀ p', ((k, p') :: Qr).Perm (gput P k p')) (h5 : y5.n = x0.n + 1) :
    Ent (blk d [.int .i64 st.act.n, .int .i64 st.act.size, .map (some mf), y3.v, .map (some mp), .int .i64 st.act.armed, .int .i64 st.act.acts, .bool st.act.down] T :: mapH mf (kvM F) :: pe (bslAll (F.map (·.2))) ::
      osl y3 (looseC Lz ++ [.int .i64 k, z.v]) 2 79 :: pe (bslAll (Lz.map (·.2))) :: mapH mp (mput (P.map fun e => (e.1, e.2.1.v)) k y5.v) :: osl y5 (l0.map (·.1.v) ++ [z.v]) 1 45 :: nfL (Qr.map pastF) :: pe (bslAll (Q.flatMap (·.2.2))) :: pe (bsl z bs) :: R)
      (DevH d { st.act with loose := st.loose ++ [(k, bs)] } :: R) := by
  have e1 : mput (P.map fun e => (e.1, e.2.1.v)) k y5.v = (gput P k (y5, l0 ++ [(z, bs)])).map fun e => (e.1, e.2.1.v) := mput_map P (fun p => p.1.v) k (y5, l0 ++ [(z, bs)])
  have e2 : looseC Lz ++ [.int .i64 k, z.v] = looseC (Lz ++ [(k, z, bs)]) := (looseC_snoc Lz (k, z, bs)).symm
  have e3 : l0.map (·.1.v) ++ [z.v] = (l0 ++ [(z, bs)]).map (·.1.v) := by simp
  rw [e1, e2, e3]
  refine (ent_pe2 (p := bslAll (Lz.map (·.2))) (q := bsl z bs) (s := bslAll ((Lz ++ [(k, z, bs)]).map (·.2))) (by repeat constructor) (by repeat constructor) (fun r h1 h2 p hp => ?_)).trans ?_
  · rw [List.map_append, List.mem_append] at hp
    rcases hp with hp | hp
    · exact h1 p hp
    · simp at hp; subst hp; exact h2
  refine (ent_pe2 (p := bslAll (Q.flatMap (·.2.2))) (q := bsl z bs) (s := bslAll (((k, y5, l0 ++ [(z, bs)]) :: Qr : List PastE).flatMap (·.2.2))) (by repeat constructor) (by repeat constructor) (fun r h1 h2 p hp => ?_)).trans ?_
  · rw [List.mem_flatMap] at hp
    obtain ⟨e, he, hpe⟩ := hp
    rcases List.mem_cons.1 he with rfl | he
    · rcases List.mem_append.1 hpe with hpe | hpe
      · obtain ⟨e', he', hb'⟩ := p7 p hpe
        exact h1 p (List.mem_flatMap.2 ⟨e', he', hb'⟩)
      · simp at hpe; subst hpe; exact h2
    · exact h1 p (List.mem_flatMap.2 ⟨e, p6 e he, hpe⟩)
  refine (ent_take (p := nfL (Qr.map pastF)) (t := by repeat constructor) (Ent.refl _)).trans ?_
  refine (ent_take (p := osl y5 ((l0 ++ [(z, bs)]).map (·.1.v)) 1 45) (t := by repeat constructor) (Ent.refl _)).trans ?_
  refine (ent_nfL_in (p := pastF (k, y5, l0 ++ [(z, bs)]))).trans ?_
  refine ent_nf ⟨mf, F, y3, Lz ++ [(k, z, bs)], mp, gput P k (y5, l0 ++ [(z, bs)]), (k, y5, l0 ++ [(z, bs)]) :: Qr, T⟩ ?_ ?_
  · have hla : Lz.length ≤ st.acts := hw.lacts
    have hac : st.act.acts = st.acts + 1 := rfl
    refine { fast := hw.fast, flen := hw.flen, loose := ?_, llen := ?_, xln := ?_, lacts := ?_, past := ?_, perm := p8 _, s1 := hw.s1, s2 := hw.s2, n1 := hw.n1, n2 := hw.n2, acts := ha, armed := Nat.le_trans (Nat.sub_le _ _) hw.armed }
    · show st.loose ++ [(k, bs)] = _
      rw [hw.loose]; simp
    · intro e he
      rcases List.mem_append.1 he with he | he
      · exact hw.llen e he
      · simp at he; subst he; exact hbl
    · show y3.n = (Lz ++ [(k, z, bs)]).length
      rw [List.length_append, h3, hxl]; rfl
    · show (Lz ++ [(k, z, bs)]).length ≤ st.acts + 1
      rw [List.length_append]; exact Nat.succ_le_succ hla
    · intro e he
      rcases gput_mem he with h | h
      · rw [h]
        refine ⟨?_, ?_, fun b hb => ?_⟩
        · rw [List.length_append, h5, p3]; rfl
        · show (l0 ++ [(z, bs)]).length ≤ st.acts + 1
          rw [List.length_append]; exact Nat.succ_le_succ p4
        · rcases List.mem_append.1 hb with hb | hb
          · exact p5 b hb
          · simp at hb; subst hb; exact hbl
      · obtain ⟨f1, f2, f3⟩ := hw.past e h
        exact ⟨f1, Nat.le_succ_of_le f2, f3⟩
  · exact ent_tail

theorem s_flash_Device_Write {d : Nat} {st : DevA} {k : Int} {y : SV} {bs : List UInt8} (ha : st.acts < 1099511627776) (hb : bs.length ≤ 1048576) : FnSpec Tryz.prog 81 #[.pointer (some ⟨d, 0, none⟩), .int .i64 k, y.v] [DevH d st, pe (bsl y bs)]
    (fun _ : Unit => .int .i64 (st.write k bs).1) (fun _ => True) (fun _ R => DevH d (st.write k bs).2 :: R) := by
  refine fn_spec Tryz.func81 rfl rfl rfl rfl fun G R => ?_
  dsimp only [List.append_eq, List.cons_append, List.nil_append]
  refine wk_ro (x := y) (cells := u8s bs) (size := 1) (by repeat constructor) fun hx => ?_
  have hyn : y.n = bs.length := by have := hx.1; simpa using this.symm
  refine wk_seq ?_
  refine wk_region ?_
  refine wo_v (v_assign rfl) ?_
  refine wo_nil ?_
  refine wk_seq ?_
  refine wk_seq ?_
  refine wk_region ?_
  refine wo_v (v_move rfl) ?_
  refine wo_v (v_move rfl) ?_
  refine wo_w (w_call (s_flash_Device_ready (st := st) (at_ := k)) rfl (by repeat constructor) ?_)
  rintro ⟨⟩ -
  refine wo_v (v_assign rfl) ?_
  refine wo_nil ?_
  refine wk_seq ?_
  refine wk_region ?_
  refine wo_v (v_move rfl) ?_
  refine wo_v (v_neq rfl rfl) ?_
  refine wo_nil ?_
  refine wk_if rfl (fun hr => ?_) (fun hr => ?_)
  · refine wk_seq ?_
    refine wk_region ?_
    refine wo_v (v_move rfl) ?_
    refine wo_v (v_assign rfl) ?_
    refine wo_nil ?_
    refine wk_ret Tryz.func81 rfl rfl (res_tmp rfl res_nil) fun W h => ?_
    have hr' : ¬ st.ready k = 0 := by omega
    rw [DevA.write, if_neg hr']
    exact ⟨(), rfl, trivial, Ent.sat (by refine ent_take ?_; exact ent_tail) h⟩
  · refine wk_nf fun ⟨mf, F, xl, Lz, mp, P, Q, T⟩ hw => ?_
    dsimp only [List.append_eq, List.cons_append, List.nil_append, devL] at hw ⊢
    refine wk_skip ?_
    refine wk_seq ?_
    refine wk_seq ?_
    refine wk_region ?_
    refine wo_v (v_move rfl) ?_
    refine wo_v (v_len tyU_45 rfl) ?_
    refine wo_v (v_move rfl) ?_
    refine wo_v (v_nilCheck rfl) ?_
    refine wo_v (v_fieldAddr tyF_60_1 rfl) ?_
    refine wo_v (v_load tyS_3 rfl rfl) ?_
    refine wo_v (v_neq rfl rfl) ?_
    refine wo_nil ?_
    refine wk_if rfl (fun hs => ?_) (fun hs => ?_)
    · refine wk_seq ?_
      refine wk_region ?_
      refine wo_v (v_assign rfl) ?_
      refine wo_nil ?_
      refine wk_ret Tryz.func81 rfl rfl (res_tmp rfl res_nil) fun W h => ?_
      have hs' : ¬ bs.length = st.size := by omega
      rw [DevA.write, if_pos (by omega), if_neg hs']
      exact ⟨(), rfl, trivial, Ent.sat (by refine ent_nf ⟨mf, F, xl, Lz, mp, P, Q, T⟩ hw ?_; exact ent_tail) h⟩
    · have hwr : st.write k bs = (if st.act.down = true then 4 else 0, { st.act with loose := st.loose ++ [(k, bs)] }) := by rw [DevA.write, if_pos (by omega), if_pos (by omega)]
      rw [hwr]
      have hbl : bs.length = st.size := by omega
      have hs2 := hw.llen
      refine wk_skip ?_
      refine wk_seq ?_
      refine wk_region ?_
      refine wo_v (v_move rfl) ?_
      refine wo_w (w_call (s_flash_Device_act (st := st) (v2 := .map (some mf)) (v3 := xl.v) (v4 := .map (some mp)) ha hw.armed) rfl (by repeat constructor) ?_)
      rintro ⟨⟩ -
      refine wo_v (v_assign rfl) ?_
      refine wo_nil ?_
      refine wk_seq ?_
      refine wk_region ?_
      refine wo_v (v_move rfl) ?_
      refine wo_v (v_buildN tyBu_77 rfl (by repeat constructor)) ?_
      refine wo_v (v_move rfl) ?_
      refine wo_w (w_call (s_bytes_Clone (bs := bs) (by omega)) rfl (by repeat constructor) ?_)
      rintro z hz
      have hxl := hw.xln
      have hla := hw.lacts
      have hac := hw.acts
      dsimp only at hxl hla
      refine wo_v (v_buildN tyBu_79 rfl (by repeat constructor)) ?_
      refine wo_w (w_allocA tyZ_79 fun b1 => ?_)
      refine wo_w0 (w_storeN tyN_79 rfl rfl rfl rfl (by repeat constructor) (by repeat constructor) ?_)
      refine wo_nil ?_
      refine wk_seq ?_
      refine wk_draw (n := 11) (pend := 2047) ⟨10, fun w => w.cell? ⟨d, 3, none⟩ = some (xl.v)⟩ mixed (by kernel_rfl) rfl (fun w s => HasC.cell (b := d) (by repeat constructor) s 3) rfl ?_
      refine wd_a 5 rfl (v_loadN tyA_79 rfl (by repeat constructor) (by repeat constructor)) ?_
      refine wd_p 0 rfl (v_move rfl) ?_
      refine wd_p 1 rfl (v_move rfl) ?_
      refine wd_p 2 rfl (v_nilCheck rfl) ?_
      refine wd_p 3 rfl (v_fieldAddr tyF_60_3 rfl) ?_
      refine wd_ld 4 rfl tyS_58 rfl (fun w h => h) ?_
      refine wd_l 6 rfl (w_buildSlice1 tyU_58 tyN_79 tyZ_79 rfl rfl rfl rfl fun b2 => ?_)
      refine ⟨fun w s _ => HasC.cell (b := d) (by repeat constructor) s 3, ?_⟩
      refine wd_l 7 rfl (w_append (x := xl) tyU_58 tyU_58 (.inl ⟨_, rfl⟩) tyB_79 tyN_79 tyZ_79 rfl (by decide) rfl rfl ((src_blk (vs := [.int .i64 k, z.v]) rfl (Nat.le_refl _))) rfl (by repeat constructor) (by (try dsimp only); omega) (by (try dsimp only); omega) rfl fun b3 hb3 => ?_)
      refine ⟨fun w s _ => HasC.cell (b := d) (by repeat constructor) s 3, ?_⟩
      refine wd_a 8 rfl (v_nilCheck rfl) ?_
      refine wd_a 9 rfl (v_fieldAddr tyF_60_3 rfl) ?_
      refine wd_l0 10 rfl (w_storeN1 tyN_58 rfl rfl rfl (by repeat constructor) (by repeat constructor) ?_)
      refine ⟨fun w s => Wat.gone (by decide), ?_⟩
      refine wd_done ?_
      refine wk_seq ?_
      refine wk_draw (n := 16) (pend := 65535) ⟨15, fun w => w.cell? ⟨d, 4, none⟩ = some (.map (some mp))⟩ mixed (by kernel_rfl) rfl (fun w s => HasC.cell (b := d) (by repeat constructor) s 4) rfl ?_
      obtain ⟨x0, l0, Qr, p1, p2, p3, p4, p5, p6, p7, p8⟩ := past_at hw.perm k hw.past
      dsimp only at p1 p2 p4
      refine wd_ent (ent_take (p := nfL (Q.map pastF)) (t := by repeat constructor) (Ent.refl _)) ?_
      refine wd_ent (p2 _) ?_
      refine wd_a 11 rfl (v_fieldAddr tyF_79_1 rfl) ?_
      refine wd_a 12 rfl (v_load tyS_45 rfl rfl) ?_
      refine wd_p 0 rfl (v_move rfl) ?_
      refine wd_p 1 rfl (v_nilCheck rfl) ?_
      refine wd_p 2 rfl (v_fieldAddr tyF_60_4 rfl) ?_
      refine wd_p 4 rfl (v_move rfl) ?_
      refine wd_p 5 rfl (v_move rfl) ?_
      refine wd_p 6 rfl (v_nilCheck rfl) ?_
      refine wd_p 7 rfl (v_fieldAddr tyF_60_4 rfl) ?_
      refine wd_p 9 rfl (v_move rfl) ?_
      refine wd_ld 3 rfl tyS_57 rfl (fun w h => h) ?_
      refine wd_ld 8 rfl tyS_57 rfl (fun w h => h) ?_
      refine wd_alt [10, 13] (by kernel_rfl) ⟨10, by simp, by kernel_rfl⟩ ?_
      intro i hi
      simp only [List.mem_cons, List.not_mem_nil, or_false] at hi
      rcases hi with rfl | rfl
      · refine alt_v rfl (v_lookup tyM_57 rfl rfl) ?_
        refine wd_l 13 rfl (w_buildSlice1 tyU_104 tyN_45 tyZ_45 rfl rfl rfl rfl fun b4 => ?_)
        refine ⟨fun w s _ => HasC.cell (b := d) (by repeat constructor) s 4, ?_⟩
        rw [p1]
        refine wd_l 14 rfl (w_append (x := x0) tyU_104 tyU_104 (.inl ⟨_, rfl⟩) tyB_45 tyN_45 tyZ_45 rfl (by decide) rfl rfl ((src_blk (vs := [z.v]) rfl (Nat.le_refl _))) rfl (by repeat constructor) (by (try dsimp only); omega) (by (try dsimp only); omega) rfl fun b5 hb5 => ?_)
        refine ⟨fun w s _ => HasC.cell (b := d) (by repeat constructor) s 4, ?_⟩
        refine wd_l0 15 rfl (w_mapUpdate tyM_57 rfl rfl rfl (by repeat constructor) ?_)
        refine ⟨fun w s => Wat.gone (by decide), ?_⟩
        refine wd_done ?_
        refine wk_seq ?_
        refine wk_seq ?_
        refine wk_region ?_
        refine wo_v (v_move rfl) ?_
        refine wo_nil ?_
        refine wk_if rfl (fun hb => ?_) (fun hb => ?_)
        · refine wk_seq ?_
          refine wk_region ?_
          refine wo_v (v_assign rfl) ?_
          refine wo_nil ?_
          refine wk_ret Tryz.func81 rfl rfl (res_tmp rfl res_nil) fun W h => ?_
          rw [if_pos hb]
          exact ⟨(), rfl, trivial, Ent.sat (Ent.trans (by refine ent_take ?_; refine ent_take ?_; refine ent_take ?_; refine ent_take ?_; refine ent_take ?_; refine ent_take ?_; refine ent_take ?_; refine ent_take ?_; refine ent_take ?_; refine ent_take ?_; exact ent_tail) (write_close hw hs2 ha hbl hb3 hxl p3 p4 p5 p6 p7 p8 hb5)) h⟩
        · refine wk_skip ?_
          refine wk_seq ?_
          refine wk_region ?_
          refine wo_v (v_assign rfl) ?_
          refine wo_nil ?_
          refine wk_ret Tryz.func81 rfl rfl (res_tmp rfl res_nil) fun W h => ?_
          rw [if_neg (by rw [hb]; decide)]
          exact ⟨(), rfl, trivial, Ent.sat (Ent.trans (by refine ent_take ?_; refine ent_take ?_; refine ent_take ?_; refine ent_take ?_; refine ent_take ?_; refine ent_take ?_; refine ent_take ?_; refine ent_take ?_; refine ent_take ?_; refine ent_take ?_; exact ent_tail) (write_close hw hs2 ha hbl hb3 hxl p3 p4 p5 p6 p7 p8 hb5)) h⟩
      · refine alt_l rfl (w_buildSlice1 tyU_104 tyN_45 tyZ_45 rfl rfl rfl rfl fun b6 => ?_)
        refine ⟨fun w s _ => HasC.cell (b := d) (by repeat constructor) s 4, ?_⟩
        refine wd_a 10 rfl (v_lookup tyM_57 rfl rfl) ?_
        rw [p1]
        refine wd_l 14 rfl (w_append (x := x0) tyU_104 tyU_104 (.inl ⟨_, rfl⟩) tyB_45 tyN_45 tyZ_45 rfl (by decide) rfl rfl ((src_blk (vs := [z.v]) rfl (Nat.le_refl _))) rfl (by repeat constructor) (by (try dsimp only); omega) (by (try dsimp only); omega) rfl fun b7 hb7 => ?_)
        refine ⟨fun w s _ => HasC.cell (b := d) (by repeat constructor) s 4, ?_⟩
        refine wd_l0 15 rfl (w_mapUpdate tyM_57 rfl rfl rfl (by repeat constructor) ?_)
        refine ⟨fun w s => Wat.gone (by decide), ?_⟩
        refine wd_done ?_
        refine wk_seq ?_
        refine wk_seq ?_
        refine wk_region ?_
        refine wo_v (v_move rfl) ?_
        refine wo_nil ?_
        refine wk_if rfl (fun hb => ?_) (fun hb => ?_)
        · refine wk_seq ?_
          refine wk_region ?_
          refine wo_v (v_assign rfl) ?_
          refine wo_nil ?_
          refine wk_ret Tryz.func81 rfl rfl (res_tmp rfl res_nil) fun W h => ?_
          rw [if_pos hb]
          exact ⟨(), rfl, trivial, Ent.sat (Ent.trans (by refine ent_take ?_; refine ent_take ?_; refine ent_take ?_; refine ent_take ?_; refine ent_take ?_; refine ent_take ?_; refine ent_take ?_; refine ent_take ?_; refine ent_take ?_; refine ent_take ?_; exact ent_tail) (write_close hw hs2 ha hbl hb3 hxl p3 p4 p5 p6 p7 p8 hb7)) h⟩
        · refine wk_skip ?_
          refine wk_seq ?_
          refine wk_region ?_
          refine wo_v (v_assign rfl) ?_
          refine wo_nil ?_
          refine wk_ret Tryz.func81 rfl rfl (res_tmp rfl res_nil) fun W h => ?_
          rw [if_neg (by rw [hb]; decide)]
          exact ⟨(), rfl, trivial, Ent.sat (Ent.trans (by refine ent_take ?_; refine ent_take ?_; refine ent_take ?_; refine ent_take ?_; refine ent_take ?_; refine ent_take ?_; refine ent_take ?_; refine ent_take ?_; refine ent_take ?_; refine ent_take ?_; exact ent_tail) (write_close hw hs2 ha hbl hb3 hxl p3 p4 p5 p6 p7 p8 hb7)) h⟩

end Go.Proofs.YtealmijbkebipaaGreatDoor

namespace Go.Proofs.YtealmijbkebipaaGreatDoor
open Go
attribute [local irreducible] own pe nf

def flush (l : List (Int × List UInt8)) (f : Int → List UInt8) : Int → List UInt8 := l.foldl (fun f w j => if j = w.1 then w.2 else f j) f
def DevA.sync (st : DevA) : Nat × DevA :=
  if st.down = true then (4, st) else if st.act.down = true then (4, st.act) else (0, { st.act with fast := flush st.loose st.fast, loose := [] })

theorem flush_snoc (l : List (Int × List UInt8)) (w : Int × List UInt8) (f : Int → List UInt8) : flush (l ++ [w]) f = fun j => if j = w.1 then w.2 else flush l f j := by
  simp [flush]
theorem bslAll_put {F : List Ent3} {k : Int} {b : SV × List UInt8} (r : PH) (h1 : (bslAll (F.map (·.2))).q r) (h2 : (bsl b.1 b.2).q r) : (bslAll ((gput F k b).map (·.2))).q r := by
  intro p hp
  obtain ⟨e, he, rfl⟩ := List.mem_map.1 hp
  rcases gput_mem he with h | h
  · rw [h]; exact h2
  · exact h1 _ (List.mem_map.2 ⟨e, h, rfl⟩)

theorem s_flash_Device_Sync {d : Nat} {st : DevA} (ha : st.acts < 1099511627776) : FnSpec Tryz.prog 11 #[.pointer (some ⟨d, 0, none⟩)] [DevH d st]
    (fun _ : Unit => .int .i64 st.sync.1) (fun _ => True) (fun _ R => DevH d st.sync.2 :: R) := by
  refine fn_spec Tryz.func11 rfl rfl rfl rfl fun G R => ?_
  refine wk_nf fun ⟨mf, F, xl, Lz, mp, P, Q, T⟩ hw => ?_
  dsimp only [List.append_eq, List.cons_append, List.nil_append, devL] at hw ⊢
  have hxl := hw.xln
  have hla := hw.lacts
  have hs2 := hw.s2
  dsimp only at hxl hla
  refine wk_seq ?_
  refine wk_region ?_
  refine wo_v (v_assign rfl) ?_
  refine wo_nil ?_
  refine wk_seq ?_
  refine wk_block ?_
  refine wk_seq ?_
  refine wk_region ?_
  refine wo_v (v_move rfl) ?_
  refine wo_v (v_eqSome tyU_27 rfl rfl) ?_
  refine wo_v (v_assign rfl) ?_
  refine wo_nil ?_
  refine wk_condF rfl ?_
  refine wk_seq ?_
  refine wk_region ?_
  refine wo_v (v_move rfl) ?_
  refine wo_v (v_nilCheck rfl) ?_
  refine wo_v (v_fieldAddr tyF_60_7 rfl) ?_
  refine wo_v (v_load tyS_4 rfl rfl) ?_
  refine wo_v (v_move rfl) ?_
  refine wo_if (t := 13) rfl (fun hd => ?_) (fun hd => ?_)
  · refine wo_gF ?_
    refine wo_gF ?_
    refine wo_v (v_pickT rfl rfl) ?_
    refine wo_v (v_assign rfl) ?_
    refine wo_nil ?_
    refine wk_condT rfl ?_
    refine wk_seq ?_
    refine wk_region ?_
    refine wo_v (v_assign rfl) ?_
    refine wo_nil ?_
    refine wk_ret Tryz.func11 rfl rfl (res_tmp rfl res_nil) fun W h => ?_
    rw [DevA.sync, if_pos hd]
    exact ⟨(), rfl, trivial, Ent.sat (by refine ent_nf ⟨mf, F, xl, Lz, mp, P, Q, T⟩ hw ?_; exact ent_tail) h⟩
  · refine wo_gv (v_move rfl) ?_
    refine wo_gw (w_call (s_flash_Device_act (st := st) (v2 := .map (some mf)) (v3 := xl.v) (v4 := .map (some mp)) ha hw.armed) rfl (by repeat constructor) ?_)
    rintro ⟨⟩ -
    refine wo_v (v_pickF rfl rfl) ?_
    refine wo_v (v_assign rfl) ?_
    refine wo_nil ?_
    refine wk_if rfl (fun hd2 => ?_) (fun hd2 => ?_)
    · refine wk_seq ?_
      refine wk_region ?_
      refine wo_v (v_assign rfl) ?_
      refine wo_nil ?_
      refine wk_ret Tryz.func11 rfl rfl (res_tmp rfl res_nil) fun W h => ?_
      have hdn : ¬ st.down = true := by rw [hd]; decide
      rw [DevA.sync, if_neg hdn, if_pos hd2]
      exact ⟨(), rfl, trivial, Ent.sat (by refine ent_nf ⟨mf, F, xl, Lz, mp, P, Q, T⟩ (hw.act ha) ?_; exact ent_tail) h⟩
    · refine wk_skip ?_
      refine wk_inBlock ?_
      refine wk_seq ?_
      refine wk_seq ?_
      refine wk_region ?_
      refine wo_v (v_move rfl) ?_
      refine wo_v (v_nilCheck rfl) ?_
      refine wo_v (v_fieldAddr tyF_60_3 rfl) ?_
      refine wo_v (v_load tyS_58 rfl rfl) ?_
      refine wo_v (v_len tyU_58 rfl) ?_
      refine wo_v (v_move rfl) ?_
      refine wo_nil ?_
      refine wk_block ?_
      refine wk_loop (fun p : Nat × List Ent3 => p.1 ≤ Lz.length ∧ (∀ e ∈ p.2, e.2.2.length = st.size) ∧ ∀ j, ((fget p.2 j).map (·.2)).getD (zeros st.size) = flush (st.loose.take p.1) st.fast j) (fun p => [(0, .pointer (some ⟨d, 0, none⟩)), (20, xl.v), (21, .int .i64 xl.n), (22, .int .i64 p.1)]) (fun p => osl xl (looseC Lz) 2 79 :: blk d _ T :: mapH mf (kvM p.2) :: pe (bslAll (p.2.map (·.2))) :: pe (bslAll (Lz.map (·.2))) :: mapH mp (P.map fun e => (e.1, e.2.1.v)) :: nfL (Q.map pastF) :: pe (bslAll (Q.flatMap (·.2.2))) :: R) (fun p => Lz.length - p.1) (0, F) ⟨Nat.zero_le _, hw.flen, fun j => (hw.fast j).symm⟩ ⟨rfl, rfl, rfl, rfl, trivial⟩ (by refine ent_take ?_; refine ent_take ?_; refine ent_take ?_; refine ent_take ?_; refine ent_take ?_; refine ent_take ?_; refine ent_take ?_; refine ent_take ?_; exact ent_tail) fun p0 hI next => ?_
      obtain ⟨i, Fi⟩ := p0
      dsimp only at hI next ⊢
      obtain ⟨hi, hfl, hfi⟩ := hI
      refine wk_seq ?_
      refine wk_region ?_
      refine wo_v (v_lss rfl rfl) ?_
      refine wo_nil ?_
      refine wk_seq ?_
      refine wk_if rfl (fun hb => ?_) (fun hb => ?_)
      · have hil : i < Lz.length := by omega
        have hg : Lz[i]? = some Lz[i] := List.getElem?_eq_getElem hil
        generalize Lz[i] = q at hg
        obtain ⟨ek, esv, ebs⟩ := q
        have hmem : ((ek, esv, ebs) : Ent3) ∈ Lz := List.mem_of_getElem? hg
        have hel : ebs.length = st.size := hw.llen _ hmem
        refine wk_oslOpen (by omega) fun b sp ha' q1 q2 q3 q4 => ?_
        refine wk_skip ?_
        refine wk_seq ?_
        refine wk_block ?_
        refine wk_seq ?_
        refine wk_region ?_
        refine wo_v (v_indexAddrS tyU_58 tyN_79 rfl rfl ha' (by omega)) ?_
        refine wo_v (v_loadA tyA_79 rfl (looseC_get hg sp) rfl) ?_
        refine wo_ent (ent_oslClose ha' q1 q2 q3 q4) ?_
        refine wo_w (w_allocA tyZ_79 fun b1 => ?_)
        refine wo_w0 (w_storeN tyN_79 rfl rfl rfl rfl (by repeat constructor) (by repeat constructor) ?_)
        refine wo_nil ?_
        refine wk_draw (n := 11) (pend := 2047) ⟨10, fun w => w.cell? ⟨d, 2, none⟩ = some (.map (some mf)) ∧ w.cell? ⟨b1, 0, none⟩ = some (.int .i64 ek)⟩ mixed (by kernel_rfl) rfl (fun w s => ⟨HasC.cell (b := d) (by repeat constructor) s 2, HasC.cell (b := b1) (by repeat constructor) s 0⟩) rfl ?_
        refine wd_a 7 rfl (v_fieldAddr tyF_79_1 rfl) ?_
        refine wd_a 8 rfl (v_load tyS_45 rfl rfl) ?_
        refine wd_p 0 rfl (v_move rfl) ?_
        refine wd_p 1 rfl (v_nilCheck rfl) ?_
        refine wd_p 2 rfl (v_fieldAddr tyF_60_2 rfl) ?_
        refine wd_p 4 rfl (v_fieldAddr tyF_79_0 rfl) ?_
        refine wd_p 5 rfl (v_fieldAddr tyF_77_0 rfl) ?_
        refine wd_ld 3 rfl tyS_56 rfl (fun w h => h.1) ?_
        refine wd_ld 6 rfl tyS_3 rfl (fun w h => h.2) ?_
        refine wd_ent (ent_ro (p := bslAll (Lz.map (·.2))) (q := bsl esv ebs) (by repeat constructor) (bslAll_one (p := (esv, ebs)) (List.mem_map.2 ⟨_, hmem, rfl⟩)) (Ent.refl _)) ?_
        refine wd_l 9 rfl (w_call (s_bytes_Clone (bs := ebs) (by omega)) rfl (by repeat constructor) ?_)
        rintro y hyn
        refine ⟨fun w s _ => ⟨HasC.cell (b := d) (by repeat constructor) s 2, HasC.cell (b := b1) (by repeat constructor) s 0⟩, ?_⟩
        refine wd_l0 10 rfl (w_mapUpdate tyM_56 rfl rfl rfl (by repeat constructor) ?_)
        refine ⟨fun w s => Wat.gone (by decide), ?_⟩
        refine wd_done ?_
        refine wk_inBlock ?_
        refine wk_region ?_
        refine wo_v (v_addI rfl rfl) ?_
        refine wo_v (v_move rfl) ?_
        refine wo_nil ?_
        have htk : st.loose.take (i + 1) = st.loose.take i ++ [(ek, ebs)] := by
          have hlt : i < st.loose.length := by rw [hw.loose, List.length_map]; exact hil
          have hgl : st.loose[i]? = some (ek, ebs) := by rw [hw.loose, List.getElem?_map, hg]; rfl
          rw [List.take_succ_eq_append_getElem hlt]
          rw [List.getElem?_eq_getElem hlt] at hgl
          rw [Option.some.inj hgl]
        have e1 : mput (kvM Fi) ek y.v = kvM (gput Fi ek (y, ebs)) := mput_map Fi (fun p => p.1.v) ek (y, ebs)
        rw [e1]
        refine (next (i + 1, gput Fi ek (y, ebs)) ⟨hil, fun e he => ?_, fun j => ?_⟩ (by omega)).use ⟨rfl, rfl, rfl, rfl, trivial⟩ ?_
        · rcases gput_mem he with h | h
          · rw [h]; exact hel
          · exact hfl e h
        · rw [htk, flush_snoc]
          show ((gget (gput Fi ek (y, ebs)) j).map (·.2)).getD _ = if j = ek then ebs else flush (st.loose.take i) st.fast j
          rw [gget_put]
          by_cases hj : j = ek
          · rw [if_pos hj, if_pos hj]; rfl
          · rw [if_neg hj, if_neg hj]; exact hfi j
        · refine (ent_pe2 (p := bslAll (Fi.map (·.2))) (q := bsl y ebs) (s := bslAll ((gput Fi ek (y, ebs)).map (·.2))) (by repeat constructor) (by repeat constructor) (fun r h1 h2 => bslAll_put r h1 h2)).trans ?_
          exact (by refine ent_take ?_; refine ent_take ?_; refine ent_take ?_; refine ent_take ?_; refine ent_take ?_; refine ent_take ?_; refine ent_take ?_; refine ent_take ?_; exact ent_tail)
      · refine wk_exit rfl ?_
        refine wk_seq ?_
        refine wk_region ?_
        refine wo_v (v_move rfl) ?_
        refine wo_v (v_nilCheck rfl) ?_
        refine wo_v (v_fieldAddr tyF_60_3 rfl) ?_
        refine wo_w0 (w_storeN1 tyN_58 rfl rfl rfl (by repeat constructor) (by repeat constructor) ?_)
        refine wo_nil ?_
        refine wk_seq ?_
        refine wk_region ?_
        refine wo_v (v_assign rfl) ?_
        refine wo_nil ?_
        refine wk_ret Tryz.func11 rfl rfl (res_tmp rfl res_nil) fun W h => ?_
        have hdn : ¬ st.down = true := by rw [hd]; decide
        have hdn2 : ¬ st.act.down = true := by rw [hd2]; decide
        have hil : i = Lz.length := by omega
        have htk : st.loose.take i = st.loose := List.take_of_length_le (by rw [hw.loose, List.length_map, hil]; exact Nat.le_refl _)
        rw [htk] at hfi
        rw [DevA.sync, if_neg hdn, if_neg hdn2]
        have hA := Ent.sat (ent_oslNil (size := 2) (T := 79) (Ent.refl _)) h
        have hB := Ent.sat (ent_pe (q := bslAll []) (fun _ p hp => by cases hp) (Ent.refl _)) hA
        have hok : DevOK { st.act with fast := flush st.loose st.fast, loose := [] } ⟨mf, Fi, nilSV, [], mp, P, Q, T⟩ :=
          { fast := fun j => (hfi j).symm, flen := hfl, loose := rfl, llen := fun e he => by cases he
            xln := rfl, lacts := Nat.zero_le _
            past := fun e he => ⟨(hw.past e he).1, Nat.le_succ_of_le (hw.past e he).2.1, (hw.past e he).2.2⟩
            perm := hw.perm, s1 := hw.s1, s2 := hw.s2, n1 := hw.n1, n2 := hw.n2, acts := ha, armed := Nat.le_trans (Nat.sub_le _ _) hw.armed }
        exact ⟨(), rfl, trivial, Ent.sat (by refine ent_nf ⟨mf, Fi, nilSV, [], mp, P, Q, T⟩ hok ?_; exact ent_tail) hB⟩

end Go.Proofs.YtealmijbkebipaaGreatDoor

namespace Go.Proofs.YtealmijbkebipaaGreatDoor
open Go
attribute [local irreducible] own pe nf

/-- A leaf is written. -/
def DevA.put (st : DevA) (k : Int) (x : LeafA) : Nat × DevA := if x.right st.size = 0 then st.write k (x.bytes st.size) else (x.right st.size, st)

theorem s_leaf_Put {d : Nat} {st : DevA} {k : Int} {x : LeafA} {sv : SV} (h1 : 96 ≤ st.size) (h2 : st.size ≤ 512) (ha : st.acts < 1099511627776) (hl : x.load.length ≤ 1048576) (hst : x.stamp ≤ 9223372036854775807) :
    FnSpec Tryz.prog 49 #[.pointer (some ⟨d, 0, none⟩), .int .i64 k, leafV x sv] [DevH d st, pe (bsl sv x.load)]
    (fun _ : Unit => .int .i64 (st.put k x).1) (fun _ => True) (fun _ R => DevH d (st.put k x).2 :: R) := by
  refine fn_spec Tryz.func49 rfl rfl rfl rfl fun G R => ?_
  dsimp only [List.append_eq, List.cons_append, List.nil_append]
  refine wk_seq ?_
  refine wk_region ?_
  refine wo_w (w_boxA rfl fun b1 => ?_)
  refine wo_v (v_assign rfl) ?_
  refine wo_nil ?_
  refine wk_seq ?_
  refine wk_seq ?_
  refine wk_region ?_
  refine wo_v (v_move rfl) ?_
  refine wo_v (v_eqSome tyU_27 rfl rfl) ?_
  refine wo_nil ?_
  refine wk_condF rfl ?_
  refine wk_skip ?_
  refine wk_seq ?_
  refine wk_draw (n := 9) (pend := 511) ⟨9, fun _ => True⟩ mixed (by kernel_rfl) rfl (fun _ _ => trivial) rfl ?_
  refine wd_a 0 rfl (v_move rfl) ?_
  refine wd_alt [1, 2] (by kernel_rfl) ⟨1, by simp, by kernel_rfl⟩ ?_
  intro i hi
  simp only [List.mem_cons, List.not_mem_nil, or_false] at hi
  rcases hi with rfl | rfl
  · refine alt_l rfl (w_call (s_flash_Device_Size (st := st)) rfl (by repeat constructor) ?_)
    rintro ⟨⟩ -
    refine ⟨fun _ _ _ => trivial, ?_⟩
    refine wd_a 2 rfl (v_loadN tyA_122 rfl (by repeat constructor) (by repeat constructor)) ?_
    refine wd_l 3 rfl (w_call (s_leaf_Build (x := x) (sv := sv) (n := st.size) h1 h2 hl hst) rfl (by repeat constructor) ?_)
    rintro y hy
    refine ⟨fun _ _ _ => trivial, ?_⟩
    refine wd_a 4 rfl (v_move rfl) ?_
    refine wd_a 5 rfl (v_extract rfl rfl) ?_
    refine wd_a 6 rfl (v_extract rfl rfl) ?_
    refine wd_a 7 rfl (v_assign rfl) ?_
    refine wd_a 8 rfl (v_assign rfl) ?_
    refine wd_done ?_
    refine wk_seq ?_
    refine wk_seq ?_
    refine wk_region ?_
    refine wo_v (v_move rfl) ?_
    refine wo_v (v_neq rfl rfl) ?_
    refine wo_nil ?_
    refine wk_if rfl (fun hr => ?_) (fun hr => ?_)
    · refine wk_seq ?_
      refine wk_region ?_
      refine wo_v (v_move rfl) ?_
      refine wo_v (v_assign rfl) ?_
      refine wo_nil ?_
      refine wk_ret Tryz.func49 rfl rfl (res_tmp rfl res_nil) fun W h => ?_
      rw [DevA.put, if_neg (by omega)]
      exact ⟨(), rfl, trivial, Ent.sat (by refine ent_take ?_; exact ent_tail) h⟩
    · have hr0 : x.right st.size = 0 := by omega
      have hb : x.built st.size = x.bytes st.size := if_pos hr0
      have hbl := LeafA.bytes_length (LeafA.right_zero hr0).2 h1
      rw [hb]
      refine wk_skip ?_
      refine wk_seq ?_
      refine wk_region ?_
      refine wo_v (v_move rfl) ?_
      refine wo_v (v_move rfl) ?_
      refine wo_v (v_move rfl) ?_
      refine wo_w (w_call (s_flash_Device_Write (st := st) (k := k) (bs := x.bytes st.size) ha (by omega)) rfl (by repeat constructor) ?_)
      rintro ⟨⟩ -
      refine wo_v (v_assign rfl) ?_
      refine wo_nil ?_
      refine wk_ret Tryz.func49 rfl rfl (res_tmp rfl res_nil) fun W h => ?_
      rw [DevA.put, if_pos hr0]
      exact ⟨(), rfl, trivial, Ent.sat (by refine ent_take ?_; exact ent_tail) h⟩
  · refine alt_v rfl (v_loadN tyA_122 rfl (by repeat constructor) (by repeat constructor)) ?_
    refine wd_l 1 rfl (w_call (s_flash_Device_Size (st := st)) rfl (by repeat constructor) ?_)
    rintro ⟨⟩ -
    refine ⟨fun _ _ _ => trivial, ?_⟩
    refine wd_l 3 rfl (w_call (s_leaf_Build (x := x) (sv := sv) (n := st.size) h1 h2 hl hst) rfl (by repeat constructor) ?_)
    rintro y hy
    refine ⟨fun _ _ _ => trivial, ?_⟩
    refine wd_a 4 rfl (v_move rfl) ?_
    refine wd_a 5 rfl (v_extract rfl rfl) ?_
    refine wd_a 6 rfl (v_extract rfl rfl) ?_
    refine wd_a 7 rfl (v_assign rfl) ?_
    refine wd_a 8 rfl (v_assign rfl) ?_
    refine wd_done ?_
    refine wk_seq ?_
    refine wk_seq ?_
    refine wk_region ?_
    refine wo_v (v_move rfl) ?_
    refine wo_v (v_neq rfl rfl) ?_
    refine wo_nil ?_
    refine wk_if rfl (fun hr => ?_) (fun hr => ?_)
    · refine wk_seq ?_
      refine wk_region ?_
      refine wo_v (v_move rfl) ?_
      refine wo_v (v_assign rfl) ?_
      refine wo_nil ?_
      refine wk_ret Tryz.func49 rfl rfl (res_tmp rfl res_nil) fun W h => ?_
      rw [DevA.put, if_neg (by omega)]
      exact ⟨(), rfl, trivial, Ent.sat (by refine ent_take ?_; exact ent_tail) h⟩
    · have hr0 : x.right st.size = 0 := by omega
      have hb : x.built st.size = x.bytes st.size := if_pos hr0
      have hbl := LeafA.bytes_length (LeafA.right_zero hr0).2 h1
      rw [hb]
      refine wk_skip ?_
      refine wk_seq ?_
      refine wk_region ?_
      refine wo_v (v_move rfl) ?_
      refine wo_v (v_move rfl) ?_
      refine wo_v (v_move rfl) ?_
      refine wo_w (w_call (s_flash_Device_Write (st := st) (k := k) (bs := x.bytes st.size) ha (by omega)) rfl (by repeat constructor) ?_)
      rintro ⟨⟩ -
      refine wo_v (v_assign rfl) ?_
      refine wo_nil ?_
      refine wk_ret Tryz.func49 rfl rfl (res_tmp rfl res_nil) fun W h => ?_
      rw [DevA.put, if_pos hr0]
      exact ⟨(), rfl, trivial, Ent.sat (by refine ent_take ?_; exact ent_tail) h⟩

end Go.Proofs.YtealmijbkebipaaGreatDoor

namespace Go.Proofs.YtealmijbkebipaaGreatDoor
open Go
attribute [local irreducible] own pe nf

/-- A leaf is read. -/
def DevA.get (st : DevA) (k kind place : Int) : Option LeafA × Nat :=
  if st.ready k = 0 then match readL (st.read k) with
    | some x => if x.kind = kind ∧ x.place = place then (some x, 0) else (none, 5)
    | none => (none, 5)
  else (none, st.ready k)

theorem readL_some {sec : List UInt8} {x : LeafA} (h : readL sec = some x) : ¬ x.bad ∧ x.load.length ≤ sec.length - 19 ∧ x.stamp ≤ 9223372036854775807 ∧ x.bytes sec.length = sec := by
  unfold readL at h
  split at h
  · cases h
  · split at h
    · rename_i hh; cases h
      obtain ⟨h1, h2⟩ := LeafA.right_zero hh.1
      exact ⟨h1, h2, leafIn_stamp sec, hh.2⟩
    · cases h

theorem readV_any (o : Option LeafA) (sv : SV) : ∃ X sX, readV o sv = leafV X sX ∧ ((o = some X ∧ sX = sv) ∨ (o = none ∧ X = ⟨0, 0, 0, []⟩ ∧ sX = nilSV)) := by
  cases o with
  | none => exact ⟨_, _, rfl, .inr ⟨rfl, rfl, rfl⟩⟩
  | some x => exact ⟨_, _, rfl, .inl ⟨rfl, rfl⟩⟩

theorem s_leaf_Get {d : Nat} {st : DevA} {k kind place : Int} (h1 : 96 ≤ st.size) (h2 : st.size ≤ 512) : FnSpec Tryz.prog 61 #[.pointer (some ⟨d, 0, none⟩), .int .i64 k, .int .i64 kind, .int .i64 place] [DevH d st]
    (fun sv : SV => .tuple #[readV (st.get k kind place).1 sv, .int .i64 (st.get k kind place).2]) (fun sv => sv.n = (readB (st.get k kind place).1).length ∧ (readB (st.get k kind place).1).length ≤ 512) (fun sv R => pe (bsl sv (readB (st.get k kind place).1)) :: DevH d st :: R) := by
  refine fn_spec Tryz.func61 rfl rfl rfl rfl fun G R => ?_
  dsimp only [List.append_eq, List.cons_append, List.nil_append]
  refine wk_seq ?_
  refine wk_region ?_
  refine wo_w (w_allocA tyZ_122 fun b1 => ?_)
  refine wo_v (v_assign rfl) ?_
  refine wo_nil ?_
  refine wk_seq ?_
  refine wk_seq ?_
  refine wk_region ?_
  refine wo_v (v_move rfl) ?_
  refine wo_v (v_eqSome tyU_27 rfl rfl) ?_
  refine wo_nil ?_
  refine wk_condF rfl ?_
  refine wk_skip ?_
  refine wk_seq ?_
  refine wk_region ?_
  refine wo_v (v_move rfl) ?_
  refine wo_v (v_move rfl) ?_
  refine wo_w (w_call (s_flash_Device_Read (st := st) (k := k)) rfl (by repeat constructor) ?_)
  rintro y ⟨hy, hsz⟩
  refine wo_v (v_move rfl) ?_
  refine wo_v (v_extract rfl rfl) ?_
  refine wo_v (v_extract rfl rfl) ?_
  refine wo_v (v_assign rfl) ?_
  refine wo_v (v_assign rfl) ?_
  refine wo_nil ?_
  refine wk_seq ?_
  refine wk_seq ?_
  refine wk_region ?_
  refine wo_v (v_move rfl) ?_
  refine wo_v (v_neq rfl rfl) ?_
  refine wo_nil ?_
  refine wk_if rfl (fun hr => ?_) (fun hr => ?_)
  · refine wk_seq ?_
    refine wk_region ?_
    refine wo_v (v_buildN tyBu_122 rfl (by repeat constructor)) ?_
    refine wo_v (v_move rfl) ?_
    refine wo_w0 (w_storeN tyN_122 rfl rfl rfl rfl (by repeat constructor) (by repeat constructor) ?_)
    refine wo_v (v_assign rfl) ?_
    refine wo_nil ?_
    refine wk_ret Tryz.func61 rfl rfl (res_cellA tyA_122 rfl (by repeat constructor) rfl (res_tmp rfl res_nil)) fun W h => ?_
    have hr' : ¬ st.ready k = 0 := by omega
    rw [DevA.get, if_neg hr']
    exact ⟨nilSV, rfl, ⟨rfl, Nat.zero_le _⟩, Ent.sat (ent_roNil rfl (by refine ent_take ?_; exact ent_tail)) h⟩
  · have hr0 : st.ready k = 0 := by omega
    have hlen := hsz hr0
    rw [if_pos hr0]
    refine wk_skip ?_
    refine wk_seq ?_
    refine wk_region ?_
    refine wo_v (v_move rfl) ?_
    refine wo_w (w_call (s_leaf_Read (sec := st.read k) (by omega) (by omega)) rfl (by repeat constructor) ?_)
    rintro sv hsv
    obtain ⟨X, sX, hV, hX⟩ := readV_any (readL (st.read k)) sv
    rw [hV]
    refine wo_v (v_move rfl) ?_
    refine wo_v (v_extract rfl rfl) ?_
    refine wo_v (v_extract rfl rfl) ?_
    refine wo_w (w_allocA tyZ_122 fun b2 => ?_)
    refine wo_w0 (w_storeN tyN_122 rfl rfl rfl rfl (by repeat constructor) (by repeat constructor) ?_)
    refine wo_v (v_assign rfl) ?_
    refine wo_nil ?_
    refine wk_seq ?_
    refine wk_seq ?_
    refine wk_region ?_
    refine wo_v (v_move rfl) ?_
    refine wo_v (v_neq rfl rfl) ?_
    refine wo_v (v_move rfl) ?_
    refine wo_if (t := 33) rfl (fun hE => ?_) (fun hE => ?_)
    · refine wo_gF ?_
      refine wo_gF ?_
      refine wo_gF ?_
      refine wo_gF ?_
      refine wo_v (v_pickT rfl rfl) ?_
      refine wo_v (v_move rfl) ?_
      refine wo_gF ?_
      refine wo_gF ?_
      refine wo_gF ?_
      refine wo_gF ?_
      refine wo_v (v_pickT rfl rfl) ?_
      refine wo_nil ?_
      refine wk_condT rfl ?_
      refine wk_seq ?_
      refine wk_region ?_
      refine wo_v (v_buildN tyBu_122 rfl (by repeat constructor)) ?_
      refine wo_w0 (w_storeN tyN_122 rfl rfl rfl rfl (by repeat constructor) (by repeat constructor) ?_)
      refine wo_v (v_assign rfl) ?_
      refine wo_nil ?_
      refine wk_ret Tryz.func61 rfl rfl (res_cellA tyA_122 rfl (by repeat constructor) rfl (res_tmp rfl res_nil)) fun W h => ?_
      have ho : readL (st.read k) = none := by
        rcases hX with ⟨e, _⟩ | ⟨e, _⟩
        · rw [e] at hE; exact absurd rfl hE
        · exact e
      have hg : st.get k kind place = (none, 5) := by rw [DevA.get, if_pos hr0, ho]
      rw [hg]
      exact ⟨nilSV, rfl, ⟨rfl, Nat.zero_le _⟩, Ent.sat (ent_roNil rfl (by refine ent_take ?_; exact ent_tail)) h⟩
    · have ho : readL (st.read k) = some X ∧ sX = sv := by
        rcases hX with e | ⟨e, _⟩
        · exact e
        · rw [e] at hE; exact absurd hE (by decide)
      obtain ⟨ho, rfl⟩ := ho
      refine wo_gv (v_fieldAddr tyF_122_0 rfl) ?_
      refine wo_gv (v_load tyS_3 rfl rfl) ?_
      refine wo_gv (v_move rfl) ?_
      refine wo_gv (v_neq rfl rfl) ?_
      refine wo_v (v_pickF rfl rfl) ?_
      refine wo_v (v_move rfl) ?_
      refine wo_if (t := 39) rfl (fun hk => ?_) (fun hk => ?_)
      · refine wo_gF ?_
        refine wo_gF ?_
        refine wo_gF ?_
        refine wo_gF ?_
        refine wo_v (v_pickT rfl rfl) ?_
        refine wo_nil ?_
        refine wk_condT rfl ?_
        refine wk_seq ?_
        refine wk_region ?_
        refine wo_v (v_buildN tyBu_122 rfl (by repeat constructor)) ?_
        refine wo_w0 (w_storeN tyN_122 rfl rfl rfl rfl (by repeat constructor) (by repeat constructor) ?_)
        refine wo_v (v_assign rfl) ?_
        refine wo_nil ?_
        refine wk_ret Tryz.func61 rfl rfl (res_cellA tyA_122 rfl (by repeat constructor) rfl (res_tmp rfl res_nil)) fun W h => ?_
        have hg : st.get k kind place = (none, 5) := by rw [DevA.get, if_pos hr0, ho]; exact if_neg fun hh => hk hh.1
        rw [hg]
        exact ⟨nilSV, rfl, ⟨rfl, Nat.zero_le _⟩, Ent.sat (ent_roNil rfl (by refine ent_take ?_; exact ent_tail)) h⟩
      · refine wo_gv (v_fieldAddr tyF_122_1 rfl) ?_
        refine wo_gv (v_load tyS_3 rfl rfl) ?_
        refine wo_gv (v_move rfl) ?_
        refine wo_gv (v_neq rfl rfl) ?_
        refine wo_v (v_pickF rfl rfl) ?_
        refine wo_nil ?_
        refine wk_if rfl (fun hp => ?_) (fun hp => ?_)
        · refine wk_seq ?_
          refine wk_region ?_
          refine wo_v (v_buildN tyBu_122 rfl (by repeat constructor)) ?_
          refine wo_w0 (w_storeN tyN_122 rfl rfl rfl rfl (by repeat constructor) (by repeat constructor) ?_)
          refine wo_v (v_assign rfl) ?_
          refine wo_nil ?_
          refine wk_ret Tryz.func61 rfl rfl (res_cellA tyA_122 rfl (by repeat constructor) rfl (res_tmp rfl res_nil)) fun W h => ?_
          have hg : st.get k kind place = (none, 5) := by rw [DevA.get, if_pos hr0, ho]; exact if_neg fun hh => hp hh.2
          rw [hg]
          exact ⟨nilSV, rfl, ⟨rfl, Nat.zero_le _⟩, Ent.sat (ent_roNil rfl (by refine ent_take ?_; exact ent_tail)) h⟩
        · refine wk_skip ?_
          refine wk_seq ?_
          refine wk_region ?_
          refine wo_v (v_loadN tyA_122 rfl (by repeat constructor) (by repeat constructor)) ?_
          refine wo_w0 (w_storeN tyN_122 rfl rfl rfl rfl (by repeat constructor) (by repeat constructor) ?_)
          refine wo_v (v_assign rfl) ?_
          refine wo_nil ?_
          refine wk_ret Tryz.func61 rfl rfl (res_cellA tyA_122 rfl (by repeat constructor) rfl (res_tmp rfl res_nil)) fun W h => ?_
          have hg : st.get k kind place = (some X, 0) := by rw [DevA.get, if_pos hr0, ho]; exact if_pos ⟨hk, hp⟩
          rw [ho] at hsv h
          rw [hg]
          have hbl : (readB (some X)).length ≤ 512 := by have := (readL_some ho).2.1; show X.load.length ≤ 512; omega
          exact ⟨sX, rfl, ⟨hsv, hbl⟩, Ent.sat (by refine ent_take ?_; refine ent_take ?_; exact ent_tail) h⟩

end Go.Proofs.YtealmijbkebipaaGreatDoor

namespace Go.Proofs.YtealmijbkebipaaGreatDoor
open Go
attribute [local irreducible] own pe nf

/-- A copy that is the caller's own. -/
theorem s_bytes_CloneW {x : SV} {bs : List UInt8} (hb : bs.length ≤ 4294967296) : FnSpec Tryz.prog 23 #[x.v] [pe (bsl x bs)]
    (fun y : SV => y.v) (fun y => y.n = bs.length) (fun y R => osl y (u8s bs) 1 5 :: R) := by
  refine fn_spec Tryz.func23 rfl rfl rfl rfl fun G R => ?_
  dsimp only [List.append_eq, List.cons_append, List.nil_append]
  refine wk_ro (x := x) (cells := u8s bs) (size := 1) (by repeat constructor) fun hx => ?_
  have hlen : bs.length = x.n := by have := hx.1; simpa using this
  refine wk_seq ?_
  refine wk_region ?_
  refine wo_v (v_assign rfl) ?_
  refine wo_nil ?_
  refine wk_seq ?_
  refine wk_seq ?_
  refine wk_region ?_
  refine wo_v (v_move rfl) ?_
  refine wo_v (v_eqSlN tyU_45 rfl rfl) ?_
  refine wo_nil ?_
  refine wk_if rfl (fun hn => ?_) (fun hn => ?_)
  · refine wk_seq ?_
    refine wk_region ?_
    refine wo_v (v_assign rfl) ?_
    refine wo_nil ?_
    refine wk_ret Tryz.func23 rfl rfl (res_tmp rfl res_nil) fun W h => ?_
    have h0 := hx.2.2 (by simpa using hn)
    have hbs : bs = [] := List.eq_nil_of_length_eq_zero (by omega)
    subst hbs
    refine ⟨nilSV, rfl, rfl, ?_⟩
    exact Ent.sat (ent_oslNil ent_tail) h
  · refine wk_skip ?_
    refine wk_seq ?_
    refine wk_region ?_
    refine wo_w (w_buildSlice0 tyU_45 tyN_5 fun b1 => ?_)
    refine wo_ent (ent_oslEmpty (size := 1)) ?_
    refine wo_v (v_move rfl) ?_
    refine wo_w (w_append (x := ⟨some ⟨b1, 0, none⟩, 0, 0⟩) tyU_45 tyU_45 (.inl ⟨_, rfl⟩) tyB_5 tyN_5 tyZ_5 rfl (by decide) rfl rfl (src_ro) (allOne_u8s bs) (by repeat constructor) (by (try dsimp only); omega) (by (try dsimp only); omega) hx.1 fun b2 hb2 => ?_)
    refine wo_v (v_assign rfl) ?_
    refine wo_nil ?_
    refine wk_ret Tryz.func23 rfl rfl (res_tmp rfl res_nil) fun W h => ?_
    refine ⟨b2, rfl, ?_, Ent.sat (by refine ent_take ?_; exact ent_tail) h⟩
    rw [hb2, hlen, Nat.zero_add]


/-- What stands in a sector, by the map. -/
def contF (F : List Ent3) (size : Nat) (k : Int) : List UInt8 := ((fget F k).map (·.2)).getD (zeros size)

theorem s_kept_raw {d mf size : Nat} {F : List Ent3} {k : Int} {v0 v3 v4 v5 v6 v7 : Value} {T : TypeId} (hs2 : size ≤ 512) (hfl : ∀ e ∈ F, e.2.2.length = size) :
    FnSpec Tryz.prog 34 #[.pointer (some ⟨d, 0, none⟩), .int .i64 k] [blk d [v0, .int .i64 size, .map (some mf), v3, v4, v5, v6, v7] T, mapH mf (kvM F), pe (bslAll (F.map (·.2)))]
    (fun x : SV => x.v) (fun x => x.n = size ∧ (contF F size k).length = size) (fun x R => pe (bsl x (contF F size k)) :: blk d [v0, .int .i64 size, .map (some mf), v3, v4, v5, v6, v7] T :: mapH mf (kvM F) :: R) := by
  refine fn_spec Tryz.func34 rfl rfl rfl rfl fun G R => ?_
  dsimp only [List.append_eq, List.cons_append, List.nil_append]
  refine wk_seq ?_
  refine wk_region ?_
  refine wo_v (v_assign rfl) ?_
  refine wo_nil ?_
  refine wk_seq ?_
  refine wk_seq ?_
  refine wk_region ?_
  refine wo_v (v_move rfl) ?_
  refine wo_v (v_nilCheck rfl) ?_
  refine wo_v (v_fieldAddr tyF_60_2 rfl) ?_
  refine wo_v (v_load tyS_56 rfl rfl) ?_
  refine wo_v (v_move rfl) ?_
  refine wo_v (v_lookup2 tyM_56 rfl rfl) ?_
  refine wo_v (v_move rfl) ?_
  refine wo_v (v_extract rfl rfl) ?_
  refine wo_v (v_extract rfl rfl) ?_
  refine wo_v (v_assign rfl) ?_
  refine wo_v (v_assign rfl) ?_
  refine wo_nil ?_
  refine wk_seq ?_
  refine wk_region ?_
  refine wo_v (v_move rfl) ?_
  refine wo_nil ?_
  refine wk_if rfl (fun hb => ?_) (fun hb => ?_)
  · refine wk_seq ?_
    refine wk_region ?_
    refine wo_v (v_move rfl) ?_
    refine wo_v (v_assign rfl) ?_
    refine wo_nil ?_
    refine wk_ret Tryz.func34 rfl rfl (res_tmp rfl res_nil) fun W h => ?_
    rw [kvM_get, Option.isSome_map] at hb
    obtain ⟨p, hp⟩ := Option.isSome_iff_exists.1 hb
    have hfp : contF F size k = p.2 := by rw [contF, hp]; rfl
    have hm := fget_mem hp
    have hlen : p.2.length = size := hfl (k, p) hm
    rw [hfp]
    refine Ent.sat (ent_ro (p := bslAll (F.map (·.2))) (q := bsl p.1 p.2) (by repeat constructor) (bslAll_one (List.mem_map.2 ⟨_, hm, rfl⟩)) (Ent.refl _)) h |> fun h' => ⟨p.1, ?_, ⟨?_, hlen⟩, Ent.sat (by refine ent_take ?_; refine ent_take ?_; refine ent_take ?_; exact ent_tail) h'⟩
    · show (mget (kvM F) k).getD _ = _
      rw [kvM_get, hp]; rfl
    · have := HasPe.fact (φ := p.1.n = size) (HasPe.here (p := bsl p.1 p.2)) (fun r hr => by have := (roSl_fact hr).1; rw [u8s_length] at this; omega) _ _ h'
      exact this
  · refine wk_skip ?_
    refine wk_seq ?_
    refine wk_region ?_
    refine wo_v (v_move rfl) ?_
    refine wo_v (v_nilCheck rfl) ?_
    refine wo_v (v_fieldAddr tyF_60_1 rfl) ?_
    refine wo_v (v_load tyS_3 rfl rfl) ?_
    refine wo_w (w_makeSliceN tyU_45 tyB_5 tyN_5 tyZ_5 rfl rfl rfl rfl rfl (by omega) fun b1 => ?_)
    refine wo_v (v_assign rfl) ?_
    refine wo_nil ?_
    refine wk_ret Tryz.func34 rfl rfl (res_tmp rfl res_nil) fun W h => ?_
    rw [kvM_get, Option.isSome_map] at hb
    have hn : fget F k = none := by simpa using hb
    have hfz : contF F size k = zeros size := by rw [contF, hn]; rfl
    rw [hfz]
    refine ⟨⟨some ⟨b1, 0, none⟩, size, size⟩, rfl, ⟨rfl, by simp [zeros]⟩, Ent.sat (by refine ent_take ?_; refine ent_take ?_; refine ent_take ?_; exact ent_tail) (up_freeze0 _ _ h)⟩

end Go.Proofs.YtealmijbkebipaaGreatDoor
