/- Layer 4 (flash): Crash. Regions that draw: operations that only make new blocks leave alone what others look into. Rows of cells, so many for each of a list's members. Plain facts on bits of numbers. Layer 7 (bits), walked. -/
import Derived.Test.YtealmijbkebipaaGreatDoorSwAJ
import Derived.Test.YtealmijbkebipaaGreatDoorSwAI
import Derived.Lib.TrailingZeros
import Derived.Test.YtealmijbkebipaaGreatDoorSwAG
import Derived.Test.YtealmijbkebipaaGreatDoorSwAD
namespace Go.Proofs.YtealmijbkebipaaGreatDoor
open Go
attribute [local irreducible] own pe nf

/-- What a crash may leave. -/
structure Crashed (st st' : DevA) : Prop where
  n : st'.n = st.n
  size : st'.size = st.size
  acts : st'.acts = st.acts
  loose : st'.loose = []
  armed : st'.armed = 0
  down : st'.down = false
  fast : ∀ k, (∀ w ∈ st.loose, w.1 ≠ k) → st'.fast k = st.fast k

theorem fate_ok (f m : Int) (h : 0 < m) : 0 ≤ (f.tmod m + m).tmod m ∧ (f.tmod m + m).tmod m < m :=
  ⟨Int.tmod_nonneg _ (by have := Int.lt_tmod_of_pos f h; omega), Int.tmod_lt_of_pos _ h⟩

theorem s_flash_Device_Crash {d : Nat} {st : DevA} {x2 : SV} {fates : List Int} (hfn : fates.length ≤ 1048576) : FnSpec Tryz.prog 13 #[.pointer (some ⟨d, 0, none⟩), x2.v] [DevH d st, pe (roSl x2 (fates.map fun f => .int .i64 f) 1)]
    (fun _ : DevA => .tuple #[]) (fun st' => Crashed st st') (fun st' R => DevH d st' :: R) := by
  refine fn_spec Tryz.func13 rfl rfl rfl rfl fun G R => ?_
  refine wk_nf fun ⟨mf, F, xl, Lz, mp, P, Q, T⟩ hw => ?_
  dsimp only [List.append_eq, List.cons_append, List.nil_append, devL] at hw ⊢
  have hxl := hw.xln
  have hla := hw.lacts
  have hac := hw.acts
  have hs2 := hw.s2
  dsimp only at hxl hla
  refine wk_ro (x := x2) (cells := fates.map fun f => .int .i64 f) (size := 1) (by repeat constructor) fun hx2 => ?_
  have hfl2 : fates.length = x2.n := by have := hx2.1; simpa using this
  refine wk_seq ?_
  refine wk_seq ?_
  refine wk_region ?_
  refine wo_v (v_move rfl) ?_
  refine wo_v (v_eqSome tyU_27 rfl rfl) ?_
  refine wo_nil ?_
  refine wk_condF rfl ?_
  refine wk_skip ?_
  refine wk_seq ?_
  refine wk_region ?_
  refine wo_v (v_move rfl) ?_
  refine wo_v (v_nilCheck rfl) ?_
  refine wo_v (v_fieldAddr tyF_60_1 rfl) ?_
  refine wo_v (v_load tyS_3 rfl rfl) ?_
  refine wo_v (v_addI rfl rfl) ?_
  refine wo_v (v_assign rfl) ?_
  refine wo_nil ?_
  refine wk_seq ?_
  refine wk_seq ?_
  refine wk_region ?_
  refine wo_v (v_move rfl) ?_
  refine wo_v (v_nilCheck rfl) ?_
  refine wo_v (v_fieldAddr tyF_60_3 rfl) ?_
  refine wo_v (v_load tyS_58 rfl rfl) ?_
  refine wo_v (v_len tyU_58 rfl) ?_
  refine wo_v (v_move rfl) ?_
  refine wo_nil ?_
  refine wk_block ?_
  refine wk_loop (fun p : Nat × List Ent3 => p.1 ≤ Lz.length ∧ (∀ e ∈ p.2, e.2.2.length = st.size) ∧ ∀ j, (∀ w ∈ st.loose, w.1 ≠ j) → ((fget p.2 j).map (·.2)).getD (zeros st.size) = st.fast j) (fun p => [(0, .pointer (some ⟨d, 0, none⟩)), (1, x2.v), (4, .int .i64 ((st.size : Int) + 1)), (18, xl.v), (19, .int .i64 xl.n), (20, .int .i64 p.1)]) (fun p => osl xl (looseC Lz) 2 79 :: blk d _ T :: mapH mf (kvM p.2) :: pe (bslAll (p.2.map (·.2))) :: pe (bslAll (Lz.map (·.2))) :: mapH mp (P.map fun e => (e.1, e.2.1.v)) :: nfL (Q.map pastF) :: pe (bslAll (Q.flatMap (·.2.2))) :: pe (roSl x2 (fates.map fun f => .int .i64 f) 1) :: R) (fun p => Lz.length - p.1) (0, F) ⟨Nat.zero_le _, hw.flen, fun j _ => (hw.fast j).symm⟩ ⟨rfl, rfl, rfl, rfl, rfl, rfl, trivial⟩ (by refine ent_take ?_; refine ent_take ?_; refine ent_take ?_; refine ent_take ?_; refine ent_take ?_; refine ent_take ?_; refine ent_take ?_; refine ent_take ?_; refine ent_take ?_; exact ent_tail) fun p0 hI next => ?_
  obtain ⟨i, Fi⟩ := p0
  dsimp only at hI next ⊢
  obtain ⟨hi, hfl, hfi⟩ := hI
  refine wk_seq ?_
  refine wk_region ?_
  refine wo_v (v_lss rfl rfl) ?_
  refine wo_nil ?_
  refine wk_seq ?_
  refine wk_if rfl (fun hb => ?_) (fun hb => ?_)
  · have hil : i < Lz.length := by omega
    have hg : Lz[i]? = some Lz[i] := List.getElem?_eq_getElem hil
    generalize Lz[i] = q at hg
    obtain ⟨ek, esv, ebs⟩ := q
    have hmem : ((ek, esv, ebs) : Ent3) ∈ Lz := List.mem_of_getElem? hg
    have hel : ebs.length = st.size := hw.llen _ hmem
    refine wk_oslOpen (by omega) fun b sp ha' q1 q2 q3 q4 => ?_
    refine wk_skip ?_
    refine wk_seq ?_
    refine wk_block ?_
    refine wk_seq ?_
    refine wk_region ?_
    refine wo_v (v_move rfl) ?_
    refine wo_v (v_indexAddrS tyU_58 tyN_79 rfl rfl ha' (by omega)) ?_
    refine wo_v (v_loadA tyA_79 rfl (looseC_get hg sp) rfl) ?_
    refine wo_ent (ent_oslClose ha' q1 q2 q3 q4) ?_
    refine wo_w (w_allocA tyZ_79 fun b1 => ?_)
    refine wo_v (v_assign rfl) ?_
    refine wo_w0 (w_storeN tyN_79 rfl rfl rfl rfl (by repeat constructor) (by repeat constructor) ?_)
    refine wo_nil ?_
    refine wk_seq ?_
    refine wk_region ?_
    refine wo_v (v_assign rfl) ?_
    refine wo_nil ?_
    refine wk_seq ?_
    refine wk_seq ?_
    refine wk_region ?_
    refine wo_v (v_move rfl) ?_
    refine wo_v (v_move rfl) ?_
    refine wo_v (v_len tyU_23 rfl) ?_
    refine wo_v (v_lss rfl rfl) ?_
    refine wo_nil ?_
    refine wk_if rfl (fun hq => ?_) (fun hq => ?_)
    · have hlt2 : i < fates.length := by omega
      have hgf : (fates.map fun f => Value.int .i64 f)[i]? = some (.int .i64 fates[i]) := by simp [hlt2]
      generalize fates[i] = f at hgf
      have t1 := Int.lt_tmod_of_pos f (b := (st.size : Int) + 1) (by omega)
      have t2 := Int.tmod_lt_of_pos f (b := (st.size : Int) + 1) (by omega)
      obtain ⟨n1, n2⟩ := fate_ok f ((st.size : Int) + 1) (by omega)
      obtain ⟨nn, hnn⟩ := Int.eq_ofNat_of_zero_le n1
      have hnl : nn ≤ st.size := by omega
      refine wk_block' (x := x2) (cells := fates.map fun f => .int .i64 f) (size := 1) (by repeat constructor) (by omega) fun b5 o5 vs5 T5 fz5 ha5 hv5 hle5 => ?_
      refine wk_region ?_
      refine wo_v (v_move rfl) ?_
      refine wo_v (v_move rfl) ?_
      refine wo_v (v_indexAddrS tyU_23 tyN_3 rfl rfl ha5 (by omega)) ?_
      refine wo_v (v_load tyS_3 rfl (ro_get hv5 hgf)) ?_
      refine wo_v (v_move rfl) ?_
      refine wo_v (v_tremI rfl rfl) ?_
      refine wo_v (v_move rfl) ?_
      refine wo_v (v_addI rfl rfl) ?_
      refine wo_v (v_move rfl) ?_
      refine wo_v (v_tremI rfl rfl) ?_
      rw [hnn]
      refine wo_v (v_assign rfl) ?_
      refine wo_nil ?_
      refine wk_draw (n := 21) (pend := 2097151) ⟨20, fun w => w.cell? ⟨d, 2, none⟩ = some (.map (some mf)) ∧ w.cell? ⟨b1, 0, none⟩ = some (.int .i64 ek)⟩ mixed (by kernel_rfl) rfl (fun w s_ => ⟨HasC.cell (b := d) (by repeat constructor) s_ 2, HasC.cell (b := b1) (by repeat constructor) s_ 0⟩) rfl ?_
      refine wd_ent (ent_ro (p := bslAll (Lz.map (·.2))) (q := bsl esv ebs) (by repeat constructor) (bslAll_one (p := (esv, ebs)) (List.mem_map.2 ⟨_, hmem, rfl⟩)) (Ent.refl _)) ?_
      refine wd_fact (HasPe.fact (p := bsl esv ebs) (by repeat constructor) fun _ => roSl_fact) fun he => ?_
      have hen : ebs.length = esv.n := by have := he.1; simpa using this
      refine wd_ent (ent_bslHi (x := esv) (bs := ebs) (h := nn) (by repeat constructor) (by omega)) ?_
      refine wd_a 7 rfl (v_fieldAddr tyF_79_1 rfl) ?_
      refine wd_a 8 rfl (v_load tyS_45 rfl rfl) ?_
      refine wd_a 9 rfl (v_move rfl) ?_
      refine wd_a 10 rfl (v_sliceHiS (x := esv) tyU_45 tyN_5 rfl rfl (by omega)) ?_
      refine wd_p 0 rfl (v_move rfl) ?_
      refine wd_p 1 rfl (v_nilCheck rfl) ?_
      refine wd_p 2 rfl (v_fieldAddr tyF_60_2 rfl) ?_
      refine wd_p 4 rfl (v_fieldAddr tyF_79_0 rfl) ?_
      refine wd_p 5 rfl (v_fieldAddr tyF_77_0 rfl) ?_
      refine wd_p 12 rfl (v_move rfl) ?_
      refine wd_p 13 rfl (v_fieldAddr tyF_79_0 rfl) ?_
      refine wd_p 14 rfl (v_fieldAddr tyF_77_0 rfl) ?_
      refine wd_p 17 rfl (v_move rfl) ?_
      refine wd_ld 3 rfl tyS_56 rfl (fun w h => h.1) ?_
      refine wd_ld 6 rfl tyS_3 rfl (fun w h => h.2) ?_
      refine wd_ld 15 rfl tyS_3 rfl (fun w h => h.2) ?_
      refine wd_l 11 rfl (w_call (s_bytes_CloneW (x := esv.sl 0 nn 1) (bs := ebs.take nn) (by rw [List.length_take]; omega)) rfl (by repeat constructor) ?_)
      rintro y hyn
      refine ⟨fun w s_ _ => ⟨HasC.cell (b := d) (by repeat constructor) s_ 2, HasC.cell (b := b1) (by repeat constructor) s_ 0⟩, ?_⟩
      refine wd_l 16 rfl (w_call (s_kept_raw (F := Fi) (k := ek) (size := st.size) hs2 hfl) rfl (by repeat constructor) ?_)
      rintro z ⟨hz1, hz2⟩
      refine ⟨fun w s_ _ => ⟨HasC.cell (b := d) (by repeat constructor) s_ 2, HasC.cell (b := b1) (by repeat constructor) s_ 0⟩, ?_⟩
      refine wd_a 18 rfl (v_sliceLoS (x := z) tyU_45 tyN_5 rfl rfl (by omega)) ?_
      refine wd_ent (ent_bslLo (x := z) (bs := contF Fi st.size ek) (l := nn) (by repeat constructor) (by omega)) ?_
      have hyl : y.n = nn := by rw [hyn, List.length_take]; omega
      refine wd_l 19 rfl (w_append (x := y) tyU_45 tyU_45 (.inl ⟨_, rfl⟩) tyB_5 tyN_5 tyZ_5 rfl (by decide) rfl rfl ((src_ro (x := z.sl nn z.n 1))) (allOne_u8s _) (by repeat constructor) (by rw [SV.sl_n, hyl]; omega) (by rw [SV.sl_n, hyl]; omega) (by simp; omega) fun b2 hb2 => ?_)
      refine ⟨fun w s_ _ => ⟨HasC.cell (b := d) (by repeat constructor) s_ 2, HasC.cell (b := b1) (by repeat constructor) s_ 0⟩, ?_⟩
      refine wd_l0 20 rfl (w_mapUpdate tyM_56 rfl rfl rfl (by repeat constructor) ?_)
      refine ⟨fun w s_ => Wat.gone (by decide), ?_⟩
      refine wd_done ?_
      refine wk_inBlock ?_
      refine wk_region ?_
      refine wo_v (v_addI rfl rfl) ?_
      refine wo_v (v_move rfl) ?_
      refine wo_nil ?_
      have hnw : ∀ j, (∀ w ∈ st.loose, w.1 ≠ j) → j ≠ ek := by
        intro j hj e
        exact hj (ek, ebs) (by rw [hw.loose]; exact List.mem_map.2 ⟨_, hmem, rfl⟩) e.symm
      rw [← u8s_append]
      have hnl2 : (ebs.take nn ++ (contF Fi st.size ek).drop nn).length = st.size := by rw [List.length_append, List.length_take, List.length_drop]; omega
      generalize ebs.take nn ++ (contF Fi st.size ek).drop nn = cs at hnl2 ⊢
      have e1 : mput (kvM Fi) ek b2.v = kvM (gput Fi ek (b2, cs)) := mput_map Fi (fun p => p.1.v) ek (b2, cs)
      rw [e1]
      refine wk_ent (ent_take (p := osl b2 (u8s cs) 1 5) (t := by repeat constructor) (Ent.refl _)) ?_
      refine wk_up up_freeze ?_
      refine (next (i + 1, gput Fi ek (b2, cs)) ⟨hil, fun e he => ?_, fun j hj => ?_⟩ (by omega)).use ⟨rfl, rfl, rfl, rfl, rfl, rfl, trivial⟩ ?_
      · rcases gput_mem he with h | h
        · rw [h]; exact hnl2
        · exact hfl e h
      · show ((gget (gput Fi ek (b2, cs)) j).map (·.2)).getD _ = _
        rw [gget_put, if_neg (hnw j hj)]
        exact hfi j hj
      · refine (ent_pe2 (p := bslAll (Fi.map (·.2))) (q := bsl b2 cs) (s := bslAll ((gput Fi ek (b2, cs)).map (·.2))) (by repeat constructor) (by repeat constructor) (fun r h1 h2 => bslAll_put r h1 h2)).trans ?_
        exact (by refine ent_take ?_; refine ent_take ?_; refine ent_take ?_; refine ent_take ?_; refine ent_take ?_; refine ent_take ?_; refine ent_take ?_; refine ent_take ?_; refine ent_take ?_; exact ent_tail)
    · have hnl : 0 ≤ st.size := Nat.zero_le _
      refine wk_skip ?_
      refine wk_draw (n := 21) (pend := 2097151) ⟨20, fun w => w.cell? ⟨d, 2, none⟩ = some (.map (some mf)) ∧ w.cell? ⟨b1, 0, none⟩ = some (.int .i64 ek)⟩ mixed (by kernel_rfl) rfl (fun w s_ => ⟨HasC.cell (b := d) (by repeat constructor) s_ 2, HasC.cell (b := b1) (by repeat constructor) s_ 0⟩) rfl ?_
      refine wd_ent (ent_ro (p := bslAll (Lz.map (·.2))) (q := bsl esv ebs) (by repeat constructor) (bslAll_one (p := (esv, ebs)) (List.mem_map.2 ⟨_, hmem, rfl⟩)) (Ent.refl _)) ?_
      refine wd_fact (HasPe.fact (p := bsl esv ebs) (by repeat constructor) fun _ => roSl_fact) fun he => ?_
      have hen : ebs.length = esv.n := by have := he.1; simpa using this
      refine wd_ent (ent_bslHi (x := esv) (bs := ebs) (h := 0) (by repeat constructor) (by omega)) ?_
      refine wd_a 7 rfl (v_fieldAddr tyF_79_1 rfl) ?_
      refine wd_a 8 rfl (v_load tyS_45 rfl rfl) ?_
      refine wd_a 9 rfl (v_move rfl) ?_
      refine wd_a 10 rfl (v_sliceHiS (x := esv) (h := 0) tyU_45 tyN_5 rfl rfl (by omega)) ?_
      refine wd_p 0 rfl (v_move rfl) ?_
      refine wd_p 1 rfl (v_nilCheck rfl) ?_
      refine wd_p 2 rfl (v_fieldAddr tyF_60_2 rfl) ?_
      refine wd_p 4 rfl (v_fieldAddr tyF_79_0 rfl) ?_
      refine wd_p 5 rfl (v_fieldAddr tyF_77_0 rfl) ?_
      refine wd_p 12 rfl (v_move rfl) ?_
      refine wd_p 13 rfl (v_fieldAddr tyF_79_0 rfl) ?_
      refine wd_p 14 rfl (v_fieldAddr tyF_77_0 rfl) ?_
      refine wd_p 17 rfl (v_move rfl) ?_
      refine wd_ld 3 rfl tyS_56 rfl (fun w h => h.1) ?_
      refine wd_ld 6 rfl tyS_3 rfl (fun w h => h.2) ?_
      refine wd_ld 15 rfl tyS_3 rfl (fun w h => h.2) ?_
      refine wd_l 11 rfl (w_call (s_bytes_CloneW (x := esv.sl 0 0 1) (bs := ebs.take 0) (by rw [List.length_take]; omega)) rfl (by repeat constructor) ?_)
      rintro y hyn
      refine ⟨fun w s_ _ => ⟨HasC.cell (b := d) (by repeat constructor) s_ 2, HasC.cell (b := b1) (by repeat constructor) s_ 0⟩, ?_⟩
      refine wd_l 16 rfl (w_call (s_kept_raw (F := Fi) (k := ek) (size := st.size) hs2 hfl) rfl (by repeat constructor) ?_)
      rintro z ⟨hz1, hz2⟩
      refine ⟨fun w s_ _ => ⟨HasC.cell (b := d) (by repeat constructor) s_ 2, HasC.cell (b := b1) (by repeat constructor) s_ 0⟩, ?_⟩
      refine wd_a 18 rfl (v_sliceLoS (x := z) (l := 0) tyU_45 tyN_5 rfl rfl (by omega)) ?_
      refine wd_ent (ent_bslLo (x := z) (bs := contF Fi st.size ek) (l := 0) (by repeat constructor) (by omega)) ?_
      have hyl : y.n = 0 := by rw [hyn, List.length_take]; omega
      refine wd_l 19 rfl (w_append (x := y) tyU_45 tyU_45 (.inl ⟨_, rfl⟩) tyB_5 tyN_5 tyZ_5 rfl (by decide) rfl rfl ((src_ro (x := z.sl 0 z.n 1))) (allOne_u8s _) (by repeat constructor) (by rw [SV.sl_n, hyl]; omega) (by rw [SV.sl_n, hyl]; omega) (by simp; omega) fun b3 hb3 => ?_)
      refine ⟨fun w s_ _ => ⟨HasC.cell (b := d) (by repeat constructor) s_ 2, HasC.cell (b := b1) (by repeat constructor) s_ 0⟩, ?_⟩
      refine wd_l0 20 rfl (w_mapUpdate tyM_56 rfl rfl rfl (by repeat constructor) ?_)
      refine ⟨fun w s_ => Wat.gone (by decide), ?_⟩
      refine wd_done ?_
      refine wk_inBlock ?_
      refine wk_region ?_
      refine wo_v (v_addI rfl rfl) ?_
      refine wo_v (v_move rfl) ?_
      refine wo_nil ?_
      have hnw : ∀ j, (∀ w ∈ st.loose, w.1 ≠ j) → j ≠ ek := by
        intro j hj e
        exact hj (ek, ebs) (by rw [hw.loose]; exact List.mem_map.2 ⟨_, hmem, rfl⟩) e.symm
      rw [← u8s_append]
      have hnl2 : (ebs.take 0 ++ (contF Fi st.size ek).drop 0).length = st.size := by rw [List.length_append, List.length_take, List.length_drop]; omega
      generalize ebs.take 0 ++ (contF Fi st.size ek).drop 0 = cs at hnl2 ⊢
      have e1 : mput (kvM Fi) ek b3.v = kvM (gput Fi ek (b3, cs)) := mput_map Fi (fun p => p.1.v) ek (b3, cs)
      rw [e1]
      refine wk_ent (ent_take (p := osl b3 (u8s cs) 1 5) (t := by repeat constructor) (Ent.refl _)) ?_
      refine wk_up up_freeze ?_
      refine (next (i + 1, gput Fi ek (b3, cs)) ⟨hil, fun e he => ?_, fun j hj => ?_⟩ (by omega)).use ⟨rfl, rfl, rfl, rfl, rfl, rfl, trivial⟩ ?_
      · rcases gput_mem he with h | h
        · rw [h]; exact hnl2
        · exact hfl e h
      · show ((gget (gput Fi ek (b3, cs)) j).map (·.2)).getD _ = _
        rw [gget_put, if_neg (hnw j hj)]
        exact hfi j hj
      · refine (ent_pe2 (p := bslAll (Fi.map (·.2))) (q := bsl b3 cs) (s := bslAll ((gput Fi ek (b3, cs)).map (·.2))) (by repeat constructor) (by repeat constructor) (fun r h1 h2 => bslAll_put r h1 h2)).trans ?_
        exact (by refine ent_take ?_; refine ent_take ?_; refine ent_take ?_; refine ent_take ?_; refine ent_take ?_; refine ent_take ?_; refine ent_take ?_; refine ent_take ?_; refine ent_take ?_; exact ent_tail)
  · refine wk_exit rfl ?_
    refine wk_region ?_
    refine wo_v (v_move rfl) ?_
    refine wo_v (v_move rfl) ?_
    refine wo_v (v_move rfl) ?_
    refine wo_v (v_nilCheck rfl) ?_
    refine wo_v (v_fieldAddr tyF_60_3 rfl) ?_
    refine wo_w0 (w_storeN1 tyN_58 rfl rfl rfl (by repeat constructor) (by repeat constructor) ?_)
    refine wo_v (v_nilCheck rfl) ?_
    refine wo_v (v_fieldAddr tyF_60_5 rfl) ?_
    refine wo_w0 (w_storeN1 tyN_3 rfl rfl rfl (by repeat constructor) (by repeat constructor) ?_)
    refine wo_v (v_nilCheck rfl) ?_
    refine wo_v (v_fieldAddr tyF_60_7 rfl) ?_
    refine wo_w0 (w_storeN1 tyN_4 rfl rfl rfl (by repeat constructor) (by repeat constructor) ?_)
    refine wo_nil ?_
    refine wk_end Tryz.func13 rfl rfl res_nil fun W h => ?_
    have hA := Ent.sat (ent_oslNil (size := 2) (T := 79) (Ent.refl _)) h
    have hB := Ent.sat (ent_pe (q := bslAll []) (fun _ p hp => by cases hp) (Ent.refl _)) hA
    have hok : DevOK ⟨st.n, st.size, fun j => contF Fi st.size j, [], 0, st.acts, false⟩ ⟨mf, Fi, nilSV, [], mp, P, Q, T⟩ :=
      { fast := fun j => rfl, flen := hfl, loose := rfl, llen := fun e he => by cases he
        xln := rfl, lacts := Nat.zero_le _, past := hw.past
        perm := hw.perm, s1 := hw.s1, s2 := hw.s2, n1 := hw.n1, n2 := hw.n2, acts := hw.acts, armed := Nat.zero_le _ }
    exact ⟨⟨st.n, st.size, fun j => contF Fi st.size j, [], 0, st.acts, false⟩, rfl, ⟨rfl, rfl, rfl, rfl, rfl, rfl, hfi⟩, Ent.sat (by refine ent_nf ⟨mf, Fi, nilSV, [], mp, P, Q, T⟩ hok ?_; exact ent_tail) hB⟩

end Go.Proofs.YtealmijbkebipaaGreatDoor

namespace Go.Proofs.YtealmijbkebipaaGreatDoor
open Go

/-- An operation that only makes a new block. -/
def freshOp : Op → Bool
  | .alloc _ | .box .. => true
  | _ => false
def Grown (w w' : World) : Prop := w'.os = w.os ∧ w'.output = w.output ∧ w'.tape = w.tape ∧ ∃ x, w'.heap = w.heap.push x
theorem fresh_keep {P : Program} {o : Oper} (hf : freshOp o.op = true) {ρ : Operand → Value} {w : World} {Φ : Value → World → Prop} (h : SemC P (execOp ρ o) w Φ) : SemC P (execOp ρ o) w fun v w' => Φ v w' ∧ Grown w w' := by
  obtain ⟨dst, op, ty, pos, after, guard⟩ := o
  cases op <;> simp only [freshOp, Bool.false_eq_true] at hf
  case alloc t =>
    unfold SemC at h ⊢
    cases hi : P.info? t with
    | none => simp [execOp, Instr.alloc, zeroValue, typeInfo, hi] at h
    | some i =>
      cases hz : i.zero with
      | none => simp [execOp, Instr.alloc, zeroValue, typeInfo, hi, hz] at h
      | some z =>
        simp [execOp, Instr.alloc, zeroValue, typeInfo, hi, hz, newVar, newRow, NextC] at h ⊢
        exact ⟨h, rfl, rfl, rfl, _, rfl⟩
  case box t x =>
    unfold SemC at h ⊢
    simp [execOp, Instr.box, newVar, newRow, NextC] at h ⊢
    exact ⟨h, rfl, rfl, rfl, _, rfl⟩

section
variable {P : Program} {all : Array Oper} {ds : List Deferred}
theorem AnyP.firstF {W : Nat → World → Prop} {S : World → Prop} {Φ : Array Value → World → Prop} {i : Nat} {oi : Oper} {v : Value} (hi : all[i]? = some oi) (hsel : ∀ (j : Nat) (o : Oper), all[j]? = some o → ∀ cs b, o.op ≠ .select cs b) (hWi : ∀ p w, p.testBit i = true → W (p ^^^ 2 ^ i) w → W p w)
    (hSF : ∀ w w', S w → Grown w w' → S w') :
    ∀ (n pend : Nat) (tm : Array Value) (w : World), Closed all pend → readyM all pend i = true →
      (∀ j oj, all[j]? = some oj → pend.testBit j = true → j ≠ i → ¬ Aft all i j → oi.apart all oj = true ∧ (calmOp oj.op = true ∨ freshOp oj.op = true)) →
      S w → (∀ w, S w → Yields P all ds oi v tm w) → AnyP P all ds W Φ n (pend ^^^ 2 ^ i) (Act.put ⟨tm, ds⟩ oi.dst v).tmps w → AnyP P all ds W Φ (n + 1) pend tm w := by
  intro n
  induction n with
  | zero =>
    intro pend tm w hc hr _ hS hy H
    refine ⟨hWi _ _ (readyM_spec hr).1 H.1, (fun h => by rw [h i] at hr; cases hr), fun j hj => ?_⟩
    by_cases hji : j = i
    · subst hji; exact (hy w hS).step hi H
    · have := ready_keep (readyM_spec hr).1 hj hji
      rw [H.2.1 j] at this; cases this
  | succ n ih =>
    intro pend tm w hc hr hap hS hy H
    refine ⟨hWi _ _ (readyM_spec hr).1 H.1, (fun h => by rw [h i] at hr; cases hr), fun j hj => ?_⟩
    by_cases hji : j = i
    · subst hji; exact (hy w hS).step hi H
    · have hst := H.2.2 j (ready_keep (readyM_spec hr).1 hj hji)
      obtain ⟨hbj, oj, hoj, _⟩ := readyM_spec hj
      have hib := (readyM_spec hr).1
      obtain ⟨ha, hcalm⟩ := hap j oj hoj hbj hji (hc.ready hj hib)
      obtain ⟨a1, a2, a3⟩ := Oper.apart_spec ha
      have hxor : pend ^^^ 2 ^ i ^^^ 2 ^ j = pend ^^^ 2 ^ j ^^^ 2 ^ i := by rw [Nat.xor_assoc, Nat.xor_comm (2 ^ i), Nat.xor_assoc]
      have hr' : readyM all (pend ^^^ 2 ^ j) i = true := ready_keep hbj hr (Ne.symm hji)
      have hap' : ∀ k ok, all[k]? = some ok → (pend ^^^ 2 ^ j).testBit k = true → k ≠ i → ¬ Aft all i k → oi.apart all ok = true ∧ (calmOp ok.op = true ∨ freshOp ok.op = true) := by
        intro k ok hok hk hki hna
        rw [testBit_out hbj] at hk
        simp at hk
        exact hap k ok hok hk.1 hki hna
      have next : ∀ u w', S w' → AnyP P all ds W Φ n (pend ^^^ 2 ^ i ^^^ 2 ^ j) (Act.put ⟨(Act.put ⟨tm, ds⟩ oi.dst v).tmps, ds⟩ oj.dst u).tmps w' →
          AnyP P all ds W Φ (n + 1) (pend ^^^ 2 ^ j) (Act.put ⟨tm, ds⟩ oj.dst u).tmps w' := by
        intro u w' hS' hK
        refine ih _ _ _ (hc.put hj) hr' hap' hS' (fun w2 h2 => (Yields.put (hsel i oi hi) a3).2 (hy w2 h2)) ?_
        rw [← hxor, ← put_tmps2 tm oi.dst oj.dst v u a2]
        exact hK
      unfold stepC at hst ⊢
      simp only [hoj] at hst ⊢
      by_cases hcl : calmOp oj.op = true
      · simp only [hcl, if_true] at hst ⊢
        obtain ⟨u, hyu, hK⟩ := hst
        exact ⟨u, (Yields.put (hsel j oj hoj) a1).1 hyu, next u w hS hK⟩
      · have hfr := hcalm.resolve_left hcl
        rw [put_tmps, execOp_put oj (hsel j oj hoj) _ oi.dst v a1, wanted_put oj ⟨tm, ds⟩ oi.dst v a1] at hst
        simp only [hcl, Bool.false_eq_true, if_false] at hst ⊢
        split
        · rename_i hw
          simp only [hw, if_true] at hst
          refine SemC.mono (fresh_keep hfr hst) fun u w' ⟨hK, hG⟩ => ?_
          rw [← put_tmps tm oi.dst v] at hK
          exact next u w' (hSF w w' hS hG) hK
        · rename_i hw
          simp only [hw, Bool.false_eq_true, if_false] at hst
          rw [← put_tmps tm oi.dst v] at hst
          exact next undef w hS hst
end

def freeX (all : Array Oper) (pend i : Nat) (oi : Oper) : Bool :=
  (List.range all.size).all fun j => !pend.testBit j || Nat.beq j i || aftB all i all.size j || (match all[j]? with
    | some oj => oi.apart all oj && (calmOp oj.op || freshOp oj.op)
    | none => true)

section rules
variable {P : Program} {C : Cx} {ds : List Deferred} {k : List Item} {e : Env} {L : List HP} {all : Array Oper} {W : Wat} {n pend i d : Nat}
theorem freeX_spec {oi : Oper} (h : freeX all pend i oi = true) : ∀ j oj, all[j]? = some oj → pend.testBit j = true → j ≠ i → ¬ Aft all i j → oi.apart all oj = true ∧ (calmOp oj.op = true ∨ freshOp oj.op = true) := by
  intro j oj hoj hj hne hna
  have hlt := (Array.getElem?_eq_some_iff.1 hoj).1
  have h1 := List.all_eq_true.1 h j (List.mem_range.2 hlt)
  rw [hj, hoj] at h1
  have h2 : Nat.beq j i = false := by rw [Bool.eq_false_iff]; exact fun hh => hne (Nat.eq_of_beq_eq_true hh)
  have h3 : aftB all i all.size j = false := by rw [Bool.eq_false_iff]; exact fun hh => hna (aftB_sound _ _ hh)
  rw [h2, h3] at h1
  simpa using h1
theorem Sat.grown {G : Gl} {w w' : World} {L : List HP} (h : Sat G w L) (g : Grown w w') : Sat G w' L := by
  obtain ⟨g1, g2, g3, x, g4⟩ := g
  have := h.push g1 g2 g3 g4
  exact this.tail
theorem wd_x {op : Op} {ty : TypeId} {pos : String} {after : Array Edge} {v : Value} (i : Nat) (hi : all[i]? = some ⟨some d, op, ty, pos, after, none⟩) (hv : OpV P C op ty e L v) (h : Wd P C ds all W n (pend ^^^ 2 ^ i) k ((d, v) :: e) L)
    (hr : readyM all pend i = true := by kernel_rfl) (hf : freeX all pend i ⟨some d, op, ty, pos, after, none⟩ = true := by kernel_rfl) (hd : Nat.blt d C.n = true := by rfl) (hiq : Nat.beq i W.q = false := by rfl) : Wd P C ds all W (n + 1) pend k e L := by
  intro hs hc w tm s a' hW
  have hb := (readyM_spec hr).1
  have hy : ∀ w', Sat C.G w' L → Yields P all ds ⟨some d, op, ty, pos, after, none⟩ v tm w' := fun w' s' => .inl ⟨rfl, .inl (hv w' tm ds pos after _ (some d) s' a')⟩
  refine AnyP.firstF (S := fun w' => Sat C.G w' L) hi (noSelB_sel hs).1 (Wat.back hiq) (fun w1 w2 h1 h2 => h1.grown h2) n pend tm w hc hr (freeX_spec hf) s hy ?_
  exact h hs (hc.put hr) w _ s (a'.put hd v) (Wat.fwd hb hW)
theorem wd_xg {op : Op} {ty : TypeId} {pos : String} {after : Array Edge} {v : Value} {j t : Nat} {want : Bool} (i : Nat) (hi : all[i]? = some ⟨some d, op, ty, pos, after, some (j, want)⟩) (hj : (all[j]?).bind (·.dst) = some t) (ht : lk e t = some (.bool want))
    (hv : OpV P C op ty e L v) (h : Wd P C ds all W n (pend ^^^ 2 ^ i) k ((d, v) :: e) L)
    (hr : readyM all pend i = true := by kernel_rfl) (hf : freeX all pend i ⟨some d, op, ty, pos, after, some (j, want)⟩ = true := by kernel_rfl) (hd : Nat.blt d C.n = true := by rfl) (hiq : Nat.beq i W.q = false := by rfl) : Wd P C ds all W (n + 1) pend k e L := by
  intro hs hc w tm s a' hW
  have hb := (readyM_spec hr).1
  have hy : ∀ w', Sat C.G w' L → Yields P all ds ⟨some d, op, ty, pos, after, some (j, want)⟩ v tm w' := fun w' s' => .inl ⟨by rw [wanted_of hj a' ht rfl]; simp, .inl (hv w' tm ds pos after _ (some d) s' a')⟩
  refine AnyP.firstF (S := fun w' => Sat C.G w' L) hi (noSelB_sel hs).1 (Wat.back hiq) (fun w1 w2 h1 h2 => h1.grown h2) n pend tm w hc hr (freeX_spec hf) s hy ?_
  exact h hs (hc.put hr) w _ s (a'.put hd v) (Wat.fwd hb hW)
/-- One that looks into what all others leave alone. -/
theorem wd_fr {R : List HP} {op : Op} {ty : TypeId} {pos : String} {after : Array Edge} {v : Value} (i : Nat) (hi : all[i]? = some ⟨some d, op, ty, pos, after, none⟩) (hWR : ∀ w, W.a w → Sat C.G w R) (hv : OpV P C op ty e R v) (h : Wd P C ds all W n (pend ^^^ 2 ^ i) k ((d, v) :: e) L)
    (hr : readyM all pend i = true := by kernel_rfl) (hf : freeB all pend i ⟨some d, op, ty, pos, after, none⟩ false = true := by kernel_rfl) (hd : Nat.blt d C.n = true := by rfl) (hiq : Nat.beq i W.q = false := by rfl) (hq : (aftB all i all.size W.q && pend.testBit W.q) = true := by kernel_rfl) : Wd P C ds all W (n + 1) pend k e L :=
  wd_b i hi (fun w tm ds _ hw a' => hv w tm ds pos after _ (some d) (hWR w hw) a') h hr hf hd hiq hq
theorem wd_frg {R : List HP} {op : Op} {ty : TypeId} {pos : String} {after : Array Edge} {v : Value} {j t : Nat} {want : Bool} (i : Nat) (hi : all[i]? = some ⟨some d, op, ty, pos, after, some (j, want)⟩) (hj : (all[j]?).bind (·.dst) = some t) (ht : lk e t = some (.bool want)) (hWR : ∀ w, W.a w → Sat C.G w R)
    (hv : OpV P C op ty e R v) (h : Wd P C ds all W n (pend ^^^ 2 ^ i) k ((d, v) :: e) L)
    (hr : readyM all pend i = true := by kernel_rfl) (hf : freeB all pend i ⟨some d, op, ty, pos, after, some (j, want)⟩ false = true := by kernel_rfl) (hd : Nat.blt d C.n = true := by rfl) (hiq : Nat.beq i W.q = false := by rfl) (hq : (aftB all i all.size W.q && pend.testBit W.q) = true := by kernel_rfl) : Wd P C ds all W (n + 1) pend k e L :=
  wd_bg i hi hj ht (fun w tm ds _ hw a' => hv w tm ds pos after _ (some d) (hWR w hw) a') h hr hf hd hiq hq
theorem ent_nil {L : List HP} : Ent L [] := fun _ _ _ => trivial
end rules

end Go.Proofs.YtealmijbkebipaaGreatDoor

namespace Go.Proofs.YtealmijbkebipaaGreatDoor
open Go

section
variable {α : Type} {f : α → List Value} {n : Nat}
def rowC (f : α → List Value) (l : List α) : List Value := (l.map f).flatten
theorem rowC_nil : rowC f [] = [] := rfl
theorem rowC_cons (a : α) (l : List α) : rowC f (a :: l) = f a ++ rowC f l := rfl
theorem rowC_append (l l' : List α) : rowC f (l ++ l') = rowC f l ++ rowC f l' := by simp [rowC]
theorem rowC_len (hf : ∀ a, (f a).length = n) (l : List α) : (rowC f l).length = l.length * n := by
  induction l with
  | nil => simp [rowC]
  | cons a l ih => rw [rowC_cons, List.length_append, hf, ih, List.length_cons, Nat.succ_mul]; omega
theorem rowC_split (hf : ∀ a, (f a).length = n) {l : List α} {i : Nat} {a : α} (h : l[i]? = some a) : ∃ A B, rowC f l = A ++ (f a ++ B) ∧ A.length = i * n ∧ ∀ a', rowC f (l.set i a') = A ++ (f a' ++ B) := by
  have hlt := (List.getElem?_eq_some_iff.1 h).1
  refine ⟨rowC f (l.take i), rowC f (l.drop (i + 1)), ?_, ?_, fun a' => ?_⟩
  · have e1 : l = l.take i ++ a :: l.drop (i + 1) := by
      have := List.take_append_drop i l
      rw [List.drop_eq_getElem_cons hlt] at this
      rw [List.getElem?_eq_getElem hlt] at h
      rw [← Option.some.inj h]; exact this.symm
    conv => lhs; rw [e1]
    rw [rowC_append, rowC_cons]
  · rw [rowC_len hf, List.length_take, Nat.min_eq_left (Nat.le_of_lt hlt)]
  · rw [List.set_eq_take_append_cons_drop, if_pos hlt, rowC_append, rowC_cons]
theorem rowC_get (hf : ∀ a, (f a).length = n) {l : List α} {i : Nat} {a : α} (h : l[i]? = some a) (sp : List Value := []) : ((rowC f l ++ sp).drop (0 + i * n)).take n = f a := by
  obtain ⟨A, B, e1, e2, _⟩ := rowC_split hf h
  rw [e1, Nat.zero_add, ← e2, List.append_assoc, List.append_assoc, List.drop_left]
  rw [← hf a, List.take_left]
theorem rowC_get0 (hf : ∀ a, (f a).length = n) {l : List α} {i : Nat} {a : α} (h : l[i]? = some a) : ((rowC f l).drop (0 + i * n)).take n = f a := by
  have := rowC_get hf h []
  rwa [List.append_nil] at this
theorem rowC_cell (hf : ∀ a, (f a).length = n) {l : List α} {i j : Nat} {a : α} (h : l[i]? = some a) (hj : j < n) : (rowC f l)[0 + i * n + j]? = (f a)[j]? := by
  obtain ⟨A, B, e1, e2, _⟩ := rowC_split hf h
  rw [e1, Nat.zero_add, List.getElem?_append_right (by omega), e2, Nat.add_sub_cancel_left, List.getElem?_append_left (by rw [hf]; exact hj)]
theorem rowC_put (hf : ∀ a, (f a).length = n) {l : List α} {i : Nat} {a : α} (h : l[i]? = some a) (a' : α) : (rowC f l).take (0 + i * n) ++ f a' ++ (rowC f l).drop (0 + i * n + n) = rowC f (l.set i a') := by
  obtain ⟨A, B, e1, e2, e3⟩ := rowC_split hf h
  rw [e3, e1, Nat.zero_add, ← e2, List.take_left, ← List.drop_drop, List.drop_left, ← hf a, List.drop_left, List.append_assoc]
theorem rowC_put1 (hf : ∀ a, (f a).length = n) {l : List α} {i j : Nat} {a a' : α} {v : Value} (h : l[i]? = some a) (hj : j < n) (hv : f a' = (f a).set j v) : (rowC f l).set (0 + i * n + j) v = rowC f (l.set i a') := by
  obtain ⟨A, B, e1, e2, e3⟩ := rowC_split hf h
  rw [e3, e1, Nat.zero_add, ← e2, List.set_append_right _ _ (by omega), Nat.add_sub_cancel_left, List.set_append_left _ _ (by rw [hf]; exact hj), hv]
theorem rowC_part (hf : ∀ a, (f a).length = n) {l : List α} {i : Nat} {a : α} (h : l[i]? = some a) (j m : Nat) (hj : j + m ≤ n) : ((rowC f l).drop (0 + i * n + j)).take m = ((f a).drop j).take m := by
  obtain ⟨A, B, e1, e2, _⟩ := rowC_split hf h
  rw [e1, Nat.zero_add, ← e2, ← List.drop_drop, List.drop_left, List.drop_append_of_le_length (by rw [hf]; omega), List.take_append_of_le_length (by rw [List.length_drop, hf]; omega)]
theorem rowC_putP (hf : ∀ a, (f a).length = n) {l : List α} {i : Nat} {a a' : α} (h : l[i]? = some a) (j m : Nat) (hj : j + m ≤ n) {us : List Value} (hu : f a' = (f a).take j ++ us ++ (f a).drop (j + m)) :
    (rowC f l).take (0 + i * n + j) ++ us ++ (rowC f l).drop (0 + i * n + j + m) = rowC f (l.set i a') := by
  obtain ⟨A, B, e1, e2, e3⟩ := rowC_split hf h
  rw [e3, e1, Nat.zero_add, ← e2, hu, Nat.add_assoc A.length j m, List.take_length_add_append, ← List.drop_drop (j := A.length), List.drop_left, List.take_append_of_le_length (by rw [hf]; omega), List.drop_append_of_le_length (by rw [hf]; omega)]
  simp only [List.append_assoc]
section
variable {P : Program} {C : Cx} {e : Env} {L M : List HP} {ty : TypeId} {pos : String} {after : Array Edge} {guard : Option (Nat × Bool)} {dst : Option Tmp} {K : Value → List HP → Prop}
/-- A store of one whole member. -/
theorem w_storeRow {t b i : Nat} {x y : Operand} {l : List α} {a : α} {T : TypeId} {v : Value} (hz : TySize P t n) (hx : ev e x = some (.pointer (some ⟨b, 0 + i * n, none⟩))) (hy : ev e y = some v) (hf : ∀ a, (f a).length = n) (hp : l[i]? = some a) (a' : α) (hv : cellsL v = f a') (h1 : allOne (f a') = true)
    (ht : Take (blk b (rowC f l) T) L M) (h : K undef (blk b (rowC f (l.set i a')) T :: M)) : OpW P C ⟨dst, .store t x y, ty, pos, after, guard⟩ e L K := by
  refine w_store hz hx hy hv h1 (by rw [hf]; exact Nat.beq_refl n) ?_ ht ?_
  · obtain ⟨A, B, e1, e2, _⟩ := rowC_split hf hp
    rw [e1, List.length_append, List.length_append, e2, hf]; omega
  · rw [rowC_put hf hp]; exact h
/-- A store into a member. -/
theorem w_storeRowP {t b i j m : Nat} {x y : Operand} {l : List α} {a : α} {T : TypeId} {v : Value} (hz : TySize P t m) (hx : ev e x = some (.pointer (some ⟨b, 0 + i * n + j, none⟩))) (hy : ev e y = some v) (hf : ∀ a, (f a).length = n) (hp : l[i]? = some a) (hj : j + m ≤ n) (a' : α) (hv : f a' = (f a).take j ++ cellsL v ++ (f a).drop (j + m)) (h1 : allOne (cellsL v) = true) (hl : (cellsL v).length = m)
    (ht : Take (blk b (rowC f l) T) L M) (h : K undef (blk b (rowC f (l.set i a')) T :: M)) : OpW P C ⟨dst, .store t x y, ty, pos, after, guard⟩ e L K := by
  refine w_store hz hx hy rfl h1 (by rw [hl]; exact Nat.beq_refl m) ?_ ht ?_
  · obtain ⟨A, B, e1, e2, _⟩ := rowC_split hf hp
    rw [e1, List.length_append, List.length_append, e2, hf]; omega
  · rw [rowC_putP hf hp j m hj hv]; exact h
end
theorem rowC_lt (hf : ∀ a, (f a).length = n) {l : List α} {i : Nat} {a : α} (h : l[i]? = some a) (j m : Nat) (hj : j + m ≤ n) : 0 + i * n + j + m ≤ (rowC f l).length := by
  obtain ⟨A, B, e1, e2, _⟩ := rowC_split hf h
  rw [e1, List.length_append, List.length_append, e2, hf]; omega
end

end Go.Proofs.YtealmijbkebipaaGreatDoor

namespace Go.Proofs.YtealmijbkebipaaGreatDoor

theorem low_spec {x : Nat} (h0 : x ≠ 0) (h : x < 2 ^ 64) : ∃ m, x = 2 ^ Lib.ctz 64 x * (2 * m + 1) ∧ Lib.ctz 64 x < 64 := by
  have := Lib.ctzFrom_spec 64 x (by omega) h
  simpa [Lib.ctz, h0] using this

theorem low_bit {x : Nat} (h0 : x ≠ 0) (h : x < 2 ^ 64) : x.testBit (Lib.ctz 64 x) = true ∧ ∀ j, j < Lib.ctz 64 x → x.testBit j = false := by
  obtain ⟨m, hm, hk⟩ := low_spec h0 h
  generalize Lib.ctz 64 x = k at *
  subst hm
  constructor
  · rw [Nat.mul_comm, Nat.testBit_mul_two_pow]; simp
  · intro j hj
    rw [Nat.mul_comm, Nat.testBit_mul_two_pow]; simp; omega

/-- x & (x - 1): without the lowest bit. -/
theorem low_out {x : Nat} (h0 : x ≠ 0) (h : x < 2 ^ 64) : (∀ j, (x &&& (x - 1)).testBit j = (x.testBit j && decide (j ≠ Lib.ctz 64 x))) ∧ x &&& (x - 1) < x := by
  obtain ⟨m, hm, hk⟩ := low_spec h0 h
  generalize Lib.ctz 64 x = k at *
  have hp : 0 < 2 ^ k := Nat.pow_pos (by decide)
  have hx : x = 2 ^ (k + 1) * m + 2 ^ k := by rw [hm, Nat.pow_succ, Nat.mul_add, Nat.mul_one, ← Nat.mul_assoc]
  have hx1 : x - 1 = 2 ^ (k + 1) * m + (2 ^ k - 1) := by omega
  have key : ∀ j, (x &&& (x - 1)).testBit j = (x.testBit j && decide (j ≠ k)) := by
    intro j
    rw [Nat.testBit_and]
    have t1 : x.testBit j = if j < k + 1 then (2 ^ k).testBit j else m.testBit (j - (k + 1)) := by
      rw [hx]; exact Nat.testBit_two_pow_mul_add m (by rw [Nat.pow_succ]; omega) j
    have t2 : (x - 1).testBit j = if j < k + 1 then (2 ^ k - 1).testBit j else m.testBit (j - (k + 1)) := by
      rw [hx1]; exact Nat.testBit_two_pow_mul_add m (by rw [Nat.pow_succ]; omega) j
    rw [t1, t2]
    by_cases hj : j < k + 1
    · simp only [hj, if_true, Nat.testBit_two_pow, Nat.testBit_two_pow_sub_one]
      by_cases e : k = j
      · subst e; simp
      · simp [e]
    · have : j ≠ k := by omega
      simp [hj, this]
  refine ⟨key, ?_⟩
  have hle : x &&& (x - 1) ≤ x - 1 := Nat.and_le_right
  omega

theorem testBit_not64 {x j : Nat} (hj : j < 64) : (18446744073709551615 ^^^ x).testBit j = !x.testBit j := by
  rw [Nat.testBit_xor, show 18446744073709551615 = 2 ^ 64 - 1 from rfl, Nat.testBit_two_pow_sub_one]
  simp [hj]

theorem testBit_small {x j : Nat} (hx : x < 2 ^ 64) (hj : 64 ≤ j) : x.testBit j = false := Nat.testBit_lt_two_pow (Nat.lt_of_lt_of_le hx (Nat.pow_le_pow_right (by decide) hj))

theorem ctz_zero : Lib.ctz 64 0 = 64 := rfl
theorem ctz_le (x : Nat) (hx : x < 2 ^ 64) : Lib.ctz 64 x ≤ 64 := by
  by_cases h : x = 0
  · subst h; exact Nat.le_refl _
  · exact Nat.le_of_lt (low_spec h hx).choose_spec.2

/-- A bit set, a bit cleared. -/
theorem set_bit {x i : Nat} (j : Nat) : (x ||| 2 ^ i).testBit j = (x.testBit j || decide (i = j)) := by
  rw [Nat.testBit_or, Nat.testBit_two_pow]
theorem clear_bit {x i : Nat} (hx : x < 2 ^ 64) (hi : i < 64) (j : Nat) : (x &&& (18446744073709551615 - 2 ^ i)).testBit j = (x.testBit j && !decide (i = j)) := by
  rw [Nat.testBit_and]
  have e : 18446744073709551615 - 2 ^ i = 2 ^ 64 - (2 ^ i + 1) := by omega
  rw [e, Nat.testBit_two_pow_sub_succ (Nat.pow_lt_pow_right (by decide) hi), Nat.testBit_two_pow]
  by_cases hj : j < 64
  · simp [hj]
  · have := testBit_small (x := x) (j := j) hx (by omega)
    simp [this]

end Go.Proofs.YtealmijbkebipaaGreatDoor

namespace Go.Proofs.YtealmijbkebipaaGreatDoor
open Go
attribute [local irreducible] own pe nf

def u64v (n : Nat) : Value := .int .u64 n
theorem u64_get {ws : List Nat} {i x : Nat} (h : ws[i]? = some x) : (ws.map u64v)[0 + i * 1]? = some (.int .u64 (x : Int)) := by simp [h, u64v]

/-- The library's table. -/
def debC : List Value := Lib.deBruijn64tab.map fun (n : Nat) => .int .u8 n
abbrev tabP (T : TypeId) (fz : Nat × Nat) : Pe := rob 0 debC T fz

theorem deb_get {i k : Nat} (h1 : i < 64) (h2 : Lib.deBruijn64tab.getD i 0 = k) : debC[0 + i * 1]? = some (.int .u8 (k : Nat)) := by
  have hlt : i < Lib.deBruijn64tab.length := h1
  rw [List.getD_eq_getElem?_getD, List.getElem?_eq_getElem hlt, Option.getD_some] at h2
  rw [Nat.zero_add, Nat.mul_one]
  unfold debC
  rw [List.getElem?_map, List.getElem?_eq_getElem hlt, h2]; rfl

theorem s_math_bits_TrailingZeros64 {x : Nat} {T : TypeId} {fz : Nat × Nat} (hx : x < 18446744073709551616) : FnSpec Tryz.prog 106 #[.int .u64 x] [pe (tabP T fz)]
    (fun _ : Unit => .int .i64 (Lib.ctz 64 x)) (fun _ => True) (fun _ R => R) := by
  refine fn_spec Tryz.func106 rfl rfl rfl rfl fun G R => ?_
  dsimp only [List.append_eq, List.cons_append, List.nil_append]
  refine wk_seq ?_
  refine wk_region ?_
  refine wo_v (v_assign rfl) ?_
  refine wo_nil ?_
  refine wk_seq ?_
  refine wk_seq ?_
  refine wk_region ?_
  refine wo_v (v_move rfl) ?_
  refine wo_v (v_eql rfl rfl) ?_
  refine wo_nil ?_
  refine wk_if rfl (fun hb => ?_) (fun hb => ?_)
  · refine wk_seq ?_
    refine wk_region ?_
    refine wo_v (v_assign rfl) ?_
    refine wo_nil ?_
    refine wk_ret Tryz.func106 rfl rfl (res_tmp rfl res_nil) fun W h => ?_
    refine ⟨(), ?_, trivial, Ent.sat ent_tail h⟩
    have : x = 0 := by omega
    subst this; rfl
  · have hb : x ≠ 0 := by omega
    obtain ⟨hl1, hl2⟩ := Lib.lowest_bit 64 x hb hx
    obtain ⟨hd1, hd2⟩ := Lib.deBruijn64_at _ hl2
    have hneg : (18446744073709551616 - x) % 18446744073709551616 = 2 ^ 64 - x := by omega
    have hix : (x &&& (18446744073709551616 - x) % 18446744073709551616) * 285870213051353865 % 18446744073709551616 / 2 ^ 58 = 2 ^ Lib.ctz 64 x * 285870213051353865 % 18446744073709551616 / 288230376151711744 := by rw [hneg, hl1]
    refine wk_skip ?_
    refine wk_seq ?_
    refine wk_region ?_
    refine wo_v (v_move rfl) ?_
    refine wo_v (v_move rfl) ?_
    refine wo_v (v_un_negUN rfl) ?_
    refine wo_v (v_andUN rfl rfl) ?_
    refine wo_v (v_mulUN (b := 285870213051353865) rfl rfl) ?_
    refine wo_v (v_shrUN (b := 58) rfl rfl) ?_
    refine wo_v (v_indexAddrA tyU_203 tyN_5 rfl rfl (Int.natCast_nonneg _) (by rw [hix]; omega)) ?_
    refine wo_v (v_load tyS_5 rfl (by rw [Int.toNat_natCast, hix]; exact deb_get hd1 hd2)) ?_
    refine wo_v (v_convI tyU_3 tyU_5 rfl) ?_
    refine wo_v (v_assign rfl) ?_
    refine wo_nil ?_
    refine wk_ret Tryz.func106 rfl rfl (res_tmp rfl res_nil) fun W h => ?_
    exact ⟨(), rfl, trivial, Ent.sat ent_tail h⟩

/-- Which numbers are taken, and the hand: as the document has it. -/
structure SetA where
  n : Nat
  taken : List Bool
  hand : Nat

def SetA.has (st : SetA) (i : Nat) : Bool := (st.taken[i]?).getD false

/-- The words bear the bits. -/
def bitsOf (words : List Nat) (taken : List Bool) : Prop := ∀ i, ((words[i / 64]?).getD 0).testBit (i % 64) = (taken[i]?).getD false

structure SetA.Wf (st : SetA) (words : List Nat) : Prop where
  pos : 1 ≤ st.n
  tl : st.taken.length = st.n
  le : st.n ≤ 65536
  len : words.length = (st.n + 63) / 64
  hand : st.hand < st.n
  word : ∀ w ∈ words, w < 18446744073709551616
  bits : bitsOf words st.taken

structure SetX where
  b : Nat
  words : List Nat
  T1 : TypeId
  T2 : TypeId
  T3 : TypeId
  fz : Nat × Nat

/-- A set on the heap (and the library's table, that stays). -/
def SetH (s : Nat) (st : SetA) : HP :=
  nf (fun (p : SetX) => st.Wf p.words)
    (fun p => [blk s [.int .i64 st.n, .int .i64 st.hand, .slice (some ⟨p.b, 0, none⟩) ((st.n + 63) / 64 : Nat) ((st.n + 63) / 64 : Nat)] p.T1, blk p.b (p.words.map u64v) p.T2, pe (tabP p.T3 p.fz)])

theorem s_bits_Set_in {s : Nat} {st : SetA} {i : Int} : FnSpec Tryz.prog 84 #[.pointer (some ⟨s, 0, none⟩), .int .i64 i] [SetH s st]
    (fun _ : Unit => .bool (decide (0 ≤ i ∧ i < st.n))) (fun _ => True) (fun _ R => SetH s st :: R) := by
  refine fn_spec Tryz.func84 rfl rfl rfl rfl fun G R => ?_
  refine wk_nf fun ⟨b, words, T1, T2, T3, fz⟩ hw => ?_
  dsimp only [List.append_eq, List.cons_append, List.nil_append] at hw ⊢
  refine wk_seq ?_
  refine wk_region ?_
  refine wo_v (v_assign rfl) ?_
  refine wo_nil ?_
  refine wk_seq ?_
  refine wk_region ?_
  refine wo_v (v_move rfl) ?_
  refine wo_v (v_neSome tyU_70 rfl rfl) ?_
  refine wo_v (v_move rfl) ?_
  refine wo_gv (v_move rfl) ?_
  refine wo_gv (v_geq rfl rfl) ?_
  refine wo_v (v_pickT rfl rfl) ?_
  refine wo_v (v_move rfl) ?_
  refine wo_if (t := 11) rfl (fun hb => ?_) (fun hb => ?_)
  · refine wo_gv (v_move rfl) ?_
    refine wo_gv (v_move rfl) ?_
    refine wo_gv (v_nilCheck rfl) ?_
    refine wo_gv (v_fieldAddr tyF_160_0 rfl) ?_
    refine wo_gv (v_load tyS_3 rfl rfl) ?_
    refine wo_gv (v_lss rfl rfl) ?_
    refine wo_v (v_pickT rfl rfl) ?_
    refine wo_v (v_assign rfl) ?_
    refine wo_nil ?_
    refine wk_ret Tryz.func84 rfl rfl (res_tmp rfl res_nil) fun W h => ?_
    refine ⟨(), ?_, trivial, Ent.sat (by refine ent_nf ⟨b, words, T1, T2, T3, fz⟩ hw ?_; exact ent_tail) h⟩
    have : decide (i < (st.n : Int)) = decide (0 ≤ i ∧ i < st.n) := by simp; omega
    rw [← this]; rfl
  · refine wo_gF ?_
    refine wo_gF ?_
    refine wo_gF ?_
    refine wo_gF ?_
    refine wo_gF ?_
    refine wo_gF ?_
    refine wo_v (v_pickF rfl rfl) ?_
    refine wo_v (v_assign rfl) ?_
    refine wo_nil ?_
    refine wk_ret Tryz.func84 rfl rfl (res_tmp rfl res_nil) fun W h => ?_
    refine ⟨(), ?_, trivial, Ent.sat (by refine ent_nf ⟨b, words, T1, T2, T3, fz⟩ hw ?_; exact ent_tail) h⟩
    have : false = decide (0 ≤ i ∧ i < (st.n : Int)) := by simp; omega
    rw [← this]; rfl

theorem SetA.Wf.get {st : SetA} {words : List Nat} (h : st.Wf words) {i : Nat} (hi : i < st.n) : ∃ w, words[i / 64]? = some w ∧ w < 18446744073709551616 ∧ w.testBit (i % 64) = st.has i := by
  have hlt : i / 64 < words.length := by rw [h.len]; omega
  refine ⟨words[i / 64], List.getElem?_eq_getElem hlt, h.word _ (List.getElem_mem hlt), ?_⟩
  have := h.bits i
  rw [List.getElem?_eq_getElem hlt] at this
  exact this

theorem shr_and_one (w k : Nat) : ((w / 2 ^ k &&& 1 : Nat) = 1) ↔ w.testBit k = true := by
  rw [Nat.testBit_eq_decide_div_mod_eq, Nat.and_one_is_mod]; simp

theorem s_bits_Set_Has {s : Nat} {st : SetA} {i : Int} : FnSpec Tryz.prog 58 #[.pointer (some ⟨s, 0, none⟩), .int .i64 i] [SetH s st]
    (fun _ : Unit => .bool (decide (0 ≤ i) && st.has i.toNat)) (fun _ => True) (fun _ R => SetH s st :: R) := by
  refine fn_spec Tryz.func58 rfl rfl rfl rfl fun G R => ?_
  dsimp only [List.append_eq, List.cons_append, List.nil_append]
  refine wk_seq ?_
  refine wk_region ?_
  refine wo_v (v_assign rfl) ?_
  refine wo_nil ?_
  refine wk_seq ?_
  refine wk_region ?_
  refine wo_v (v_move rfl) ?_
  refine wo_v (v_move rfl) ?_
  refine wo_w (w_call s_bits_Set_in rfl (by repeat constructor) ?_)
  rintro ⟨⟩ -
  refine wo_v (v_move rfl) ?_
  refine wo_if (t := 8) rfl (fun hb => ?_) (fun hb => ?_)
  · refine wo_nf fun ⟨b, words, T1, T2, T3, fz⟩ hw => ?_
    dsimp only [List.append_eq, List.cons_append, List.nil_append] at hw ⊢
    have hle := hw.le
    obtain ⟨k, rfl⟩ := Int.eq_ofNat_of_zero_le hb.1
    obtain ⟨w, hg, hwl, hbit⟩ := hw.get (i := k) (by omega)
    have hlen := hw.len
    have e1 : (((k : Int) / 64)).toNat = k / 64 := by omega
    have e2 : (((k : Int) % 64)).toNat = k % 64 := by omega
    refine wo_gv (v_move rfl) ?_
    refine wo_gv (v_nilCheck rfl) ?_
    refine wo_gv (v_fieldAddr tyF_160_2 rfl) ?_
    refine wo_gv (v_load tyS_158 rfl rfl) ?_
    refine wo_gv (v_move rfl) ?_
    refine wo_gv (v_quoI rfl rfl) ?_
    refine wo_gv (v_indexAddr tyU_158 tyN_33 rfl rfl (by omega) (by have := (List.getElem?_eq_some_iff.1 hg).1; omega)) ?_
    refine wo_gv (v_load tyS_33 rfl (show _ = some (.int .u64 (w : Int)) from by rw [e1]; exact u64_get hg)) ?_
    refine wo_gv (v_move rfl) ?_
    refine wo_gv (v_remN (b := 64) rfl rfl) ?_
    have hs : w / 2 ^ (k % 64) < 18446744073709551616 := by have := Nat.div_le_self w (2 ^ (k % 64)); omega
    refine wo_gv (v_shrUN rfl rfl) ?_
    refine wo_gv (v_andUN (b := 1) rfl rfl hs (by omega)) ?_
    refine wo_gv (v_eql rfl rfl) ?_
    refine wo_v (v_pickT rfl rfl) ?_
    refine wo_v (v_assign rfl) ?_
    refine wo_nil ?_
    refine wk_ret Tryz.func58 rfl rfl (res_tmp rfl res_nil) fun W h => ?_
    refine ⟨(), ?_, trivial, Ent.sat (by refine ent_nf ⟨b, words, T1, T2, T3, fz⟩ hw ?_; exact ent_tail) h⟩
    have : decide (((w / 2 ^ (k % 64) &&& 1 : Nat) : Int) = 1) = (decide (0 ≤ (k : Int)) && st.has (k : Int).toNat) := by
      rw [Int.toNat_natCast, ← hbit, Bool.eq_iff_iff, decide_eq_true_eq]
      have h1 := shr_and_one w (k % 64)
      simp only [Int.natCast_nonneg, decide_true, Bool.true_and, ← h1]
      omega
    rw [← this]; rfl
  · refine wo_nf fun ⟨b, words, T1, T2, T3, fz⟩ hw => ?_
    dsimp only [List.append_eq, List.cons_append, List.nil_append] at hw ⊢
    have hwf := hw.tl
    refine wo_gF ?_
    refine wo_gF ?_
    refine wo_gF ?_
    refine wo_gF ?_
    refine wo_gF ?_
    refine wo_gF ?_
    refine wo_gF ?_
    refine wo_gF ?_
    refine wo_gF ?_
    refine wo_gF ?_
    refine wo_gF ?_
    refine wo_gF ?_
    refine wo_gF ?_
    refine wo_v (v_pickF rfl rfl) ?_
    refine wo_v (v_assign rfl) ?_
    refine wo_nil ?_
    refine wk_ret Tryz.func58 rfl rfl (res_tmp rfl res_nil) fun W h => ?_
    refine ⟨(), ?_, trivial, Ent.sat (by refine ent_nf ⟨b, words, T1, T2, T3, fz⟩ hw ?_; exact ent_tail) h⟩
    have : false = (decide (0 ≤ i) && st.has i.toNat) := by
      by_cases h0 : 0 ≤ i
      · have h1 : ¬ i < st.n := fun h2 => hb ⟨h0, h2⟩
        have : st.has i.toNat = false := by unfold SetA.has; rw [List.getElem?_eq_none (by rw [hwf]; omega)]; rfl
        simp [this]
      · simp [h0]
    rw [← this]; rfl


/-! Marks. -/

def SetA.put (st : SetA) (i : Nat) (b : Bool) : SetA := ⟨st.n, st.taken.set i b, st.hand⟩
def SetA.isFree (st : SetA) (i : Int) : Bool := decide (0 ≤ i ∧ i < st.n) && !st.has i.toNat

theorem bitsOf_set {words : List Nat} {taken : List Bool} {k w w' : Nat} {b : Bool} (h : bitsOf words taken) (hk : k < taken.length) (hg : words[k / 64]? = some w)
    (hb : ∀ j, j < 64 → w'.testBit j = if j = k % 64 then b else w.testBit j) : bitsOf (words.set (k / 64) w') (taken.set k b) := by
  intro i
  have hlt : k / 64 < words.length := (List.getElem?_eq_some_iff.1 hg).1
  rw [List.getElem?_set, List.getElem?_set]
  have hi := h i
  by_cases hq : k / 64 = i / 64
  · rw [if_pos hq, if_pos hlt, Option.getD_some, hb _ (Nat.mod_lt _ (by decide))]
    by_cases he : k = i
    · subst he; simp [hk]
    · have : ¬ i % 64 = k % 64 := by omega
      rw [if_neg this, if_neg he, ← hi, ← hq, hg]; rfl
  · have he : ¬ k = i := fun e => hq (by rw [e])
    rw [if_neg hq, if_neg he, hi]

theorem SetA.Wf.put {st : SetA} {words : List Nat} {k w w' : Nat} {b : Bool} (h : st.Wf words) (hk : k < st.n) (hg : words[k / 64]? = some w) (hw' : w' < 18446744073709551616)
    (hb : ∀ j, j < 64 → w'.testBit j = if j = k % 64 then b else w.testBit j) : (st.put k b).Wf (words.set (k / 64) w') where
  pos := h.pos
  tl := by simpa [SetA.put] using h.tl
  le := h.le
  len := by simpa [SetA.put] using h.len
  hand := h.hand
  word := fun x hx => by
    rcases List.mem_or_eq_of_mem_set hx with hx | rfl
    · exact h.word x hx
    · exact hw'
  bits := bitsOf_set h.bits (by rw [h.tl]; exact hk) hg hb

theorem u64_set {words : List Nat} {i x : Nat} : (words.map u64v).set (0 + i * 1) (.int .u64 (x : Int)) = (words.set i x).map u64v := by
  rw [List.map_set]; simp [u64v]

theorem or_bit_lt {w k : Nat} (hw : w < 18446744073709551616) : w ||| (1 * 2 ^ (k % 64) % 18446744073709551616) < 18446744073709551616 := by
  have : w ||| (1 * 2 ^ (k % 64) % 18446744073709551616) < 2 ^ 64 := Nat.or_lt_two_pow hw (Nat.mod_lt _ (by decide))
  exact this
theorem one_shl {k : Nat} : 1 * 2 ^ (k % 64) % 18446744073709551616 = 2 ^ (k % 64) := by
  have : 2 ^ (k % 64) < 2 ^ 64 := Nat.pow_lt_pow_right (by decide) (Nat.mod_lt _ (by decide))
  rw [Nat.one_mul]; exact Nat.mod_eq_of_lt this

theorem s_bits_Set_Mark {s : Nat} {st : SetA} {i : Int} : FnSpec Tryz.prog 76 #[.pointer (some ⟨s, 0, none⟩), .int .i64 i] [SetH s st]
    (fun _ : Unit => .bool (st.isFree i)) (fun _ => True) (fun _ R => SetH s (if st.isFree i = true then st.put i.toNat true else st) :: R) := by
  refine fn_spec Tryz.func76 rfl rfl rfl rfl fun G R => ?_
  dsimp only [List.append_eq, List.cons_append, List.nil_append]
  refine wk_seq ?_
  refine wk_region ?_
  refine wo_v (v_assign rfl) ?_
  refine wo_nil ?_
  refine wk_seq ?_
  refine wk_seq ?_
  refine wk_region ?_
  refine wo_v (v_move rfl) ?_
  refine wo_v (v_move rfl) ?_
  refine wo_w (w_call s_bits_Set_in rfl (by repeat constructor) ?_)
  rintro ⟨⟩ -
  refine wo_v (v_not rfl) ?_
  refine wo_v (v_move rfl) ?_
  refine wo_if (t := 9) rfl (fun hb => ?_) (fun hb => ?_)
  · refine wo_gF ?_
    refine wo_gF ?_
    refine wo_gF ?_
    refine wo_v (v_pickT rfl rfl) ?_
    refine wo_nil ?_
    refine wk_condT rfl ?_
    refine wk_seq ?_
    refine wk_region ?_
    refine wo_v (v_assign rfl) ?_
    refine wo_nil ?_
    refine wk_ret Tryz.func76 rfl rfl (res_tmp rfl res_nil) fun W h => ?_
    have hf : st.isFree i = false := by unfold SetA.isFree; simp [hb]
    rw [hf]
    exact ⟨(), rfl, trivial, h⟩
  · refine wo_gv (v_move rfl) ?_
    refine wo_gv (v_move rfl) ?_
    refine wo_gw (w_call s_bits_Set_Has rfl (by repeat constructor) ?_)
    rintro ⟨⟩ -
    refine wo_v (v_pickF rfl rfl) ?_
    refine wo_nil ?_
    refine wk_if rfl (fun hc => ?_) (fun hc => ?_)
    · refine wk_seq ?_
      refine wk_region ?_
      refine wo_v (v_assign rfl) ?_
      refine wo_nil ?_
      refine wk_ret Tryz.func76 rfl rfl (res_tmp rfl res_nil) fun W h => ?_
      have hf : st.isFree i = false := by
        unfold SetA.isFree
        simp [hc.2]
      rw [hf]
      exact ⟨(), rfl, trivial, h⟩
    · refine wk_nf fun ⟨b, words, T1, T2, T3, fz⟩ hw => ?_
      dsimp only [List.append_eq, List.cons_append, List.nil_append] at hw ⊢
      obtain ⟨k, rfl⟩ := Int.eq_ofNat_of_zero_le hb.1
      have hf : st.isFree (k : Int) = true := by
        unfold SetA.isFree
        have hc' := hc.resolve_left (by omega)
        rw [hc']; simpa using hb.2
      have hkn : k < st.n := by omega
      obtain ⟨w, hg, hwl, hbit⟩ := hw.get (i := k) hkn
      have hle := hw.le
      have hlen := hw.len
      have hlt := (List.getElem?_eq_some_iff.1 hg).1
      have e1 : (((k : Int) / 64)).toNat = k / 64 := by omega
      refine wk_skip ?_
      refine wk_seq ?_
      refine wk_draw (n := 14) (pend := 16383) ⟨14, fun _ => True⟩ mixed (by kernel_rfl) rfl (fun _ _ => trivial) rfl ?_
      refine wd_a 0 rfl (v_move rfl) ?_
      refine wd_a 1 rfl (v_nilCheck rfl) ?_
      refine wd_a 2 rfl (v_fieldAddr tyF_160_2 rfl) ?_
      refine wd_a 3 rfl (v_load tyS_158 rfl rfl) ?_
      refine wd_a 4 rfl (v_move rfl) ?_
      refine wd_a 5 rfl (v_quoI rfl rfl) ?_
      refine wd_a 6 rfl (v_indexAddr tyU_158 tyN_33 rfl rfl) ?_
      refine wd_a 7 rfl (v_load tyS_33 rfl (show _ = some (.int .u64 (w : Int)) from by rw [e1]; exact u64_get hg)) ?_
      refine wd_a 8 rfl (v_move rfl) ?_
      refine wd_a 9 rfl (v_remN (b := 64) rfl rfl) ?_
      refine wd_a 10 rfl (v_shlUN (a := 1) rfl rfl) ?_
      refine wd_a 11 rfl (v_orUN rfl rfl) ?_
      refine wd_a 12 rfl (v_indexAddr tyU_158 tyN_33 rfl rfl) ?_
      refine wd_l0 13 rfl (w_store1 tyN_33 rfl rfl rfl (blt_of (b := (words.map u64v).length) (by rw [e1, List.length_map]; omega)) (by repeat constructor) ?_)
      refine ⟨fun _ _ _ => trivial, ?_⟩
      refine wd_done ?_
      refine wk_seq ?_
      refine wk_region ?_
      refine wo_v (v_assign rfl) ?_
      refine wo_nil ?_
      refine wk_ret Tryz.func76 rfl rfl (res_tmp rfl res_nil) fun W h => ?_
      rw [if_pos hf, hf]
      refine ⟨(), rfl, trivial, Ent.sat ?_ h⟩
      rw [e1, u64_set]
      refine ent_nf ⟨b, words.set (k / 64) (w ||| (1 * 2 ^ (k % 64) % 18446744073709551616)), T1, T2, T3, fz⟩ (hw.put hkn hg (or_bit_lt hwl) ?_) ?_
      · intro j hj
        rw [one_shl, set_bit]
        by_cases e : j = k % 64
        · subst e; simp
        · have : ¬ k % 64 = j := fun h => e h.symm
          simp [e, this]
      · exact ent_tail

end Go.Proofs.YtealmijbkebipaaGreatDoor
