/- Law 13: StoreWhole, printed by gen_do5.py. What came in, as assertions that stay. -/
import Derived.Test.YtealmijbkebipaaGreatDoorSwAZ
import Derived.Test.YtealmijbkebipaaGreatDoorSwBA
import Derived.Test.YtealmijbkebipaaGreatDoorSwAY
import Derived.Deep.Strs
import Derived.Deep.Fields23
import Derived.ReadAgain
import Derived.OpenShut
import Derived.Lib.LaidTab
import Derived.Lib.SmallJoins
namespace Go.Proofs.YtealmijbkebipaaGreatDoor
open Go
attribute [local irreducible] own pe nf

structure WhlX where
  i : Nat
  S : StA
  st : DevA
  r : RefS
  X : RefX
  last : List PgR
  ahead : List PgR
  xl : SV
  xh : SV
  gen : Int
theorem s_sgraffitolaw13_StoreWhole {xa xf : SV} {down : Int} {l : List ActA} {fates : List Int} {T : TypeId} {fz : Nat × Nat} (hdn : down ≤ 9223372036854775807) :
    FnSpec Tryz.prog 3 #[.agg (List.toArray [xa.v, .int .i64 down, xf.v])] [pe (tabP T fz), pe (roSl xa (rowC actC l) 3), pe (actsB l), pe (roSl xf (fates.map fun f => .int .i64 f) 1)]
    (fun _ : Unit => .bool true) (fun _ => True) (fun _ R => R) := by
  refine fn_spec Tryz.func3 rfl rfl rfl rfl fun G R => ?_
  dsimp only [List.append_eq, List.cons_append, List.nil_append]
  refine wk_ro (x := xa) (cells := rowC actC l) (size := 3) (by repeat constructor) fun hxa => ?_
  have hxan : xa.n = l.length := by have := hxa.1; rw [rowC_len actC_len] at this; omega
  refine wk_ro (x := xf) (cells := fates.map fun f => .int .i64 f) (size := 1) (by repeat constructor) fun hxf => ?_
  have hxfn : xf.n = fates.length := by have := hxf.1; rw [List.length_map] at this; omega
  refine wk_seq ?_
  refine wk_region ?_
  refine wo_w (w_boxA rfl fun b1 => ?_)
  refine wo_v (v_assign rfl) ?_
  refine wo_nil ?_
  refine wk_seq ?_
  refine wk_seq ?_
  refine wk_region ?_
  refine wo_v (v_fieldAddr tyF_25_0 rfl) ?_
  refine wo_v (v_load tyS_22 rfl rfl) ?_
  refine wo_w (w_call (s_sgraffitolaw13_light (x := xa) (l := l)) rfl (by repeat constructor) ?_)
  rintro b hlight
  refine wo_v (v_not rfl) ?_
  refine wo_v (v_move rfl) ?_
  refine wo_if (t := 18) rfl (fun hb => ?_) (fun hb => ?_)
  · refine wo_gF ?_
    refine wo_gF ?_
    refine wo_gF ?_
    refine wo_gF ?_
    refine wo_v (v_pickT rfl rfl) ?_
    refine wo_nil ?_
    refine wk_condT rfl ?_
    refine wk_seq ?_
    refine wk_region ?_
    refine wo_v (v_assign rfl) ?_
    refine wo_nil ?_
    refine wk_ret Tryz.func3 rfl rfl (res_tmp rfl res_nil) fun W h => ?_
    exact ⟨(), rfl, trivial, Ent.sat ent_tail h⟩
  · refine wo_gv (v_fieldAddr tyF_25_2 rfl) ?_
    refine wo_gv (v_load tyS_23 rfl rfl) ?_
    refine wo_gv (v_len tyU_23 rfl) ?_
    refine wo_gv (v_gtr rfl rfl) ?_
    refine wo_v (v_pickF rfl rfl) ?_
    refine wo_nil ?_
    refine wk_if rfl (fun h60 => ?_) (fun h60 => ?_)
    · refine wk_seq ?_
      refine wk_region ?_
      refine wo_v (v_assign rfl) ?_
      refine wo_nil ?_
      refine wk_ret Tryz.func3 rfl rfl (res_tmp rfl res_nil) fun W h => ?_
      exact ⟨(), rfl, trivial, Ent.sat ent_tail h⟩
    · obtain ⟨hl100, hl80⟩ := hlight hb
      have hfl : fates.length ≤ 60 := by omega
      refine wk_skip ?_
      refine wk_seq ?_
      refine wk_region ?_
      refine wo_w (w_call (s_flash_New (n := 60) (size := 96) (by decide) (by decide) (by decide) (by decide)) rfl (by repeat constructor) ?_)
      rintro d -
      refine wo_v (v_assign rfl) ?_
      refine wo_nil ?_
      refine wk_seq ?_
      refine wk_region ?_
      refine wo_v (v_move rfl) ?_
      refine wo_w (w_call s_sgraffitolaw13_small rfl (by repeat constructor) ?_)
      rintro ⟨⟩ -
      refine wo_w (w_call (s_store_Format (p := smallP) (st := DevA.new 60 96) (T := T) (fz := fz) smallP_ok rfl rfl) rfl (by repeat constructor) ?_)
      rintro s -
      refine wo_v (v_move rfl) ?_
      refine wo_v (v_extract rfl rfl) ?_
      refine wo_v (v_extract rfl rfl) ?_
      refine wo_v (v_assign rfl) ?_
      refine wo_v (v_assign rfl) ?_
      refine wo_nil ?_
      refine wk_seq ?_
      refine wk_seq ?_
      refine wk_region ?_
      refine wo_v (v_move rfl) ?_
      refine wo_v (v_neq rfl rfl) ?_
      refine wo_nil ?_
      refine wk_condF rfl ?_
      refine wk_skip ?_
      refine wk_seq ?_
      refine wk_region ?_
      refine wo_v (v_move rfl) ?_
      refine wo_v (v_fieldAddr tyF_25_1 rfl) ?_
      refine wo_v (v_load tyS_3 rfl rfl) ?_
      refine wo_w (w_call (s_flash_Device_Arm (st := DevA.new 60 96) (k := down) hdn) rfl (by repeat constructor) ?_)
      rintro ⟨⟩ -
      refine wo_nil ?_
      refine wk_seq ?_
      refine wk_region ?_
      refine wo_w (w_call (s_sgraffitoref13_New (n := 48) (by decide)) rfl (by repeat constructor) ?_)
      rintro X0 -
      refine wo_w (w_allocA tyZ_43 fun br => ?_)
      refine wo_w0 (w_storeN tyN_43 rfl rfl rfl rfl (by repeat constructor) (by repeat constructor) ?_)
      refine wo_nil ?_
      refine wk_seq ?_
      refine wk_region ?_
      refine wo_v (v_assign rfl) ?_
      refine wo_v (v_assign rfl) ?_
      refine wo_nil ?_
      refine wk_seq ?_
      refine wk_region ?_
      refine wo_v (v_assign rfl) ?_
      refine wo_nil ?_
      refine wk_seq ?_
      refine wk_seq ?_
      refine wk_region ?_
      refine wo_v (v_assign rfl) ?_
      refine wo_nil ?_
      refine wk_block ?_
      refine wk_ent (ent_roNil (x := nilSV) (size := 3) rfl (ent_roNil (x := nilSV) (size := 3) rfl (Ent.refl _))) ?_
      refine wk_loop (fun a : WhlX => a.i ≤ l.length ∧ LoopI a.i a.S a.st a.r a.last a.ahead a.gen) (fun a => [(1, .pointer (some ⟨b1, 0, none⟩)), (3, .pointer (some ⟨d, 0, none⟩)), (4, .pointer (some ⟨s, 0, none⟩)), (6, .pointer (some ⟨br, 0, none⟩)), (7, a.xl.v), (8, a.xh.v), (9, .int .i64 a.gen), (10, .int .i64 a.i)]) (fun a => blk b1 [xa.v, .int .i64 down, xf.v] 25 :: blk br (refC a.r a.X) 43 :: StH s d smallP a.S :: DevH d a.st :: pe (refP a.r a.X) :: pe (roSl a.xl (rowC pgC a.last) 3) :: pe (roSl a.xh (rowC pgC a.ahead) 3) :: pe (tabP T fz) :: pe (roSl xa (rowC actC l) 3) :: pe (actsB l) :: pe (roSl xf (fates.map fun f => .int .i64 f) 1) :: R) (fun a => l.length - a.i) ⟨0, StA.new smallP 0, { DevA.new 60 96 with armed := down.toNat }, RefS.new 48, X0, [], [], nilSV, nilSV, 0⟩ ⟨Nat.zero_le _, LoopI.start rfl rfl rfl rfl⟩ ⟨rfl, rfl, rfl, rfl, rfl, rfl, rfl, rfl, trivial⟩ (by refine ent_take ?_; refine ent_take ?_; refine ent_take ?_; refine ent_take ?_; refine ent_take ?_; refine ent_take ?_; refine ent_take ?_; refine ent_take ?_; refine ent_take ?_; refine ent_take ?_; refine ent_take ?_; exact ent_tail) fun a0 hI next => ?_
      obtain ⟨i, S, st, r, X, last, ahead, xl, xh, gen⟩ := a0
      obtain ⟨hi, hI⟩ := hI
      dsimp only at hi hI next ⊢
      have hacts := hI.acts
      refine wk_seq ?_
      refine wk_seq ?_
      refine wk_region ?_
      refine wo_v (v_move rfl) ?_
      refine wo_v (v_fieldAddr tyF_25_0 rfl) ?_
      refine wo_v (v_load tyS_22 rfl rfl) ?_
      refine wo_v (v_len tyU_22 rfl) ?_
      refine wo_v (v_lss rfl rfl) ?_
      refine wo_nil ?_
      refine wk_if rfl (fun hc => ?_) (fun hc => ?_)
      · have hil : i < l.length := by omega
        have hg : l[i]? = some l[i] := List.getElem?_eq_getElem hil
        generalize l[i] = a at hg
        have hm : a ∈ l := List.mem_of_getElem? hg
        have hbs := hl80 a hm
        have t1 := Int.lt_tmod_of_pos a.kind (b := 9) (by omega)
        have t2 := Int.tmod_lt_of_pos a.kind (b := 9) (by omega)
        have hkind : (a.kind.tmod 9 + 9).tmod 9 = kindOf a.kind := rfl
        have hD : DevB st := ⟨by rw [hI.inv.m.size]; decide, by rw [hI.inv.m.size]; decide, by omega⟩
        refine wk_ent (ent_ro (p := actsB l) (q := bsl a.sv a.bs) (by repeat constructor) (fun r => actsB_one hm) (Ent.refl _)) ?_
        refine wk_block' (x := xa) (cells := rowC actC l) (size := 3) (by repeat constructor) (by omega) fun b5 o5 vs5 T5 fz5 ha5 hv5 hle5 => ?_
        refine wk_skip ?_
        refine wk_seq ?_
        refine wk_block ?_
        refine wk_seq ?_
        refine wk_seq ?_
        refine wk_region ?_
        refine wo_v (v_fieldAddr tyF_25_0 rfl) ?_
        refine wo_v (v_load tyS_22 rfl rfl) ?_
        refine wo_v (v_move rfl) ?_
        refine wo_v (v_indexAddrS tyU_22 tyN_47 rfl rfl ha5 (by omega)) ?_
        refine wo_v (v_fieldAddr tyF_47_0 rfl) ?_
        refine wo_v (v_load tyS_3 rfl (ro_row actC_len hv5 hg (j := 0) (by decide))) ?_
        refine wo_v (v_tremI rfl rfl) ?_
        refine wo_v (v_addI rfl rfl) ?_
        refine wo_v (v_tremI rfl rfl) ?_
        rw [hkind]
        refine wo_v (v_eql rfl rfl) ?_
        refine wo_nil ?_
        refine wk_if rfl (fun hk8 => ?_) (fun hk8 => ?_)
        · refine wk_seq ?_
          refine wk_seq ?_
          refine wk_region ?_
          refine wo_v (v_move rfl) ?_
          refine wo_w (w_call (s_store_Store_Flush (p := smallP) (S := S) (st := st) hD (by omega)) rfl (by repeat constructor) ?_)
          rintro ks hks
          obtain ⟨hf1, hf2, hf3⟩ := hI.flush (by omega) hks
          refine wo_v (v_neq rfl rfl) ?_
          refine wo_v (v_move rfl) ?_
          refine wo_if (t := 58) rfl (fun he => ?_) (fun he => ?_)
          · refine wo_gF ?_
            refine wo_gF ?_
            refine wo_gF ?_
            refine wo_v (v_pickT rfl rfl) ?_
            refine wo_nil ?_
            refine wk_condT rfl ?_
            have hE := hf1 (fun hh => he (by rw [hh]; rfl))
            refine wk_exit rfl ?_
            refine wk_seq ?_
            refine wk_region ?_
            refine wo_v (v_move rfl) ?_
            refine wo_v (v_fieldAddr tyF_25_2 rfl) ?_
            refine wo_v (v_load tyS_23 rfl rfl) ?_
            refine wo_w (w_call (s_flash_Device_Crash (st := (S.flushL st ks).2.2) (x2 := xf) (fates := fates) (by omega)) rfl (by repeat constructor) ?_)
            rintro st9 hcr
            obtain ⟨hk1, hk2⟩ := hE.crash hcr
            refine wo_nil ?_
            refine wk_seq ?_
            refine wk_seq ?_
            refine wk_region ?_
            refine wo_v (v_move rfl) ?_
            refine wo_w (w_call (s_sgraffitolaw13_foul (st := st9) (by rw [hcr.size, hE.size]; decide) (by rw [hcr.n, hE.n]; decide)) rfl (by repeat constructor) ?_)
            rintro fb -
            refine wo_nil ?_
            refine wk_if rfl (fun hfb => ?_) (fun hfb => ?_)
            · refine wk_seq ?_
              refine wk_region ?_
              refine wo_w (w_call (s_sgraffitolaw13_awake (T := T) (fz := fz)) rfl (by repeat constructor) ?_)
              rintro ⟨⟩ -
              refine wo_v (v_assign rfl) ?_
              refine wo_nil ?_
              refine wk_ret Tryz.func3 rfl rfl (res_tmp rfl res_nil) fun W h => ?_
              exact ⟨(), rfl, trivial, Ent.sat ent_tail h⟩
            · refine wk_skip ?_
              refine wk_seq ?_
              refine wk_region ?_
              refine wo_v (v_move rfl) ?_
              refine wo_v (v_move rfl) ?_
              refine wo_v (v_move rfl) ?_
              refine wo_w (w_call (s_sgraffitolaw13_there (st := st9) (gen := gen) (x := xl) (l := last) (T := T) (fz := fz) hE.g0 (by have := hE.g1; omega) (hcr.n.trans hE.n) (hcr.size.trans hE.size) hcr.down (by rw [hcr.acts]; have := hE.acts; omega) hcr.loose hE.nl hE.ll hk1) rfl (by repeat constructor) ?_)
              rintro ⟨⟩ -
              refine wo_v (v_move rfl) ?_
              refine wo_gv (v_move rfl) ?_
              refine wo_gv (v_move rfl) ?_
              refine wo_gv (v_move rfl) ?_
              refine wo_gw (w_call (s_sgraffitolaw13_there (st := st9) (gen := gen) (x := xh) (l := ahead) (T := T) (fz := fz) hE.g0 (by have := hE.g1; omega) (hcr.n.trans hE.n) (hcr.size.trans hE.size) hcr.down (by rw [hcr.acts]; have := hE.acts; omega) hcr.loose hE.na hE.la hk2) rfl (by repeat constructor) ?_)
              rintro ⟨⟩ -
              refine wo_v (v_pickT rfl rfl) ?_
              refine wo_v (v_move rfl) ?_
              refine wo_gw (w_call (s_sgraffitolaw13_awake (T := T) (fz := fz)) rfl (by repeat constructor) ?_)
              rintro ⟨⟩ -
              refine wo_v (v_pickT rfl rfl) ?_
              refine wo_v (v_assign rfl) ?_
              refine wo_nil ?_
              refine wk_ret Tryz.func3 rfl rfl (res_tmp rfl res_nil) fun W h => ?_
              exact ⟨(), rfl, trivial, Ent.sat ent_tail h⟩
          · obtain ⟨hs1, hs2⟩ := hf3 (by omega)
            refine wo_gv (v_move rfl) ?_
            refine wo_gw (w_call (s_flash_Device_Sync (st := (S.flushL st ks).2.2) (by omega)) rfl (by repeat constructor) ?_)
            rintro ⟨⟩ -
            refine wo_gv (v_neq rfl rfl) ?_
            refine wo_v (v_pickF rfl rfl) ?_
            refine wo_nil ?_
            refine wk_if rfl (fun hs => ?_) (fun hs => ?_)
            · have hE := hs1 (fun hh => hs (by rw [hh]; rfl))
              refine wk_exit rfl ?_
              refine wk_seq ?_
              refine wk_region ?_
              refine wo_v (v_move rfl) ?_
              refine wo_v (v_fieldAddr tyF_25_2 rfl) ?_
              refine wo_v (v_load tyS_23 rfl rfl) ?_
              refine wo_w (w_call (s_flash_Device_Crash (st := (S.flushL st ks).2.2.sync.2) (x2 := xf) (fates := fates) (by omega)) rfl (by repeat constructor) ?_)
              rintro st9 hcr
              obtain ⟨hk1, hk2⟩ := hE.crash hcr
              refine wo_nil ?_
              refine wk_seq ?_
              refine wk_seq ?_
              refine wk_region ?_
              refine wo_v (v_move rfl) ?_
              refine wo_w (w_call (s_sgraffitolaw13_foul (st := st9) (by rw [hcr.size, hE.size]; decide) (by rw [hcr.n, hE.n]; decide)) rfl (by repeat constructor) ?_)
              rintro fb -
              refine wo_nil ?_
              refine wk_if rfl (fun hfb => ?_) (fun hfb => ?_)
              · refine wk_seq ?_
                refine wk_region ?_
                refine wo_w (w_call (s_sgraffitolaw13_awake (T := T) (fz := fz)) rfl (by repeat constructor) ?_)
                rintro ⟨⟩ -
                refine wo_v (v_assign rfl) ?_
                refine wo_nil ?_
                refine wk_ret Tryz.func3 rfl rfl (res_tmp rfl res_nil) fun W h => ?_
                exact ⟨(), rfl, trivial, Ent.sat ent_tail h⟩
              · refine wk_skip ?_
                refine wk_seq ?_
                refine wk_region ?_
                refine wo_v (v_move rfl) ?_
                refine wo_v (v_move rfl) ?_
                refine wo_v (v_move rfl) ?_
                refine wo_w (w_call (s_sgraffitolaw13_there (st := st9) (gen := gen) (x := xl) (l := last) (T := T) (fz := fz) hE.g0 (by have := hE.g1; omega) (hcr.n.trans hE.n) (hcr.size.trans hE.size) hcr.down (by rw [hcr.acts]; have := hE.acts; omega) hcr.loose hE.nl hE.ll hk1) rfl (by repeat constructor) ?_)
                rintro ⟨⟩ -
                refine wo_v (v_move rfl) ?_
                refine wo_gv (v_move rfl) ?_
                refine wo_gv (v_move rfl) ?_
                refine wo_gv (v_move rfl) ?_
                refine wo_gw (w_call (s_sgraffitolaw13_there (st := st9) (gen := gen) (x := xh) (l := ahead) (T := T) (fz := fz) hE.g0 (by have := hE.g1; omega) (hcr.n.trans hE.n) (hcr.size.trans hE.size) hcr.down (by rw [hcr.acts]; have := hE.acts; omega) hcr.loose hE.na hE.la hk2) rfl (by repeat constructor) ?_)
                rintro ⟨⟩ -
                refine wo_v (v_pickT rfl rfl) ?_
                refine wo_v (v_move rfl) ?_
                refine wo_gw (w_call (s_sgraffitolaw13_awake (T := T) (fz := fz)) rfl (by repeat constructor) ?_)
                rintro ⟨⟩ -
                refine wo_v (v_pickT rfl rfl) ?_
                refine wo_v (v_assign rfl) ?_
                refine wo_nil ?_
                refine wk_ret Tryz.func3 rfl rfl (res_tmp rfl res_nil) fun W h => ?_
                exact ⟨(), rfl, trivial, Ent.sat ent_tail h⟩
            · have hM := hs2 (by omega)
              have hMa := hM.acts
              refine wk_ent (ent_refOut (r := r) (X := X) (by repeat constructor)) ?_
              refine wk_skip ?_
              refine wk_draw (n := 8) (pend := 255) ⟨8, fun _ => True⟩ mixed (by kernel_rfl) rfl (fun _ _ => trivial) rfl ?_
              refine wd_a 0 rfl (v_move rfl) ?_
              refine wd_a 1 rfl (v_fieldAddr tyF_43_2 rfl) ?_
              refine wd_a 2 rfl (v_load tyS_41 rfl rfl) ?_
              refine wd_a 3 rfl (v_fieldAddr tyF_43_1 rfl) ?_
              refine wd_a 4 rfl (v_load tyS_3 rfl rfl) ?_
              refine wd_a 5 rfl (v_assign rfl) ?_
              refine wd_a 6 rfl (v_assign rfl) ?_
              refine wd_a 7 rfl (v_assign rfl) ?_
              refine wd_done ?_
              refine wk_seq ?_
              refine wk_draw (n := 16) (pend := 65535) ⟨16, fun _ => True⟩ mixed (by kernel_rfl) rfl (fun _ _ => trivial) rfl ?_
              refine wd_x 0 rfl (v_move rfl) ?_
              refine wd_x 1 rfl (v_loadN tyA_43 rfl (by repeat constructor) (by repeat constructor)) ?_
              refine wd_x 2 rfl (v_fieldAddr tyF_25_0 rfl) ?_
              refine wd_x 3 rfl (v_load tyS_22 rfl rfl) ?_
              refine wd_x 4 rfl (v_move rfl) ?_
              refine wd_x 5 rfl (v_indexAddrS tyU_22 tyN_47 rfl rfl ha5 (by omega)) ?_
              refine wd_x 6 rfl (v_loadA tyA_47 rfl (ro_rowA actC_len hv5 hg) rfl) ?_
              refine wd_alt [7, 12] (by kernel_rfl) ⟨7, by simp, by kernel_rfl⟩ ?_
              intro i hi
              simp only [List.mem_cons, List.not_mem_nil, or_false] at hi
              rcases hi with rfl | rfl
              · refine alt_l rfl (w_call (s_sgraffitolaw13_did (c := 2 * i) (S := (S.flushL st ks).2.1) (st := (S.flushL st ks).2.2.sync.2) (r := r) (X := X) (a := a) hM.inv (by omega) (by omega) hbs) rfl (by repeat constructor) ?_)
                rintro ⟨r1, X1, f, S1, st1⟩ hdid
                refine ⟨fun _ _ _ => trivial, ?_⟩
                dsimp only at hdid ⊢
                refine wd_x 8 rfl (v_move rfl) ?_
                refine wd_x 9 rfl (v_extract rfl rfl) ?_
                refine wd_p 10 rfl (v_extract rfl rfl) ?_
                refine wd_p 11 rfl (v_extract rfl rfl) ?_
                refine wd_l 12 rfl (w_allocA tyZ_43 fun bx => ?_)
                refine ⟨fun _ _ _ => trivial, ?_⟩
                obtain ⟨rfl, hL⟩ := hM.did (by omega) hk8 hdid
                refine wd_l0 13 rfl (w_storeN tyN_43 rfl rfl rfl rfl (by repeat constructor) (by repeat constructor) ?_)
                refine ⟨fun _ _ _ => trivial, ?_⟩
                refine wd_a 14 rfl (v_assign rfl) ?_
                refine wd_a 15 rfl (v_assign rfl) ?_
                refine wd_done ?_
                refine wk_seq ?_
                refine wk_seq ?_
                refine wk_region ?_
                refine wo_v (v_move rfl) ?_
                refine wo_v (v_not rfl) ?_
                refine wo_nil ?_
                refine wk_condF rfl ?_
                refine wk_skip ?_
                refine wk_seq ?_
                refine wk_seq ?_
                refine wk_region ?_
                refine wo_v (v_move rfl) ?_
                refine wo_v (v_neq rfl rfl) ?_
                refine wo_nil ?_
                refine wk_condF rfl ?_
                refine wk_skip ?_
                refine wk_region ?_
                refine wo_v (v_loadN tyA_43 rfl (by repeat constructor) (by repeat constructor)) ?_
                refine wo_w0 (w_storeN tyN_43 rfl rfl rfl rfl (by repeat constructor) (by repeat constructor) ?_)
                refine wo_nil ?_
                refine wk_inBlock ?_
                refine wk_region ?_
                refine wo_v (v_move rfl) ?_
                refine wo_v (v_addI rfl rfl) ?_
                refine wo_v (v_assign rfl) ?_
                refine wo_nil ?_
                exact (next ⟨i + 1, S1, st1, r1, X1, r.live, last, X.xl, xl, r.gen⟩ ⟨by dsimp only; omega, hL⟩ (by dsimp only; omega)).use ⟨rfl, rfl, rfl, rfl, rfl, rfl, rfl, rfl, trivial⟩ (by refine ent_take ?_; refine ent_take ?_; refine ent_take ?_; refine ent_take ?_; refine ent_take ?_; refine ent_take ?_; refine ent_take ?_; refine ent_take ?_; refine ent_take ?_; refine ent_take ?_; refine ent_take ?_; exact ent_tail)
              · refine alt_l rfl (w_allocA tyZ_43 fun bx => ?_)
                refine ⟨fun _ _ _ => trivial, ?_⟩
                refine wd_l 7 rfl (w_call (s_sgraffitolaw13_did (c := 2 * i) (S := (S.flushL st ks).2.1) (st := (S.flushL st ks).2.2.sync.2) (r := r) (X := X) (a := a) hM.inv (by omega) (by omega) hbs) rfl (by repeat constructor) ?_)
                rintro ⟨r1, X1, f, S1, st1⟩ hdid
                refine ⟨fun _ _ _ => trivial, ?_⟩
                dsimp only at hdid ⊢
                obtain ⟨rfl, hL⟩ := hM.did (by omega) hk8 hdid
                refine wd_a 8 rfl (v_move rfl) ?_
                refine wd_a 9 rfl (v_extract rfl rfl) ?_
                refine wd_p 10 rfl (v_extract rfl rfl) ?_
                refine wd_p 11 rfl (v_extract rfl rfl) ?_
                refine wd_l0 13 rfl (w_storeN tyN_43 rfl rfl rfl rfl (by repeat constructor) (by repeat constructor) ?_)
                refine ⟨fun _ _ _ => trivial, ?_⟩
                refine wd_a 14 rfl (v_assign rfl) ?_
                refine wd_a 15 rfl (v_assign rfl) ?_
                refine wd_done ?_
                refine wk_seq ?_
                refine wk_seq ?_
                refine wk_region ?_
                refine wo_v (v_move rfl) ?_
                refine wo_v (v_not rfl) ?_
                refine wo_nil ?_
                refine wk_condF rfl ?_
                refine wk_skip ?_
                refine wk_seq ?_
                refine wk_seq ?_
                refine wk_region ?_
                refine wo_v (v_move rfl) ?_
                refine wo_v (v_neq rfl rfl) ?_
                refine wo_nil ?_
                refine wk_condF rfl ?_
                refine wk_skip ?_
                refine wk_region ?_
                refine wo_v (v_loadN tyA_43 rfl (by repeat constructor) (by repeat constructor)) ?_
                refine wo_w0 (w_storeN tyN_43 rfl rfl rfl rfl (by repeat constructor) (by repeat constructor) ?_)
                refine wo_nil ?_
                refine wk_inBlock ?_
                refine wk_region ?_
                refine wo_v (v_move rfl) ?_
                refine wo_v (v_addI rfl rfl) ?_
                refine wo_v (v_assign rfl) ?_
                refine wo_nil ?_
                exact (next ⟨i + 1, S1, st1, r1, X1, r.live, last, X.xl, xl, r.gen⟩ ⟨by dsimp only; omega, hL⟩ (by dsimp only; omega)).use ⟨rfl, rfl, rfl, rfl, rfl, rfl, rfl, rfl, trivial⟩ (by refine ent_take ?_; refine ent_take ?_; refine ent_take ?_; refine ent_take ?_; refine ent_take ?_; refine ent_take ?_; refine ent_take ?_; refine ent_take ?_; refine ent_take ?_; refine ent_take ?_; refine ent_take ?_; exact ent_tail)
        · refine wk_skip ?_
          refine wk_seq ?_
          refine wk_draw (n := 16) (pend := 65535) ⟨16, fun _ => True⟩ mixed (by kernel_rfl) rfl (fun _ _ => trivial) rfl ?_
          refine wd_x 0 rfl (v_move rfl) ?_
          refine wd_x 1 rfl (v_loadN tyA_43 rfl (by repeat constructor) (by repeat constructor)) ?_
          refine wd_x 2 rfl (v_fieldAddr tyF_25_0 rfl) ?_
          refine wd_x 3 rfl (v_load tyS_22 rfl rfl) ?_
          refine wd_x 4 rfl (v_move rfl) ?_
          refine wd_x 5 rfl (v_indexAddrS tyU_22 tyN_47 rfl rfl ha5 (by omega)) ?_
          refine wd_x 6 rfl (v_loadA tyA_47 rfl (ro_rowA actC_len hv5 hg) rfl) ?_
          refine wd_alt [7, 12] (by kernel_rfl) ⟨7, by simp, by kernel_rfl⟩ ?_
          intro i hi
          simp only [List.mem_cons, List.not_mem_nil, or_false] at hi
          rcases hi with rfl | rfl
          · refine alt_l rfl (w_call (s_sgraffitolaw13_did (c := 2 * i) (S := S) (st := st) (r := r) (X := X) (a := a) hI.inv (by omega) (by omega) hbs) rfl (by repeat constructor) ?_)
            rintro ⟨r1, X1, f, S1, st1⟩ hdid
            refine ⟨fun _ _ _ => trivial, ?_⟩
            dsimp only at hdid ⊢
            refine wd_x 8 rfl (v_move rfl) ?_
            refine wd_x 9 rfl (v_extract rfl rfl) ?_
            refine wd_p 10 rfl (v_extract rfl rfl) ?_
            refine wd_p 11 rfl (v_extract rfl rfl) ?_
            refine wd_l 12 rfl (w_allocA tyZ_43 fun bx => ?_)
            refine ⟨fun _ _ _ => trivial, ?_⟩
            obtain ⟨hE1, hL1⟩ := hI.did (by omega) hk8 hdid
            refine wd_l0 13 rfl (w_storeN tyN_43 rfl rfl rfl rfl (by repeat constructor) (by repeat constructor) ?_)
            refine ⟨fun _ _ _ => trivial, ?_⟩
            refine wd_a 14 rfl (v_assign rfl) ?_
            refine wd_a 15 rfl (v_assign rfl) ?_
            refine wd_done ?_
            refine wk_seq ?_
            refine wk_seq ?_
            refine wk_region ?_
            refine wo_v (v_move rfl) ?_
            refine wo_v (v_not rfl) ?_
            refine wo_nil ?_
            refine wk_condF rfl ?_
            refine wk_skip ?_
            refine wk_seq ?_
            refine wk_seq ?_
            refine wk_region ?_
            refine wo_v (v_move rfl) ?_
            refine wo_v (v_neq rfl rfl) ?_
            refine wo_nil ?_
            refine wk_if rfl (fun hf => ?_) (fun hf => ?_)
            · have hE := hE1 (fun hh => hf (by rw [hh]; rfl))
              refine wk_exit rfl ?_
              refine wk_seq ?_
              refine wk_region ?_
              refine wo_v (v_move rfl) ?_
              refine wo_v (v_fieldAddr tyF_25_2 rfl) ?_
              refine wo_v (v_load tyS_23 rfl rfl) ?_
              refine wo_w (w_call (s_flash_Device_Crash (st := st1) (x2 := xf) (fates := fates) (by omega)) rfl (by repeat constructor) ?_)
              rintro st9 hcr
              obtain ⟨hk1, hk2⟩ := hE.crash hcr
              refine wo_nil ?_
              refine wk_seq ?_
              refine wk_seq ?_
              refine wk_region ?_
              refine wo_v (v_move rfl) ?_
              refine wo_w (w_call (s_sgraffitolaw13_foul (st := st9) (by rw [hcr.size, hE.size]; decide) (by rw [hcr.n, hE.n]; decide)) rfl (by repeat constructor) ?_)
              rintro fb -
              refine wo_nil ?_
              refine wk_if rfl (fun hfb => ?_) (fun hfb => ?_)
              · refine wk_seq ?_
                refine wk_region ?_
                refine wo_w (w_call (s_sgraffitolaw13_awake (T := T) (fz := fz)) rfl (by repeat constructor) ?_)
                rintro ⟨⟩ -
                refine wo_v (v_assign rfl) ?_
                refine wo_nil ?_
                refine wk_ret Tryz.func3 rfl rfl (res_tmp rfl res_nil) fun W h => ?_
                exact ⟨(), rfl, trivial, Ent.sat ent_tail h⟩
              · refine wk_skip ?_
                refine wk_seq ?_
                refine wk_region ?_
                refine wo_v (v_move rfl) ?_
                refine wo_v (v_move rfl) ?_
                refine wo_v (v_move rfl) ?_
                refine wo_w (w_call (s_sgraffitolaw13_there (st := st9) (gen := gen) (x := xl) (l := last) (T := T) (fz := fz) hE.g0 (by have := hE.g1; omega) (hcr.n.trans hE.n) (hcr.size.trans hE.size) hcr.down (by rw [hcr.acts]; have := hE.acts; omega) hcr.loose hE.nl hE.ll hk1) rfl (by repeat constructor) ?_)
                rintro ⟨⟩ -
                refine wo_v (v_move rfl) ?_
                refine wo_gv (v_move rfl) ?_
                refine wo_gv (v_move rfl) ?_
                refine wo_gv (v_move rfl) ?_
                refine wo_gw (w_call (s_sgraffitolaw13_there (st := st9) (gen := gen) (x := xh) (l := ahead) (T := T) (fz := fz) hE.g0 (by have := hE.g1; omega) (hcr.n.trans hE.n) (hcr.size.trans hE.size) hcr.down (by rw [hcr.acts]; have := hE.acts; omega) hcr.loose hE.na hE.la hk2) rfl (by repeat constructor) ?_)
                rintro ⟨⟩ -
                refine wo_v (v_pickT rfl rfl) ?_
                refine wo_v (v_move rfl) ?_
                refine wo_gw (w_call (s_sgraffitolaw13_awake (T := T) (fz := fz)) rfl (by repeat constructor) ?_)
                rintro ⟨⟩ -
                refine wo_v (v_pickT rfl rfl) ?_
                refine wo_v (v_assign rfl) ?_
                refine wo_nil ?_
                refine wk_ret Tryz.func3 rfl rfl (res_tmp rfl res_nil) fun W h => ?_
                exact ⟨(), rfl, trivial, Ent.sat ent_tail h⟩
            · have hL := hL1 (by omega)
              refine wk_skip ?_
              refine wk_region ?_
              refine wo_v (v_loadN tyA_43 rfl (by repeat constructor) (by repeat constructor)) ?_
              refine wo_w0 (w_storeN tyN_43 rfl rfl rfl rfl (by repeat constructor) (by repeat constructor) ?_)
              refine wo_nil ?_
              refine wk_inBlock ?_
              refine wk_region ?_
              refine wo_v (v_move rfl) ?_
              refine wo_v (v_addI rfl rfl) ?_
              refine wo_v (v_assign rfl) ?_
              refine wo_nil ?_
              exact (next ⟨i + 1, S1, st1, r1, X1, last, ahead, xl, xh, gen⟩ ⟨by dsimp only; omega, hL⟩ (by dsimp only; omega)).use ⟨rfl, rfl, rfl, rfl, rfl, rfl, rfl, rfl, trivial⟩ (by refine ent_take ?_; refine ent_take ?_; refine ent_take ?_; refine ent_take ?_; refine ent_take ?_; refine ent_take ?_; refine ent_take ?_; refine ent_take ?_; refine ent_take ?_; refine ent_take ?_; refine ent_take ?_; exact ent_tail)
          · refine alt_l rfl (w_allocA tyZ_43 fun bx => ?_)
            refine ⟨fun _ _ _ => trivial, ?_⟩
            refine wd_l 7 rfl (w_call (s_sgraffitolaw13_did (c := 2 * i) (S := S) (st := st) (r := r) (X := X) (a := a) hI.inv (by omega) (by omega) hbs) rfl (by repeat constructor) ?_)
            rintro ⟨r1, X1, f, S1, st1⟩ hdid
            refine ⟨fun _ _ _ => trivial, ?_⟩
            dsimp only at hdid ⊢
            obtain ⟨hE1, hL1⟩ := hI.did (by omega) hk8 hdid
            refine wd_a 8 rfl (v_move rfl) ?_
            refine wd_a 9 rfl (v_extract rfl rfl) ?_
            refine wd_p 10 rfl (v_extract rfl rfl) ?_
            refine wd_p 11 rfl (v_extract rfl rfl) ?_
            refine wd_l0 13 rfl (w_storeN tyN_43 rfl rfl rfl rfl (by repeat constructor) (by repeat constructor) ?_)
            refine ⟨fun _ _ _ => trivial, ?_⟩
            refine wd_a 14 rfl (v_assign rfl) ?_
            refine wd_a 15 rfl (v_assign rfl) ?_
            refine wd_done ?_
            refine wk_seq ?_
            refine wk_seq ?_
            refine wk_region ?_
            refine wo_v (v_move rfl) ?_
            refine wo_v (v_not rfl) ?_
            refine wo_nil ?_
            refine wk_condF rfl ?_
            refine wk_skip ?_
            refine wk_seq ?_
            refine wk_seq ?_
            refine wk_region ?_
            refine wo_v (v_move rfl) ?_
            refine wo_v (v_neq rfl rfl) ?_
            refine wo_nil ?_
            refine wk_if rfl (fun hf => ?_) (fun hf => ?_)
            · have hE := hE1 (fun hh => hf (by rw [hh]; rfl))
              refine wk_exit rfl ?_
              refine wk_seq ?_
              refine wk_region ?_
              refine wo_v (v_move rfl) ?_
              refine wo_v (v_fieldAddr tyF_25_2 rfl) ?_
              refine wo_v (v_load tyS_23 rfl rfl) ?_
              refine wo_w (w_call (s_flash_Device_Crash (st := st1) (x2 := xf) (fates := fates) (by omega)) rfl (by repeat constructor) ?_)
              rintro st9 hcr
              obtain ⟨hk1, hk2⟩ := hE.crash hcr
              refine wo_nil ?_
              refine wk_seq ?_
              refine wk_seq ?_
              refine wk_region ?_
              refine wo_v (v_move rfl) ?_
              refine wo_w (w_call (s_sgraffitolaw13_foul (st := st9) (by rw [hcr.size, hE.size]; decide) (by rw [hcr.n, hE.n]; decide)) rfl (by repeat constructor) ?_)
              rintro fb -
              refine wo_nil ?_
              refine wk_if rfl (fun hfb => ?_) (fun hfb => ?_)
              · refine wk_seq ?_
                refine wk_region ?_
                refine wo_w (w_call (s_sgraffitolaw13_awake (T := T) (fz := fz)) rfl (by repeat constructor) ?_)
                rintro ⟨⟩ -
                refine wo_v (v_assign rfl) ?_
                refine wo_nil ?_
                refine wk_ret Tryz.func3 rfl rfl (res_tmp rfl res_nil) fun W h => ?_
                exact ⟨(), rfl, trivial, Ent.sat ent_tail h⟩
              · refine wk_skip ?_
                refine wk_seq ?_
                refine wk_region ?_
                refine wo_v (v_move rfl) ?_
                refine wo_v (v_move rfl) ?_
                refine wo_v (v_move rfl) ?_
                refine wo_w (w_call (s_sgraffitolaw13_there (st := st9) (gen := gen) (x := xl) (l := last) (T := T) (fz := fz) hE.g0 (by have := hE.g1; omega) (hcr.n.trans hE.n) (hcr.size.trans hE.size) hcr.down (by rw [hcr.acts]; have := hE.acts; omega) hcr.loose hE.nl hE.ll hk1) rfl (by repeat constructor) ?_)
                rintro ⟨⟩ -
                refine wo_v (v_move rfl) ?_
                refine wo_gv (v_move rfl) ?_
                refine wo_gv (v_move rfl) ?_
                refine wo_gv (v_move rfl) ?_
                refine wo_gw (w_call (s_sgraffitolaw13_there (st := st9) (gen := gen) (x := xh) (l := ahead) (T := T) (fz := fz) hE.g0 (by have := hE.g1; omega) (hcr.n.trans hE.n) (hcr.size.trans hE.size) hcr.down (by rw [hcr.acts]; have := hE.acts; omega) hcr.loose hE.na hE.la hk2) rfl (by repeat constructor) ?_)
                rintro ⟨⟩ -
                refine wo_v (v_pickT rfl rfl) ?_
                refine wo_v (v_move rfl) ?_
                refine wo_gw (w_call (s_sgraffitolaw13_awake (T := T) (fz := fz)) rfl (by repeat constructor) ?_)
                rintro ⟨⟩ -
                refine wo_v (v_pickT rfl rfl) ?_
                refine wo_v (v_assign rfl) ?_
                refine wo_nil ?_
                refine wk_ret Tryz.func3 rfl rfl (res_tmp rfl res_nil) fun W h => ?_
                exact ⟨(), rfl, trivial, Ent.sat ent_tail h⟩
            · have hL := hL1 (by omega)
              refine wk_skip ?_
              refine wk_region ?_
              refine wo_v (v_loadN tyA_43 rfl (by repeat constructor) (by repeat constructor)) ?_
              refine wo_w0 (w_storeN tyN_43 rfl rfl rfl rfl (by repeat constructor) (by repeat constructor) ?_)
              refine wo_nil ?_
              refine wk_inBlock ?_
              refine wk_region ?_
              refine wo_v (v_move rfl) ?_
              refine wo_v (v_addI rfl rfl) ?_
              refine wo_v (v_assign rfl) ?_
              refine wo_nil ?_
              exact (next ⟨i + 1, S1, st1, r1, X1, last, ahead, xl, xh, gen⟩ ⟨by dsimp only; omega, hL⟩ (by dsimp only; omega)).use ⟨rfl, rfl, rfl, rfl, rfl, rfl, rfl, rfl, trivial⟩ (by refine ent_take ?_; refine ent_take ?_; refine ent_take ?_; refine ent_take ?_; refine ent_take ?_; refine ent_take ?_; refine ent_take ?_; refine ent_take ?_; refine ent_take ?_; refine ent_take ?_; refine ent_take ?_; exact ent_tail)
      · have hE := hI.done (by omega)
        refine wk_exit rfl ?_
        refine wk_seq ?_
        refine wk_region ?_
        refine wo_v (v_move rfl) ?_
        refine wo_v (v_fieldAddr tyF_25_2 rfl) ?_
        refine wo_v (v_load tyS_23 rfl rfl) ?_
        refine wo_w (w_call (s_flash_Device_Crash (st := st) (x2 := xf) (fates := fates) (by omega)) rfl (by repeat constructor) ?_)
        rintro st9 hcr
        obtain ⟨hk1, hk2⟩ := hE.crash hcr
        refine wo_nil ?_
        refine wk_seq ?_
        refine wk_seq ?_
        refine wk_region ?_
        refine wo_v (v_move rfl) ?_
        refine wo_w (w_call (s_sgraffitolaw13_foul (st := st9) (by rw [hcr.size, hE.size]; decide) (by rw [hcr.n, hE.n]; decide)) rfl (by repeat constructor) ?_)
        rintro fb -
        refine wo_nil ?_
        refine wk_if rfl (fun hfb => ?_) (fun hfb => ?_)
        · refine wk_seq ?_
          refine wk_region ?_
          refine wo_w (w_call (s_sgraffitolaw13_awake (T := T) (fz := fz)) rfl (by repeat constructor) ?_)
          rintro ⟨⟩ -
          refine wo_v (v_assign rfl) ?_
          refine wo_nil ?_
          refine wk_ret Tryz.func3 rfl rfl (res_tmp rfl res_nil) fun W h => ?_
          exact ⟨(), rfl, trivial, Ent.sat ent_tail h⟩
        · refine wk_skip ?_
          refine wk_seq ?_
          refine wk_region ?_
          refine wo_v (v_move rfl) ?_
          refine wo_v (v_move rfl) ?_
          refine wo_v (v_move rfl) ?_
          refine wo_w (w_call (s_sgraffitolaw13_there (st := st9) (gen := gen) (x := xl) (l := last) (T := T) (fz := fz) hE.g0 (by have := hE.g1; omega) (hcr.n.trans hE.n) (hcr.size.trans hE.size) hcr.down (by rw [hcr.acts]; have := hE.acts; omega) hcr.loose hE.nl hE.ll hk1) rfl (by repeat constructor) ?_)
          rintro ⟨⟩ -
          refine wo_v (v_move rfl) ?_
          refine wo_gv (v_move rfl) ?_
          refine wo_gv (v_move rfl) ?_
          refine wo_gv (v_move rfl) ?_
          refine wo_gw (w_call (s_sgraffitolaw13_there (st := st9) (gen := gen) (x := xh) (l := ahead) (T := T) (fz := fz) hE.g0 (by have := hE.g1; omega) (hcr.n.trans hE.n) (hcr.size.trans hE.size) hcr.down (by rw [hcr.acts]; have := hE.acts; omega) hcr.loose hE.na hE.la hk2) rfl (by repeat constructor) ?_)
          rintro ⟨⟩ -
          refine wo_v (v_pickT rfl rfl) ?_
          refine wo_v (v_move rfl) ?_
          refine wo_gw (w_call (s_sgraffitolaw13_awake (T := T) (fz := fz)) rfl (by repeat constructor) ?_)
          rintro ⟨⟩ -
          refine wo_v (v_pickT rfl rfl) ?_
          refine wo_v (v_assign rfl) ?_
          refine wo_nil ?_
          refine wk_ret Tryz.func3 rfl rfl (res_tmp rfl res_nil) fun W h => ?_
          exact ⟨(), rfl, trivial, Ent.sat ent_tail h⟩

end Go.Proofs.YtealmijbkebipaaGreatDoor

namespace Go.Proofs.YtealmijbkebipaaGreatDoor
open Go
open Go.ChangeShapes Go.WideShapes Go.ChangeAt Go.RowKit Go.Deep

/-- The heap of a world, as that which stays. -/
def heapP (W : World) : PH := fun b => W.heap[b]?
def same (W : World) : Pe := ⟨fun r => ∀ b o, W.heap[b]? = some o → r b = some o, fun h hr b o hb => hr _ _ (h b o hb)⟩
def glOf (W : World) : Gl := ⟨W.os, W.output, W.tape⟩

theorem sat_pes (W : World) : ∀ (L : List Pe), (∀ p ∈ L, p.q (heapP W)) → Sat (glOf W) W (L.map pe) := by
  have key : ∀ (L : List Pe), (∀ p ∈ L, p.q (heapP W)) → starL (L.map pe) (fun _ => none) (heapP W) := by
    intro L
    induction L with
    | nil => exact fun _ => trivial
    | cons p L ih => exact fun h => ⟨fun _ => none, fun _ => none, fun _ => .inr ⟨rfl, rfl⟩, h p List.mem_cons_self, ih fun q hq => h q (List.mem_cons_of_mem _ hq)⟩
  exact fun L h => ⟨fun _ => none, heapP W, ⟨rfl, rfl, rfl, fun _ => .inl rfl, fun b o hb => (by cases hb), fun b o hb => hb⟩, key L h⟩

theorem roSl_read {W : World} {a : Addr} {n c size : Nat} {cells : List Value} (hl : cells.length = n * size) (hs : 0 < size) (hc : n ≤ c) (h : ∀ j, j < n * size → W.cell? (a.add j) = cells[j]?) : (roSl ⟨some a, n, c⟩ cells size).q (heapP W) := by
  by_cases h0 : n = 0
  · subst h0
    exact ⟨(0, 0, [], 0, (0, 0)), ⟨hl, hc, .inl rfl⟩, fun y hy => by cases hy⟩
  · have hpos : 0 < n * size := Nat.mul_pos (by omega) hs
    have hat : ∀ j, j < n * size → ∃ v, W.cell? (a.add j) = some v ∧ cells[j]? = some v := by
      intro j hj
      obtain ⟨v, hv⟩ : ∃ v, cells[j]? = some v := ⟨_, List.getElem?_eq_getElem (by omega)⟩
      exact ⟨v, (h j hj).trans hv, hv⟩
    obtain ⟨v0, hv0, _⟩ := hat 0 hpos
    rw [show a.add 0 = a from rfl] at hv0
    unfold World.cell? at hv0
    split at hv0
    · rename_i cs T fz hb
      split at hv0
      · cases hv0
      rename_i hsp
      obtain ⟨b, o, sp⟩ := a
      have hsp' : sp = none := by cases sp with
        | none => rfl
        | some s => exact absurd rfl hsp
      subst hsp'
      have hall : ∀ j, j < n * size → cs.toList[o + j]? = cells[j]? := by
        intro j hj
        obtain ⟨v, h1, h2⟩ := hat j hj
        rw [h2]
        have e1 : (Addr.add ⟨b, o, none⟩ j) = ⟨b, o + j, none⟩ := by unfold Addr.add; split <;> simp_all
        rw [e1] at h1
        unfold World.cell? at h1
        dsimp only at h1 hb
        rw [hb] at h1
        simpa using h1
      have hlen : o + n * size ≤ cs.toList.length := by
        have h1 := hall (n * size - 1) (by omega)
        rw [List.getElem?_eq_getElem (show n * size - 1 < cells.length by rw [hl]; omega)] at h1
        obtain ⟨h2, _⟩ := List.getElem?_eq_some_iff.1 h1
        omega
      refine ⟨(b, o, cs.toList, T, fz), ⟨hl, hc, .inr ⟨rfl, ?_, hlen⟩⟩, fun y hy => ?_⟩
      · refine List.ext_getElem? fun j => ?_
        rw [List.getElem?_take]
        split
        · rename_i hj
          rw [List.getElem?_drop, hall j hj]
        · rename_i hj
          exact (List.getElem?_eq_none (by rw [hl]; exact Nat.le_of_not_lt hj)).symm
      · have hy : y ∈ (if n = 0 then [] else [rob b cs.toList T fz]) := hy
        rw [if_neg h0, List.mem_singleton] at hy
        subst hy
        exact hb
    · cases hv0

section
variable {H : Type} {enc : TypeId × Value → H} {P : Program} {W : World} {spare : Nat → Bool}

theorem read_bytes {t e : TypeId} {fuel : Nat} {v : Value} {x : DataW H × List MemPlace} (ht : P.underlying t = some (.slice e)) (he : P.underlying e = some (.int .u8)) (hc : P.cellsOf e = 1) (h : DataW.trod enc P W 0 spare true fuel t [v] = some x) :
    ∃ (sv : SV) (bs : List UInt8), v = sv.v ∧ (bsl sv bs).q (heapP W) := by
  rcases open_ints ht he hc h with ⟨h1, _⟩ | ⟨a, len, cap, zs, h1, _, hlc, _, hzl, _, hcell, hwf⟩
  · obtain rfl : v = .slice none 0 0 := by simpa using h1
    exact ⟨nilSV, [], rfl, (0, 0, [], 0, (0, 0)), ⟨rfl, Nat.le_refl _, .inl rfl⟩, fun y hy => by cases hy⟩
  · obtain rfl : v = .slice (some a) len cap := by simpa using h1
    have hlen : len ≤ zs.length := by rw [hzl]; split <;> omega
    refine ⟨⟨some a, len, cap⟩, (zs.take len).map fun z => UInt8.ofNat z.toNat, rfl, roSl_read ?_ (by decide) hlc fun j hj => ?_⟩
    · simp; omega
    · rw [Nat.mul_one] at hj
      have hz : j < zs.length := by omega
      rw [hcell j hz]
      have hw := hwf zs[j] (List.getElem_mem hz)
      obtain ⟨hlo, hhi⟩ := bounds_u8 hw
      have e1 : (u8s ((zs.take len).map fun z => UInt8.ofNat z.toNat))[j]? = some (.int .u8 (UInt8.ofNat zs[j].toNat).toNat) := by
        simp [u8s, hj, hz]
      rw [e1, List.getD_eq_getElem?_getD, List.getElem?_eq_getElem hz, Option.getD_some, UInt8.toNat_ofNat']
      congr 2
      omega

theorem read_nums {t e : TypeId} {fuel : Nat} {v : Value} {x : DataW H × List MemPlace} (ht : P.underlying t = some (.slice e)) (he : P.underlying e = some (.int .i64)) (hc : P.cellsOf e = 1) (h : DataW.trod enc P W 0 spare true fuel t [v] = some x) :
    ∃ (sv : SV) (l : List Int), v = sv.v ∧ (roSl sv (l.map fun f => .int .i64 f) 1).q (heapP W) := by
  rcases open_ints ht he hc h with ⟨h1, _⟩ | ⟨a, len, cap, zs, h1, _, hlc, _, hzl, _, hcell, hwf⟩
  · obtain rfl : v = .slice none 0 0 := by simpa using h1
    exact ⟨nilSV, [], rfl, (0, 0, [], 0, (0, 0)), ⟨rfl, Nat.le_refl _, .inl rfl⟩, fun y hy => by cases hy⟩
  · obtain rfl : v = .slice (some a) len cap := by simpa using h1
    have hlen : len ≤ zs.length := by rw [hzl]; split <;> omega
    refine ⟨⟨some a, len, cap⟩, zs.take len, rfl, roSl_read ?_ (by decide) hlc fun j hj => ?_⟩
    · simp; omega
    · rw [Nat.mul_one] at hj
      have hz : j < zs.length := by omega
      rw [hcell j hz]
      simp [hj, hz]

theorem add_add3 (a : Addr) (i j : Nat) : (a.add i).add j = a.add (i + j) := add_add a i j

theorem read_acts {t e : TypeId} {f0 f1 f2 : Field} {el : TypeId} {fuel : Nat} {v : Value} {x : DataW H × List MemPlace} (ht : P.underlying t = some (.slice e)) (he : P.underlying e = some (.struct #[f0, f1, f2])) (hone : oneCellFields P #[f0, f1, f2] = true) (hC : P.cellsOf e = 3)
    (k0 : P.underlying f0.type = some (.int .i64)) (k1 : P.underlying f1.type = some (.int .i64)) (k2 : P.underlying f2.type = some (.slice el)) (hel : P.underlying el = some (.int .u8)) (hcl : P.cellsOf el = 1) (h : DataW.trod enc P W 0 spare true fuel t [v] = some x) :
    ∃ (sv : SV) (l : List ActA), v = sv.v ∧ (roSl sv (rowC actC l) 3).q (heapP W) ∧ (actsB l).q (heapP W) := by
  rcases open_slice ht h with ⟨h1, _⟩ | ⟨a, len, cap, m, n, D, Pl, h1, _, hlc, _, hm, _, hx⟩
  · obtain rfl : v = .slice none 0 0 := by simpa using h1
    exact ⟨nilSV, [], rfl, ⟨(0, 0, [], 0, (0, 0)), ⟨rfl, Nat.le_refl _, .inl rfl⟩, fun y hy => by cases hy⟩, fun p hp => by cases hp⟩
  · obtain rfl : v = .slice (some a) len cap := by simpa using h1
    have hlm : len ≤ m := by rw [hm]; split <;> omega
    obtain ⟨o0, c0⟩ := hone_of hone 0 f0 rfl
    obtain ⟨o1, c1⟩ := hone_of hone 1 f1 rfl
    obtain ⟨o2, c2⟩ := hone_of hone 2 f2 rfl
    rw [hC] at hx
    haveI : Inhabited ActA := ⟨⟨0, 0, nilSV, []⟩⟩
    obtain ⟨V, hV⟩ := choose_lt (α := ActA) (n := len) (p := fun i b => (∀ j, j < 3 → W.cell? ((a.add (i * 3)).add j) = (actC b)[j]?) ∧ (bsl b.sv b.bs).q (heapP W)) (fun i hi => by
      obtain ⟨cs, h2, h3⟩ := hx i (by omega)
      obtain ⟨_, hlen, hcell⟩ := World.cells?_some h2
      obtain ⟨y0, y1, y2, n', _, _, r0, r1, r2⟩ := trod_struct3 he h3
      match cs, hlen with
      | [u0, u1, u2], _ =>
        rw [o0, c0] at r0
        rw [o1, c1] at r1
        rw [o2, c2] at r2
        obtain ⟨z0, e0, _, _⟩ := DataW.trod_int k0 r0
        obtain ⟨z1, e1, _, _⟩ := DataW.trod_int k1 r1
        obtain ⟨sv, bs, e2, hb⟩ := read_bytes k2 hel hcl r2
        obtain rfl : u0 = .int .i64 z0 := by simpa using e0
        obtain rfl : u1 = .int .i64 z1 := by simpa using e1
        subst e2
        exact ⟨⟨z0, z1, sv, bs⟩, hcell, hb⟩)
    refine ⟨⟨some a, len, cap⟩, (List.range len).map V, rfl, roSl_read ?_ (by decide) hlc fun j hj => ?_, fun p hp => ?_⟩
    · rw [rowC_len actC_len, List.length_map, List.length_range]
    · have hi : j / 3 < len := by omega
      have hr : j % 3 < 3 := Nat.mod_lt _ (by decide)
      have hg : ((List.range len).map V)[j / 3]? = some (V (j / 3)) := by simp [hi]
      have := rowC_cell actC_len hg hr
      rw [Nat.zero_add, show j / 3 * 3 + j % 3 = j from by omega] at this
      rw [this, ← (hV _ hi).1 _ hr, add_add3, show j / 3 * 3 + j % 3 = j from by omega]
    · obtain ⟨b, hb, rfl⟩ := List.mem_map.1 hp
      obtain ⟨i, hi, rfl⟩ := List.mem_map.1 hb
      exact (hV i (List.mem_range.1 hi)).2
end

/-- What stays, behind a call. -/
theorem sat_same {W W' : World} {L : List HP} (h : Sat (glOf W) W' (pe (same W) :: L)) : W'.os = W.os ∧ W'.output = W.output ∧ ∀ (b : Nat) o, W.heap[b]? = some o → W'.heap[b]? = some o := by
  obtain ⟨r, hr, hsub⟩ := h.pe_get
  obtain ⟨_, _, H, _⟩ := h
  exact ⟨H.os, H.out, fun b o hb => hsub b o (hr b o hb)⟩
theorem kept_of {W W' : World} {may : MemPlace → Prop} (h1 : W'.os = W.os) (h2 : W'.output = W.output) (h3 : ∀ (b : Nat) o, W.heap[b]? = some o → W'.heap[b]? = some o) : W.keptBut W' may := by
  refine ⟨h1, h2, fun i hi => ?_⟩
  have hg : W.heap[i]? = some W.heap[i] := Array.getElem?_eq_getElem hi
  rw [h3 i _ hg, hg]
  generalize W.heap[i] = o
  cases o with
  | cells c t fr => exact ⟨rfl, rfl, rfl, fun _ _ => rfl⟩
  | map es clock => exact .inr ⟨rfl, rfl⟩
  | _ => rfl
theorem sameAt_of {W W' : World} (h3 : ∀ (b : Nat) o, W.heap[b]? = some o → W'.heap[b]? = some o) {p : MemPlace} (hp : p.block < W.heap.size) : W.sameAt W' p := by
  have hg : W.heap[p.block]? = some W.heap[p.block] := Array.getElem?_eq_getElem hp
  have hg' := h3 _ _ hg
  cases p with
  | cell b off =>
    show W'.cell? ⟨b, off, none⟩ = W.cell? ⟨b, off, none⟩
    unfold World.cell?
    have e : W'.heap[b]? = W.heap[b]? := hg'.trans hg.symm
    dsimp only
    rw [e]
  | map b => exact hg'.trans hg.symm

end Go.Proofs.YtealmijbkebipaaGreatDoor
