/- Law 13: did, printed by gen_do2.py. -/
import Derived.Test.YtealmijbkebipaaGreatDoorSwAY
namespace Go.Proofs.YtealmijbkebipaaGreatDoor
open Go
attribute [local irreducible] own pe nf

theorem tyP_82 : pairB Tryz.prog 82 = true := by kernel_rfl
structure DidX where
  r : RefS
  X : RefX
  f : Nat
  S : StA
  st : DevA
theorem s_sgraffitolaw13_did {c s d : Nat} {S : StA} {st : DevA} {r : RefS} {X : RefX} {a : ActA} (hI : Inv c S st r) (hc : c ≤ 60000) (hacts : st.acts + 5000 < 1099511627776) (hbs : a.bs.length ≤ 80) :
    FnSpec Tryz.prog 12 #[.pointer (some ⟨s, 0, none⟩), refSV r X, actV a] [StH s d smallP S, DevH d st, pe (refP r X), pe (bsl a.sv a.bs)]
    (fun y : DidX => .tuple #[refSV y.r y.X, .int .i64 y.f, .bool true]) (fun y => DidR c (kindOf a.kind) S st r y.S y.st y.r y.f) (fun y R => StH s d smallP y.S :: DevH d y.st :: pe (refP y.r y.X) :: R) := by
  refine fn_spec Tryz.func12 rfl rfl rfl rfl fun G R => ?_
  dsimp only [List.append_eq, List.cons_append, List.nil_append]
  refine wk_ent (ent_refOut (by repeat constructor)) ?_
  refine wk_ro (x := X.xl) (cells := rowC pgC r.live) (size := 3) (by repeat constructor) fun hl => ?_
  have hln : X.xl.n = r.live.length := by have := hl.1; rw [rowC_len pgC_len] at this; omega
  refine wk_ro (x := a.sv) (cells := u8s a.bs) (size := 1) (by repeat constructor) fun ha => ?_
  have han : a.sv.n = a.bs.length := by have := ha.1; simpa using this.symm
  have hD : DevB st := ⟨by rw [hI.m.size]; decide, by rw [hI.m.size]; decide, by omega⟩
  have hB := hI.refB (by omega)
  have hlive := hB.live
  have hgen := hI.gen
  have hg2 := hI.g2
  have t1 := Int.lt_tmod_of_pos a.kind (b := 9) (by omega)
  have t2 := Int.tmod_lt_of_pos a.kind (b := 9) (by omega)
  obtain ⟨kb0, kb1⟩ := kindOf_ok a.kind
  have hkind : (a.kind.tmod 9 + 9).tmod 9 = kindOf a.kind := rfl
  obtain ⟨m, hm⟩ : ∃ m : Nat, IntKind.u64.wrap a.n = (m : Int) := ⟨(IntKind.u64.wrap a.n).toNat, by rw [wrap_u64]; omega⟩
  refine wk_seq ?_
  refine wk_region ?_
  refine wo_w (w_boxA rfl fun b1 => ?_)
  refine wo_w (w_boxA rfl fun b2 => ?_)
  refine wo_w (w_allocA tyZ_43 fun b3 => ?_)
  refine wo_v (v_assign rfl) ?_
  refine wo_v (v_assign rfl) ?_
  refine wo_nil ?_
  refine wk_seq ?_
  refine wk_region ?_
  refine wo_v (v_fieldAddr tyF_47_0 rfl) ?_
  refine wo_v (v_load tyS_3 rfl rfl) ?_
  refine wo_v (v_tremI rfl rfl) ?_
  refine wo_v (v_addI rfl rfl) ?_
  refine wo_v (v_tremI rfl rfl) ?_
  rw [hkind]
  refine wo_v (v_assign rfl) ?_
  refine wo_nil ?_
  refine wk_seq ?_
  refine wk_region ?_
  refine wo_v (v_assign rfl) ?_
  refine wo_nil ?_
  refine wk_seq ?_
  refine wk_seq ?_
  refine wk_region ?_
  refine wo_v (v_fieldAddr tyF_43_2 rfl) ?_
  refine wo_v (v_load tyS_41 rfl rfl) ?_
  refine wo_v (v_len tyU_41 rfl) ?_
  refine wo_v (v_gtr rfl rfl) ?_
  refine wo_nil ?_
  refine wk_if rfl (fun hlen => ?_) (fun hlen => ?_)
  · refine wk_region ?_
    refine wo_v (v_fieldAddr tyF_47_1 rfl) ?_
    refine wo_v (v_load tyS_3 rfl rfl) ?_
    refine wo_v (v_conv tyU_33 tyU_3 rfl) ?_
    rw [hm]
    refine wo_v (v_fieldAddr tyF_43_2 rfl) ?_
    refine wo_v (v_load tyS_41 rfl rfl) ?_
    refine wo_v (v_len tyU_41 rfl) ?_
    refine wo_v (v_convN tyU_33 tyU_3 rfl (wrapN_u64 (by omega))) ?_
    refine wo_v (v_remU rfl rfl) ?_
    obtain ⟨i, hi1, hil⟩ : ∃ i : Nat, ((m : Int) % (X.xl.n : Int)) = (i : Int) ∧ i < r.live.length := ⟨m % X.xl.n, by omega, by have := Nat.mod_lt m (show 0 < X.xl.n by omega); omega⟩
    rw [hi1]
    refine wo_v (v_convI tyU_3 tyU_33 rfl) ?_
    refine wo_v (v_assign rfl) ?_
    refine wo_nil ?_
    have hg : r.live[i]? = some r.live[i] := List.getElem?_eq_getElem hil
    generalize r.live[i] = p at hg
    have hpl : p ∈ r.live := List.mem_of_getElem? hg
    refine wk_block' (x := X.xl) (cells := rowC pgC r.live) (size := 3) (by repeat constructor) (by omega) fun b9 o9 vs9 T9 fz9 ha9 hv9 hle9 => ?_
    refine wk_seq ?_
    refine wk_seq ?_
    refine wk_region ?_
    refine wo_v (v_move rfl) ?_
    refine wo_v (v_leq rfl rfl) ?_
    refine wo_v (v_move rfl) ?_
    refine wo_if (t := 54) rfl (fun hk4 => ?_) (fun hk4 => ?_)
    · refine wo_gv (v_fieldAddr tyF_47_2 rfl) ?_
      refine wo_gv (v_load tyS_45 rfl rfl) ?_
      refine wo_gv (v_len tyU_45 rfl) ?_
      refine wo_gv (v_gtr rfl rfl) ?_
      refine wo_v (v_pickT rfl rfl) ?_
      refine wo_nil ?_
      refine wk_if rfl (fun h77 => ?_) (fun h77 => ?_)
      · refine wk_seq ?_
        refine wk_region ?_
        refine wo_v (v_move rfl) ?_
        refine wo_v (v_fieldAddr tyF_47_2 rfl) ?_
        refine wo_v (v_load tyS_45 rfl rfl) ?_
        refine wo_w (w_call (s_store_Store_New (p := smallP) (S := S) (st := st) (load := a.bs) hD (by omega)) rfl (by repeat constructor) ?_)
        rintro ⟨q, e, S1, st1⟩ hN
        dsimp only at hN ⊢
        refine wo_v (v_move rfl) ?_
        refine wo_v (v_extract rfl rfl) ?_
        refine wo_v (v_extract rfl rfl) ?_
        refine wo_w (w_allocA tyZ_82 fun b4 => ?_)
        refine wo_w0 (w_storeN tyN_82 rfl rfl rfl rfl (by repeat constructor) (by repeat constructor) ?_)
        refine wo_v (v_assign rfl) ?_
        refine wo_nil ?_
        refine wk_seq ?_
        refine wk_region ?_
        refine wo_v (v_loadN tyA_43 rfl (by repeat constructor) (by repeat constructor)) ?_
        refine wo_v (v_move rfl) ?_
        refine wo_v (v_eql rfl rfl) ?_
        refine wo_w0 (w_storeN tyN_43 rfl rfl rfl rfl (by repeat constructor) (by repeat constructor) ?_)
        refine wo_v (v_assign rfl) ?_
        refine wo_v (v_assign rfl) ?_
        refine wo_nil ?_
        refine wk_ret Tryz.func12 rfl rfl (res_cellA tyA_43 rfl (by repeat constructor) rfl (res_tmp rfl (res_tmp rfl res_nil))) fun W h => ?_
        obtain ⟨rfl, rfl, rfl⟩ := new_long hI (by omega) hN
        exact ⟨⟨r, X, 0, S1, st1⟩, rfl, DidR.same hI (by omega), Ent.sat (by refine ent_take ?_; refine ent_take ?_; refine ent_take ?_; exact ent_tail) h⟩
      · refine wk_skip ?_
        refine wk_seq ?_
        refine wk_seq ?_
        refine wk_region ?_
        refine wo_v (v_move rfl) ?_
        refine wo_nil ?_
        refine wk_block ?_
        refine wk_seq ?_
        refine wk_seq ?_
        refine wk_region ?_
        refine wo_v (v_eql rfl rfl) ?_
        refine wo_v (v_assign rfl) ?_
        refine wo_nil ?_
        refine wk_if rfl (fun hk3 => ?_) (fun hk3 => ?_)
        · refine wk_skip ?_
          refine wk_if rfl (fun hq3 => ?_) (fun hq3 => ?_)
          · refine wk_seq ?_
            refine wk_region ?_
            refine wo_v (v_loadN tyA_43 rfl (by repeat constructor) (by repeat constructor)) ?_
            refine wo_v (v_move rfl) ?_
            refine wo_v (v_fieldAddr tyF_47_2 rfl) ?_
            refine wo_v (v_load tyS_45 rfl rfl) ?_
            refine wo_v (v_str tyU_45 tyU_5 tyU_9 rfl (src_ro (x := a.sv))) ?_
            refine wo_w (w_call (s_sgraffitoref13_Write (r := r) (X := X) (i := i) (p := p) (load := a.bs) hB hg (fun r1 q hm => ⟨(make_refB hI hc hm).1, p, (make_refB hI hc hm).2 i p hg⟩)) rfl (by repeat constructor) ?_)
            rintro ⟨r1, X1, q, ok⟩ hM
            dsimp only at hM ⊢
            refine wo_v (v_move rfl) ?_
            refine wo_v (v_extract rfl rfl) ?_
            refine wo_v (v_extract rfl rfl) ?_
            refine wo_v (v_extract rfl rfl) ?_
            refine wo_w (w_allocA tyZ_43 fun bn => ?_)
            refine wo_w (w_allocA tyZ_86 fun bq => ?_)
            refine wo_w0 (w_storeN tyN_43 rfl rfl rfl rfl (by repeat constructor) (by repeat constructor) ?_)
            refine wo_w0 (w_storeN tyN_86 rfl rfl rfl rfl (by repeat constructor) (by repeat constructor) ?_)
            refine wo_v (v_assign rfl) ?_
            refine wo_nil ?_
            refine wk_seq ?_
            refine wk_draw (n := 16) (pend := 65535) ⟨9, fun w => Sat G w [blk b2 (actC a) 47]⟩ mixed (by kernel_rfl) rfl (fun w s_ => Ent.sat (by refine ent_take ?_; exact ent_nil) s_) rfl ?_
            refine wd_x 1 rfl (v_fieldAddr tyF_43_2 rfl) ?_
            refine wd_x 2 rfl (v_load tyS_41 rfl rfl) ?_
            refine wd_x 3 rfl (v_move rfl) ?_
            refine wd_x 4 rfl (v_indexAddrS tyU_41 tyN_86 rfl rfl ha9 (by omega)) ?_
            refine wd_x 5 rfl (v_loadA tyA_86 rfl (ro_rowA pgC_len hv9 hg) rfl) ?_
            refine wd_p 0 rfl (v_move rfl) ?_
            refine wd_p 7 rfl (v_fieldAddr tyF_47_2 rfl) ?_
            refine wd_fr 8 rfl (fun w h => h) (v_load tyS_45 rfl rfl) ?_
            refine wd_alt [6, 13] (by kernel_rfl) ⟨6, by simp, by kernel_rfl⟩ ?_
            intro i hi
            simp only [List.mem_cons, List.not_mem_nil, or_false] at hi
            rcases hi with rfl | rfl
            · refine alt_l rfl (w_call (s_sgraffitolaw13_ref (p := p)) rfl (by repeat constructor) ?_)
              rintro ⟨⟩ -
              refine ⟨fun w s_ _ => Ent.sat (by refine ent_take ?_; exact ent_nil) s_, ?_⟩
              refine wd_alt [9, 13] (by kernel_rfl) ⟨9, by simp, by kernel_rfl⟩ ?_
              intro i hi
              simp only [List.mem_cons, List.not_mem_nil, or_false] at hi
              rcases hi with rfl | rfl
              · refine alt_l rfl (w_call (s_store_Store_Write (p := smallP) (S := S) (st := st) (r := ⟨p.page, p.stamp⟩) (load := a.bs) hD (by omega)) rfl (by repeat constructor) ?_)
                rintro ⟨u, e, S1, st1⟩ hN
                refine ⟨fun w s_ => Wat.gone (by decide), ?_⟩
                dsimp only at hN ⊢
                refine wd_x 10 rfl (v_move rfl) ?_
                refine wd_x 11 rfl (v_extract rfl rfl) ?_
                refine wd_p 12 rfl (v_extract rfl rfl) ?_
                refine wd_l 13 rfl (w_allocA tyZ_82 fun bw => ?_)
                refine ⟨fun w s_ => Wat.gone (by decide), ?_⟩
                refine wd_l0 14 rfl (w_storeN tyN_82 rfl rfl rfl rfl (by repeat constructor) (by repeat constructor) ?_)
                refine ⟨fun w s_ => Wat.gone (by decide), ?_⟩
                refine wd_a 15 rfl (v_assign rfl) ?_
                refine wd_done ?_
                refine wk_seq ?_
                refine wk_seq ?_
                refine wk_region ?_
                refine wo_v (v_move rfl) ?_
                refine wo_v (v_not rfl) ?_
                refine wo_nil ?_
                refine wk_if rfl (fun hok => ?_) (fun hok => ?_)
                · refine wk_seq ?_
                  refine wk_region ?_
                  refine wo_v (v_loadN tyA_43 rfl (by repeat constructor) (by repeat constructor)) ?_
                  refine wo_v (v_move rfl) ?_
                  refine wo_v (v_eql rfl rfl) ?_
                  refine wo_w0 (w_storeN tyN_43 rfl rfl rfl rfl (by repeat constructor) (by repeat constructor) ?_)
                  refine wo_v (v_assign rfl) ?_
                  refine wo_v (v_assign rfl) ?_
                  refine wo_nil ?_
                  refine wk_ret Tryz.func12 rfl rfl (res_cellA tyA_43 rfl (by repeat constructor) rfl (res_tmp rfl (res_tmp rfl res_nil))) fun W h => ?_
                  subst hok
                  obtain ⟨rfl, rfl, rfl⟩ := did_write0 hI hg (by omega) hN hM
                  exact ⟨⟨r, X, 0, S1, st1⟩, rfl, DidR.same hI (by omega), Ent.sat (by refine ent_take ?_; refine ent_take ?_; refine ent_take ?_; exact ent_tail) h⟩
                · subst hok
                  obtain ⟨hor, hres⟩ := did_write (k := kindOf a.kind) hI hg (by omega) (by omega) hN hM
                  have he : e = 4 ∨ e = 0 := hor.imp id And.left
                  refine wk_skip ?_
                  refine wk_seq ?_
                  refine wk_draw (n := 17) (pend := 131071) ⟨16, fun w => Sat G w [blk bn (refC r1 X1) 43, blk bw [.int .i64 u.page, .int .i64 u.stamp] 82, blk bq (pgC q) 86]⟩ mixed (by kernel_rfl) rfl (fun w s_ => Ent.sat (by refine ent_take ?_; refine ent_take ?_; refine ent_take ?_; exact ent_nil) s_) rfl ?_
                  refine wd_a 2 rfl (v_move rfl) ?_
                  refine wd_a 3 rfl (v_eql rfl rfl) ?_
                  refine wd_a 4 rfl (v_move rfl) ?_
                  refine wd_if (t := 106) rfl (fun he4 => ?_) (fun he4 => ?_)
                  · refine wd_gF 5 rfl rfl rfl rfl ?_
                    refine wd_gF 6 rfl rfl rfl rfl ?_
                    refine wd_gF 7 rfl rfl rfl rfl ?_
                    refine wd_gU 8 rfl rfl rfl ?_
                    refine wd_gU 9 rfl rfl rfl ?_
                    refine wd_p 1 rfl (v_move rfl) ?_
                    refine wd_fr 0 rfl (fun w h => h) (v_loadN tyA_43 rfl (by repeat constructor) (by repeat constructor)) ?_
                    refine wd_lgU 10 rfl rfl rfl ?_
                    refine wd_gU 11 rfl rfl rfl ?_
                    refine wd_gF 12 rfl rfl rfl rfl ?_
                    refine wd_p 13 rfl (v_pickT rfl rfl) ?_
                    refine wd_l0 14 rfl (w_storeN tyN_43 rfl rfl rfl rfl (by repeat constructor) (by repeat constructor) ?_)
                    refine ⟨fun w s_ _ => Ent.sat (by refine ent_take ?_; refine ent_take ?_; refine ent_take ?_; exact ent_nil) s_, ?_⟩
                    refine wd_a 15 rfl (v_assign rfl) ?_
                    refine wd_al 16 rfl (v_assign rfl) ?_
                    refine wd_done ?_
                    refine wk_ret Tryz.func12 rfl rfl (res_cellA tyA_43 rfl (by repeat constructor) rfl (res_tmp rfl (res_tmp rfl res_nil))) fun W h => ?_
                    exact ⟨⟨r1, X1, e, S1, st1⟩, rfl, hres, Ent.sat (by refine ent_take ?_; refine ent_take ?_; refine ent_take ?_; exact ent_tail) h⟩
                  · refine wd_ag 5 rfl rfl rfl (v_move rfl) ?_
                    refine wd_ag 6 rfl rfl rfl (v_eql rfl rfl) ?_
                    refine wd_ag 7 rfl rfl rfl (v_move rfl) ?_
                    refine wd_if (t := 109) rfl (fun he0 => ?_) (fun he0 => ?_)
                    · refine wd_ag 9 rfl rfl rfl (v_loadN tyA_86 rfl (by repeat constructor) (by repeat constructor)) ?_
                      refine wd_p 1 rfl (v_move rfl) ?_
                      refine wd_fr 0 rfl (fun w h => h) (v_loadN tyA_43 rfl (by repeat constructor) (by repeat constructor)) ?_
                      refine wd_frg 8 rfl rfl rfl (fun w h => h) (v_loadN tyA_82 rfl (by repeat constructor) (by repeat constructor)) ?_
                      refine wd_lg 10 rfl rfl rfl (w_call (s_sgraffitolaw13_ref (p := q)) rfl (by repeat constructor) ?_)
                      rintro ⟨⟩ -
                      refine ⟨fun w s_ _ => Ent.sat (by refine ent_take ?_; refine ent_take ?_; refine ent_take ?_; exact ent_nil) s_, ?_⟩
                      refine wd_pg 11 rfl rfl rfl (v_eqPair tyP_82 rfl rfl) ?_
                      refine wd_pg 12 rfl rfl rfl (v_pickT rfl rfl) ?_
                      refine wd_p 13 rfl (v_pickF rfl rfl) ?_
                      refine wd_l0 14 rfl (w_storeN tyN_43 rfl rfl rfl rfl (by repeat constructor) (by repeat constructor) ?_)
                      refine ⟨fun w s_ _ => Ent.sat (by refine ent_take ?_; refine ent_take ?_; refine ent_take ?_; exact ent_nil) s_, ?_⟩
                      refine wd_a 15 rfl (v_assign rfl) ?_
                      refine wd_al 16 rfl (v_assign rfl) ?_
                      refine wd_done ?_
                      refine wk_ret Tryz.func12 rfl rfl (res_cellA tyA_43 rfl (by repeat constructor) rfl (res_tmp rfl (res_tmp rfl res_nil))) fun W h => ?_
                      obtain rfl : u = ⟨q.page, q.stamp⟩ := (hor.resolve_left (by omega)).2
                      refine ⟨⟨r1, X1, e, S1, st1⟩, ?_, hres, Ent.sat (by refine ent_take ?_; refine ent_take ?_; refine ent_take ?_; exact ent_tail) h⟩
                      simp <;> rfl
                    · exact absurd (show (e : Int) = 0 by omega) he0
              · refine alt_l rfl (w_allocA tyZ_82 fun bw => ?_)
                refine ⟨fun w s_ _ => Ent.sat (by refine ent_take ?_; exact ent_nil) s_, ?_⟩
                refine wd_l 9 rfl (w_call (s_store_Store_Write (p := smallP) (S := S) (st := st) (r := ⟨p.page, p.stamp⟩) (load := a.bs) hD (by omega)) rfl (by repeat constructor) ?_)
                rintro ⟨u, e, S1, st1⟩ hN
                refine ⟨fun w s_ => Wat.gone (by decide), ?_⟩
                dsimp only at hN ⊢
                refine wd_a 10 rfl (v_move rfl) ?_
                refine wd_a 11 rfl (v_extract rfl rfl) ?_
                refine wd_p 12 rfl (v_extract rfl rfl) ?_
                refine wd_l0 14 rfl (w_storeN tyN_82 rfl rfl rfl rfl (by repeat constructor) (by repeat constructor) ?_)
                refine ⟨fun w s_ => Wat.gone (by decide), ?_⟩
                refine wd_a 15 rfl (v_assign rfl) ?_
                refine wd_done ?_
                refine wk_seq ?_
                refine wk_seq ?_
                refine wk_region ?_
                refine wo_v (v_move rfl) ?_
                refine wo_v (v_not rfl) ?_
                refine wo_nil ?_
                refine wk_if rfl (fun hok => ?_) (fun hok => ?_)
                · refine wk_seq ?_
                  refine wk_region ?_
                  refine wo_v (v_loadN tyA_43 rfl (by repeat constructor) (by repeat constructor)) ?_
                  refine wo_v (v_move rfl) ?_
                  refine wo_v (v_eql rfl rfl) ?_
                  refine wo_w0 (w_storeN tyN_43 rfl rfl rfl rfl (by repeat constructor) (by repeat constructor) ?_)
                  refine wo_v (v_assign rfl) ?_
                  refine wo_v (v_assign rfl) ?_
                  refine wo_nil ?_
                  refine wk_ret Tryz.func12 rfl rfl (res_cellA tyA_43 rfl (by repeat constructor) rfl (res_tmp rfl (res_tmp rfl res_nil))) fun W h => ?_
                  subst hok
                  obtain ⟨rfl, rfl, rfl⟩ := did_write0 hI hg (by omega) hN hM
                  exact ⟨⟨r, X, 0, S1, st1⟩, rfl, DidR.same hI (by omega), Ent.sat (by refine ent_take ?_; refine ent_take ?_; refine ent_take ?_; exact ent_tail) h⟩
                · subst hok
                  obtain ⟨hor, hres⟩ := did_write (k := kindOf a.kind) hI hg (by omega) (by omega) hN hM
                  have he : e = 4 ∨ e = 0 := hor.imp id And.left
                  refine wk_skip ?_
                  refine wk_seq ?_
                  refine wk_draw (n := 17) (pend := 131071) ⟨16, fun w => Sat G w [blk bn (refC r1 X1) 43, blk bw [.int .i64 u.page, .int .i64 u.stamp] 82, blk bq (pgC q) 86]⟩ mixed (by kernel_rfl) rfl (fun w s_ => Ent.sat (by refine ent_take ?_; refine ent_take ?_; refine ent_take ?_; exact ent_nil) s_) rfl ?_
                  refine wd_a 2 rfl (v_move rfl) ?_
                  refine wd_a 3 rfl (v_eql rfl rfl) ?_
                  refine wd_a 4 rfl (v_move rfl) ?_
                  refine wd_if (t := 106) rfl (fun he4 => ?_) (fun he4 => ?_)
                  · refine wd_gF 5 rfl rfl rfl rfl ?_
                    refine wd_gF 6 rfl rfl rfl rfl ?_
                    refine wd_gF 7 rfl rfl rfl rfl ?_
                    refine wd_gU 8 rfl rfl rfl ?_
                    refine wd_gU 9 rfl rfl rfl ?_
                    refine wd_p 1 rfl (v_move rfl) ?_
                    refine wd_fr 0 rfl (fun w h => h) (v_loadN tyA_43 rfl (by repeat constructor) (by repeat constructor)) ?_
                    refine wd_lgU 10 rfl rfl rfl ?_
                    refine wd_gU 11 rfl rfl rfl ?_
                    refine wd_gF 12 rfl rfl rfl rfl ?_
                    refine wd_p 13 rfl (v_pickT rfl rfl) ?_
                    refine wd_l0 14 rfl (w_storeN tyN_43 rfl rfl rfl rfl (by repeat constructor) (by repeat constructor) ?_)
                    refine ⟨fun w s_ _ => Ent.sat (by refine ent_take ?_; refine ent_take ?_; refine ent_take ?_; exact ent_nil) s_, ?_⟩
                    refine wd_a 15 rfl (v_assign rfl) ?_
                    refine wd_al 16 rfl (v_assign rfl) ?_
                    refine wd_done ?_
                    refine wk_ret Tryz.func12 rfl rfl (res_cellA tyA_43 rfl (by repeat constructor) rfl (res_tmp rfl (res_tmp rfl res_nil))) fun W h => ?_
                    exact ⟨⟨r1, X1, e, S1, st1⟩, rfl, hres, Ent.sat (by refine ent_take ?_; refine ent_take ?_; refine ent_take ?_; exact ent_tail) h⟩
                  · refine wd_ag 5 rfl rfl rfl (v_move rfl) ?_
                    refine wd_ag 6 rfl rfl rfl (v_eql rfl rfl) ?_
                    refine wd_ag 7 rfl rfl rfl (v_move rfl) ?_
                    refine wd_if (t := 109) rfl (fun he0 => ?_) (fun he0 => ?_)
                    · refine wd_ag 9 rfl rfl rfl (v_loadN tyA_86 rfl (by repeat constructor) (by repeat constructor)) ?_
                      refine wd_p 1 rfl (v_move rfl) ?_
                      refine wd_fr 0 rfl (fun w h => h) (v_loadN tyA_43 rfl (by repeat constructor) (by repeat constructor)) ?_
                      refine wd_frg 8 rfl rfl rfl (fun w h => h) (v_loadN tyA_82 rfl (by repeat constructor) (by repeat constructor)) ?_
                      refine wd_lg 10 rfl rfl rfl (w_call (s_sgraffitolaw13_ref (p := q)) rfl (by repeat constructor) ?_)
                      rintro ⟨⟩ -
                      refine ⟨fun w s_ _ => Ent.sat (by refine ent_take ?_; refine ent_take ?_; refine ent_take ?_; exact ent_nil) s_, ?_⟩
                      refine wd_pg 11 rfl rfl rfl (v_eqPair tyP_82 rfl rfl) ?_
                      refine wd_pg 12 rfl rfl rfl (v_pickT rfl rfl) ?_
                      refine wd_p 13 rfl (v_pickF rfl rfl) ?_
                      refine wd_l0 14 rfl (w_storeN tyN_43 rfl rfl rfl rfl (by repeat constructor) (by repeat constructor) ?_)
                      refine ⟨fun w s_ _ => Ent.sat (by refine ent_take ?_; refine ent_take ?_; refine ent_take ?_; exact ent_nil) s_, ?_⟩
                      refine wd_a 15 rfl (v_assign rfl) ?_
                      refine wd_al 16 rfl (v_assign rfl) ?_
                      refine wd_done ?_
                      refine wk_ret Tryz.func12 rfl rfl (res_cellA tyA_43 rfl (by repeat constructor) rfl (res_tmp rfl (res_tmp rfl res_nil))) fun W h => ?_
                      obtain rfl : u = ⟨q.page, q.stamp⟩ := (hor.resolve_left (by omega)).2
                      refine ⟨⟨r1, X1, e, S1, st1⟩, ?_, hres, Ent.sat (by refine ent_take ?_; refine ent_take ?_; refine ent_take ?_; exact ent_tail) h⟩
                      simp <;> rfl
                    · exact absurd (show (e : Int) = 0 by omega) he0
            · refine alt_l rfl (w_allocA tyZ_82 fun bw => ?_)
              refine ⟨fun w s_ _ => Ent.sat (by refine ent_take ?_; exact ent_nil) s_, ?_⟩
              refine wd_l 6 rfl (w_call (s_sgraffitolaw13_ref (p := p)) rfl (by repeat constructor) ?_)
              rintro ⟨⟩ -
              refine ⟨fun w s_ _ => Ent.sat (by refine ent_take ?_; exact ent_nil) s_, ?_⟩
              refine wd_l 9 rfl (w_call (s_store_Store_Write (p := smallP) (S := S) (st := st) (r := ⟨p.page, p.stamp⟩) (load := a.bs) hD (by omega)) rfl (by repeat constructor) ?_)
              rintro ⟨u, e, S1, st1⟩ hN
              refine ⟨fun w s_ => Wat.gone (by decide), ?_⟩
              dsimp only at hN ⊢
              refine wd_a 10 rfl (v_move rfl) ?_
              refine wd_a 11 rfl (v_extract rfl rfl) ?_
              refine wd_p 12 rfl (v_extract rfl rfl) ?_
              refine wd_l0 14 rfl (w_storeN tyN_82 rfl rfl rfl rfl (by repeat constructor) (by repeat constructor) ?_)
              refine ⟨fun w s_ => Wat.gone (by decide), ?_⟩
              refine wd_a 15 rfl (v_assign rfl) ?_
              refine wd_done ?_
              refine wk_seq ?_
              refine wk_seq ?_
              refine wk_region ?_
              refine wo_v (v_move rfl) ?_
              refine wo_v (v_not rfl) ?_
              refine wo_nil ?_
              refine wk_if rfl (fun hok => ?_) (fun hok => ?_)
              · refine wk_seq ?_
                refine wk_region ?_
                refine wo_v (v_loadN tyA_43 rfl (by repeat constructor) (by repeat constructor)) ?_
                refine wo_v (v_move rfl) ?_
                refine wo_v (v_eql rfl rfl) ?_
                refine wo_w0 (w_storeN tyN_43 rfl rfl rfl rfl (by repeat constructor) (by repeat constructor) ?_)
                refine wo_v (v_assign rfl) ?_
                refine wo_v (v_assign rfl) ?_
                refine wo_nil ?_
                refine wk_ret Tryz.func12 rfl rfl (res_cellA tyA_43 rfl (by repeat constructor) rfl (res_tmp rfl (res_tmp rfl res_nil))) fun W h => ?_
                subst hok
                obtain ⟨rfl, rfl, rfl⟩ := did_write0 hI hg (by omega) hN hM
                exact ⟨⟨r, X, 0, S1, st1⟩, rfl, DidR.same hI (by omega), Ent.sat (by refine ent_take ?_; refine ent_take ?_; refine ent_take ?_; exact ent_tail) h⟩
              · subst hok
                obtain ⟨hor, hres⟩ := did_write (k := kindOf a.kind) hI hg (by omega) (by omega) hN hM
                have he : e = 4 ∨ e = 0 := hor.imp id And.left
                refine wk_skip ?_
                refine wk_seq ?_
                refine wk_draw (n := 17) (pend := 131071) ⟨16, fun w => Sat G w [blk bn (refC r1 X1) 43, blk bw [.int .i64 u.page, .int .i64 u.stamp] 82, blk bq (pgC q) 86]⟩ mixed (by kernel_rfl) rfl (fun w s_ => Ent.sat (by refine ent_take ?_; refine ent_take ?_; refine ent_take ?_; exact ent_nil) s_) rfl ?_
                refine wd_a 2 rfl (v_move rfl) ?_
                refine wd_a 3 rfl (v_eql rfl rfl) ?_
                refine wd_a 4 rfl (v_move rfl) ?_
                refine wd_if (t := 106) rfl (fun he4 => ?_) (fun he4 => ?_)
                · refine wd_gF 5 rfl rfl rfl rfl ?_
                  refine wd_gF 6 rfl rfl rfl rfl ?_
                  refine wd_gF 7 rfl rfl rfl rfl ?_
                  refine wd_gU 8 rfl rfl rfl ?_
                  refine wd_gU 9 rfl rfl rfl ?_
                  refine wd_p 1 rfl (v_move rfl) ?_
                  refine wd_fr 0 rfl (fun w h => h) (v_loadN tyA_43 rfl (by repeat constructor) (by repeat constructor)) ?_
                  refine wd_lgU 10 rfl rfl rfl ?_
                  refine wd_gU 11 rfl rfl rfl ?_
                  refine wd_gF 12 rfl rfl rfl rfl ?_
                  refine wd_p 13 rfl (v_pickT rfl rfl) ?_
                  refine wd_l0 14 rfl (w_storeN tyN_43 rfl rfl rfl rfl (by repeat constructor) (by repeat constructor) ?_)
                  refine ⟨fun w s_ _ => Ent.sat (by refine ent_take ?_; refine ent_take ?_; refine ent_take ?_; exact ent_nil) s_, ?_⟩
                  refine wd_a 15 rfl (v_assign rfl) ?_
                  refine wd_al 16 rfl (v_assign rfl) ?_
                  refine wd_done ?_
                  refine wk_ret Tryz.func12 rfl rfl (res_cellA tyA_43 rfl (by repeat constructor) rfl (res_tmp rfl (res_tmp rfl res_nil))) fun W h => ?_
                  exact ⟨⟨r1, X1, e, S1, st1⟩, rfl, hres, Ent.sat (by refine ent_take ?_; refine ent_take ?_; refine ent_take ?_; exact ent_tail) h⟩
                · refine wd_ag 5 rfl rfl rfl (v_move rfl) ?_
                  refine wd_ag 6 rfl rfl rfl (v_eql rfl rfl) ?_
                  refine wd_ag 7 rfl rfl rfl (v_move rfl) ?_
                  refine wd_if (t := 109) rfl (fun he0 => ?_) (fun he0 => ?_)
                  · refine wd_ag 9 rfl rfl rfl (v_loadN tyA_86 rfl (by repeat constructor) (by repeat constructor)) ?_
                    refine wd_p 1 rfl (v_move rfl) ?_
                    refine wd_fr 0 rfl (fun w h => h) (v_loadN tyA_43 rfl (by repeat constructor) (by repeat constructor)) ?_
                    refine wd_frg 8 rfl rfl rfl (fun w h => h) (v_loadN tyA_82 rfl (by repeat constructor) (by repeat constructor)) ?_
                    refine wd_lg 10 rfl rfl rfl (w_call (s_sgraffitolaw13_ref (p := q)) rfl (by repeat constructor) ?_)
                    rintro ⟨⟩ -
                    refine ⟨fun w s_ _ => Ent.sat (by refine ent_take ?_; refine ent_take ?_; refine ent_take ?_; exact ent_nil) s_, ?_⟩
                    refine wd_pg 11 rfl rfl rfl (v_eqPair tyP_82 rfl rfl) ?_
                    refine wd_pg 12 rfl rfl rfl (v_pickT rfl rfl) ?_
                    refine wd_p 13 rfl (v_pickF rfl rfl) ?_
                    refine wd_l0 14 rfl (w_storeN tyN_43 rfl rfl rfl rfl (by repeat constructor) (by repeat constructor) ?_)
                    refine ⟨fun w s_ _ => Ent.sat (by refine ent_take ?_; refine ent_take ?_; refine ent_take ?_; exact ent_nil) s_, ?_⟩
                    refine wd_a 15 rfl (v_assign rfl) ?_
                    refine wd_al 16 rfl (v_assign rfl) ?_
                    refine wd_done ?_
                    refine wk_ret Tryz.func12 rfl rfl (res_cellA tyA_43 rfl (by repeat constructor) rfl (res_tmp rfl (res_tmp rfl res_nil))) fun W h => ?_
                    obtain rfl : u = ⟨q.page, q.stamp⟩ := (hor.resolve_left (by omega)).2
                    refine ⟨⟨r1, X1, e, S1, st1⟩, ?_, hres, Ent.sat (by refine ent_take ?_; refine ent_take ?_; refine ent_take ?_; exact ent_tail) h⟩
                    simp <;> rfl
                  · exact absurd (show (e : Int) = 0 by omega) he0
          · exact absurd hk3 hq3
        · refine wk_region ?_
          refine wo_v (v_eql rfl rfl) ?_
          refine wo_v (v_assign rfl) ?_
          refine wo_nil ?_
          refine wk_if rfl (fun hk4b => ?_) (fun hk4b => ?_)
          · refine wk_seq ?_
            refine wk_region ?_
            refine wo_v (v_loadN tyA_43 rfl (by repeat constructor) (by repeat constructor)) ?_
            refine wo_v (v_move rfl) ?_
            refine wo_v (v_fieldAddr tyF_47_2 rfl) ?_
            refine wo_v (v_load tyS_45 rfl rfl) ?_
            refine wo_v (v_str tyU_45 tyU_5 tyU_9 rfl (src_ro (x := a.sv))) ?_
            refine wo_w (w_call (s_sgraffitoref13_Write (r := r) (X := X) (i := i) (p := p) (load := a.bs) hB hg (fun r1 q hm => ⟨(make_refB hI hc hm).1, p, (make_refB hI hc hm).2 i p hg⟩)) rfl (by repeat constructor) ?_)
            rintro ⟨r1, X1, q, ok⟩ hM
            dsimp only at hM ⊢
            refine wo_v (v_move rfl) ?_
            refine wo_v (v_extract rfl rfl) ?_
            refine wo_v (v_extract rfl rfl) ?_
            refine wo_v (v_extract rfl rfl) ?_
            refine wo_w (w_allocA tyZ_43 fun bn => ?_)
            refine wo_w (w_allocA tyZ_86 fun bq => ?_)
            refine wo_w0 (w_storeN tyN_43 rfl rfl rfl rfl (by repeat constructor) (by repeat constructor) ?_)
            refine wo_w0 (w_storeN tyN_86 rfl rfl rfl rfl (by repeat constructor) (by repeat constructor) ?_)
            refine wo_v (v_assign rfl) ?_
            refine wo_nil ?_
            refine wk_seq ?_
            refine wk_draw (n := 16) (pend := 65535) ⟨9, fun w => Sat G w [blk b2 (actC a) 47]⟩ mixed (by kernel_rfl) rfl (fun w s_ => Ent.sat (by refine ent_take ?_; exact ent_nil) s_) rfl ?_
            refine wd_x 1 rfl (v_fieldAddr tyF_43_2 rfl) ?_
            refine wd_x 2 rfl (v_load tyS_41 rfl rfl) ?_
            refine wd_x 3 rfl (v_move rfl) ?_
            refine wd_x 4 rfl (v_indexAddrS tyU_41 tyN_86 rfl rfl ha9 (by omega)) ?_
            refine wd_x 5 rfl (v_loadA tyA_86 rfl (ro_rowA pgC_len hv9 hg) rfl) ?_
            refine wd_p 0 rfl (v_move rfl) ?_
            refine wd_p 7 rfl (v_fieldAddr tyF_47_2 rfl) ?_
            refine wd_fr 8 rfl (fun w h => h) (v_load tyS_45 rfl rfl) ?_
            refine wd_alt [6, 13] (by kernel_rfl) ⟨6, by simp, by kernel_rfl⟩ ?_
            intro i hi
            simp only [List.mem_cons, List.not_mem_nil, or_false] at hi
            rcases hi with rfl | rfl
            · refine alt_l rfl (w_call (s_sgraffitolaw13_ref (p := p)) rfl (by repeat constructor) ?_)
              rintro ⟨⟩ -
              refine ⟨fun w s_ _ => Ent.sat (by refine ent_take ?_; exact ent_nil) s_, ?_⟩
              refine wd_alt [9, 13] (by kernel_rfl) ⟨9, by simp, by kernel_rfl⟩ ?_
              intro i hi
              simp only [List.mem_cons, List.not_mem_nil, or_false] at hi
              rcases hi with rfl | rfl
              · refine alt_l rfl (w_call (s_store_Store_Write (p := smallP) (S := S) (st := st) (r := ⟨p.page, p.stamp⟩) (load := a.bs) hD (by omega)) rfl (by repeat constructor) ?_)
                rintro ⟨u, e, S1, st1⟩ hN
                refine ⟨fun w s_ => Wat.gone (by decide), ?_⟩
                dsimp only at hN ⊢
                refine wd_x 10 rfl (v_move rfl) ?_
                refine wd_x 11 rfl (v_extract rfl rfl) ?_
                refine wd_p 12 rfl (v_extract rfl rfl) ?_
                refine wd_l 13 rfl (w_allocA tyZ_82 fun bw => ?_)
                refine ⟨fun w s_ => Wat.gone (by decide), ?_⟩
                refine wd_l0 14 rfl (w_storeN tyN_82 rfl rfl rfl rfl (by repeat constructor) (by repeat constructor) ?_)
                refine ⟨fun w s_ => Wat.gone (by decide), ?_⟩
                refine wd_a 15 rfl (v_assign rfl) ?_
                refine wd_done ?_
                refine wk_seq ?_
                refine wk_seq ?_
                refine wk_region ?_
                refine wo_v (v_move rfl) ?_
                refine wo_v (v_not rfl) ?_
                refine wo_nil ?_
                refine wk_if rfl (fun hok => ?_) (fun hok => ?_)
                · refine wk_seq ?_
                  refine wk_region ?_
                  refine wo_v (v_loadN tyA_43 rfl (by repeat constructor) (by repeat constructor)) ?_
                  refine wo_v (v_move rfl) ?_
                  refine wo_v (v_eql rfl rfl) ?_
                  refine wo_w0 (w_storeN tyN_43 rfl rfl rfl rfl (by repeat constructor) (by repeat constructor) ?_)
                  refine wo_v (v_assign rfl) ?_
                  refine wo_v (v_assign rfl) ?_
                  refine wo_nil ?_
                  refine wk_ret Tryz.func12 rfl rfl (res_cellA tyA_43 rfl (by repeat constructor) rfl (res_tmp rfl (res_tmp rfl res_nil))) fun W h => ?_
                  subst hok
                  obtain ⟨rfl, rfl, rfl⟩ := did_write0 hI hg (by omega) hN hM
                  exact ⟨⟨r, X, 0, S1, st1⟩, rfl, DidR.same hI (by omega), Ent.sat (by refine ent_take ?_; refine ent_take ?_; refine ent_take ?_; exact ent_tail) h⟩
                · subst hok
                  obtain ⟨hor, hres⟩ := did_write (k := kindOf a.kind) hI hg (by omega) (by omega) hN hM
                  have he : e = 4 ∨ e = 0 := hor.imp id And.left
                  refine wk_skip ?_
                  refine wk_seq ?_
                  refine wk_draw (n := 17) (pend := 131071) ⟨16, fun w => Sat G w [blk bn (refC r1 X1) 43, blk bw [.int .i64 u.page, .int .i64 u.stamp] 82, blk bq (pgC q) 86]⟩ mixed (by kernel_rfl) rfl (fun w s_ => Ent.sat (by refine ent_take ?_; refine ent_take ?_; refine ent_take ?_; exact ent_nil) s_) rfl ?_
                  refine wd_a 2 rfl (v_move rfl) ?_
                  refine wd_a 3 rfl (v_eql rfl rfl) ?_
                  refine wd_a 4 rfl (v_move rfl) ?_
                  refine wd_if (t := 106) rfl (fun he4 => ?_) (fun he4 => ?_)
                  · refine wd_gF 5 rfl rfl rfl rfl ?_
                    refine wd_gF 6 rfl rfl rfl rfl ?_
                    refine wd_gF 7 rfl rfl rfl rfl ?_
                    refine wd_gU 8 rfl rfl rfl ?_
                    refine wd_gU 9 rfl rfl rfl ?_
                    refine wd_p 1 rfl (v_move rfl) ?_
                    refine wd_fr 0 rfl (fun w h => h) (v_loadN tyA_43 rfl (by repeat constructor) (by repeat constructor)) ?_
                    refine wd_lgU 10 rfl rfl rfl ?_
                    refine wd_gU 11 rfl rfl rfl ?_
                    refine wd_gF 12 rfl rfl rfl rfl ?_
                    refine wd_p 13 rfl (v_pickT rfl rfl) ?_
                    refine wd_l0 14 rfl (w_storeN tyN_43 rfl rfl rfl rfl (by repeat constructor) (by repeat constructor) ?_)
                    refine ⟨fun w s_ _ => Ent.sat (by refine ent_take ?_; refine ent_take ?_; refine ent_take ?_; exact ent_nil) s_, ?_⟩
                    refine wd_a 15 rfl (v_assign rfl) ?_
                    refine wd_al 16 rfl (v_assign rfl) ?_
                    refine wd_done ?_
                    refine wk_ret Tryz.func12 rfl rfl (res_cellA tyA_43 rfl (by repeat constructor) rfl (res_tmp rfl (res_tmp rfl res_nil))) fun W h => ?_
                    exact ⟨⟨r1, X1, e, S1, st1⟩, rfl, hres, Ent.sat (by refine ent_take ?_; refine ent_take ?_; refine ent_take ?_; exact ent_tail) h⟩
                  · refine wd_ag 5 rfl rfl rfl (v_move rfl) ?_
                    refine wd_ag 6 rfl rfl rfl (v_eql rfl rfl) ?_
                    refine wd_ag 7 rfl rfl rfl (v_move rfl) ?_
                    refine wd_if (t := 109) rfl (fun he0 => ?_) (fun he0 => ?_)
                    · refine wd_ag 9 rfl rfl rfl (v_loadN tyA_86 rfl (by repeat constructor) (by repeat constructor)) ?_
                      refine wd_p 1 rfl (v_move rfl) ?_
                      refine wd_fr 0 rfl (fun w h => h) (v_loadN tyA_43 rfl (by repeat constructor) (by repeat constructor)) ?_
                      refine wd_frg 8 rfl rfl rfl (fun w h => h) (v_loadN tyA_82 rfl (by repeat constructor) (by repeat constructor)) ?_
                      refine wd_lg 10 rfl rfl rfl (w_call (s_sgraffitolaw13_ref (p := q)) rfl (by repeat constructor) ?_)
                      rintro ⟨⟩ -
                      refine ⟨fun w s_ _ => Ent.sat (by refine ent_take ?_; refine ent_take ?_; refine ent_take ?_; exact ent_nil) s_, ?_⟩
                      refine wd_pg 11 rfl rfl rfl (v_eqPair tyP_82 rfl rfl) ?_
                      refine wd_pg 12 rfl rfl rfl (v_pickT rfl rfl) ?_
                      refine wd_p 13 rfl (v_pickF rfl rfl) ?_
                      refine wd_l0 14 rfl (w_storeN tyN_43 rfl rfl rfl rfl (by repeat constructor) (by repeat constructor) ?_)
                      refine ⟨fun w s_ _ => Ent.sat (by refine ent_take ?_; refine ent_take ?_; refine ent_take ?_; exact ent_nil) s_, ?_⟩
                      refine wd_a 15 rfl (v_assign rfl) ?_
                      refine wd_al 16 rfl (v_assign rfl) ?_
                      refine wd_done ?_
                      refine wk_ret Tryz.func12 rfl rfl (res_cellA tyA_43 rfl (by repeat constructor) rfl (res_tmp rfl (res_tmp rfl res_nil))) fun W h => ?_
                      obtain rfl : u = ⟨q.page, q.stamp⟩ := (hor.resolve_left (by omega)).2
                      refine ⟨⟨r1, X1, e, S1, st1⟩, ?_, hres, Ent.sat (by refine ent_take ?_; refine ent_take ?_; refine ent_take ?_; exact ent_tail) h⟩
                      simp <;> rfl
                    · exact absurd (show (e : Int) = 0 by omega) he0
              · refine alt_l rfl (w_allocA tyZ_82 fun bw => ?_)
                refine ⟨fun w s_ _ => Ent.sat (by refine ent_take ?_; exact ent_nil) s_, ?_⟩
                refine wd_l 9 rfl (w_call (s_store_Store_Write (p := smallP) (S := S) (st := st) (r := ⟨p.page, p.stamp⟩) (load := a.bs) hD (by omega)) rfl (by repeat constructor) ?_)
                rintro ⟨u, e, S1, st1⟩ hN
                refine ⟨fun w s_ => Wat.gone (by decide), ?_⟩
                dsimp only at hN ⊢
                refine wd_a 10 rfl (v_move rfl) ?_
                refine wd_a 11 rfl (v_extract rfl rfl) ?_
                refine wd_p 12 rfl (v_extract rfl rfl) ?_
                refine wd_l0 14 rfl (w_storeN tyN_82 rfl rfl rfl rfl (by repeat constructor) (by repeat constructor) ?_)
                refine ⟨fun w s_ => Wat.gone (by decide), ?_⟩
                refine wd_a 15 rfl (v_assign rfl) ?_
                refine wd_done ?_
                refine wk_seq ?_
                refine wk_seq ?_
                refine wk_region ?_
                refine wo_v (v_move rfl) ?_
                refine wo_v (v_not rfl) ?_
                refine wo_nil ?_
                refine wk_if rfl (fun hok => ?_) (fun hok => ?_)
                · refine wk_seq ?_
                  refine wk_region ?_
                  refine wo_v (v_loadN tyA_43 rfl (by repeat constructor) (by repeat constructor)) ?_
                  refine wo_v (v_move rfl) ?_
                  refine wo_v (v_eql rfl rfl) ?_
                  refine wo_w0 (w_storeN tyN_43 rfl rfl rfl rfl (by repeat constructor) (by repeat constructor) ?_)
                  refine wo_v (v_assign rfl) ?_
                  refine wo_v (v_assign rfl) ?_
                  refine wo_nil ?_
                  refine wk_ret Tryz.func12 rfl rfl (res_cellA tyA_43 rfl (by repeat constructor) rfl (res_tmp rfl (res_tmp rfl res_nil))) fun W h => ?_
                  subst hok
                  obtain ⟨rfl, rfl, rfl⟩ := did_write0 hI hg (by omega) hN hM
                  exact ⟨⟨r, X, 0, S1, st1⟩, rfl, DidR.same hI (by omega), Ent.sat (by refine ent_take ?_; refine ent_take ?_; refine ent_take ?_; exact ent_tail) h⟩
                · subst hok
                  obtain ⟨hor, hres⟩ := did_write (k := kindOf a.kind) hI hg (by omega) (by omega) hN hM
                  have he : e = 4 ∨ e = 0 := hor.imp id And.left
                  refine wk_skip ?_
                  refine wk_seq ?_
                  refine wk_draw (n := 17) (pend := 131071) ⟨16, fun w => Sat G w [blk bn (refC r1 X1) 43, blk bw [.int .i64 u.page, .int .i64 u.stamp] 82, blk bq (pgC q) 86]⟩ mixed (by kernel_rfl) rfl (fun w s_ => Ent.sat (by refine ent_take ?_; refine ent_take ?_; refine ent_take ?_; exact ent_nil) s_) rfl ?_
                  refine wd_a 2 rfl (v_move rfl) ?_
                  refine wd_a 3 rfl (v_eql rfl rfl) ?_
                  refine wd_a 4 rfl (v_move rfl) ?_
                  refine wd_if (t := 106) rfl (fun he4 => ?_) (fun he4 => ?_)
                  · refine wd_gF 5 rfl rfl rfl rfl ?_
                    refine wd_gF 6 rfl rfl rfl rfl ?_
                    refine wd_gF 7 rfl rfl rfl rfl ?_
                    refine wd_gU 8 rfl rfl rfl ?_
                    refine wd_gU 9 rfl rfl rfl ?_
                    refine wd_p 1 rfl (v_move rfl) ?_
                    refine wd_fr 0 rfl (fun w h => h) (v_loadN tyA_43 rfl (by repeat constructor) (by repeat constructor)) ?_
                    refine wd_lgU 10 rfl rfl rfl ?_
                    refine wd_gU 11 rfl rfl rfl ?_
                    refine wd_gF 12 rfl rfl rfl rfl ?_
                    refine wd_p 13 rfl (v_pickT rfl rfl) ?_
                    refine wd_l0 14 rfl (w_storeN tyN_43 rfl rfl rfl rfl (by repeat constructor) (by repeat constructor) ?_)
                    refine ⟨fun w s_ _ => Ent.sat (by refine ent_take ?_; refine ent_take ?_; refine ent_take ?_; exact ent_nil) s_, ?_⟩
                    refine wd_a 15 rfl (v_assign rfl) ?_
                    refine wd_al 16 rfl (v_assign rfl) ?_
                    refine wd_done ?_
                    refine wk_ret Tryz.func12 rfl rfl (res_cellA tyA_43 rfl (by repeat constructor) rfl (res_tmp rfl (res_tmp rfl res_nil))) fun W h => ?_
                    exact ⟨⟨r1, X1, e, S1, st1⟩, rfl, hres, Ent.sat (by refine ent_take ?_; refine ent_take ?_; refine ent_take ?_; exact ent_tail) h⟩
                  · refine wd_ag 5 rfl rfl rfl (v_move rfl) ?_
                    refine wd_ag 6 rfl rfl rfl (v_eql rfl rfl) ?_
                    refine wd_ag 7 rfl rfl rfl (v_move rfl) ?_
                    refine wd_if (t := 109) rfl (fun he0 => ?_) (fun he0 => ?_)
                    · refine wd_ag 9 rfl rfl rfl (v_loadN tyA_86 rfl (by repeat constructor) (by repeat constructor)) ?_
                      refine wd_p 1 rfl (v_move rfl) ?_
                      refine wd_fr 0 rfl (fun w h => h) (v_loadN tyA_43 rfl (by repeat constructor) (by repeat constructor)) ?_
                      refine wd_frg 8 rfl rfl rfl (fun w h => h) (v_loadN tyA_82 rfl (by repeat constructor) (by repeat constructor)) ?_
                      refine wd_lg 10 rfl rfl rfl (w_call (s_sgraffitolaw13_ref (p := q)) rfl (by repeat constructor) ?_)
                      rintro ⟨⟩ -
                      refine ⟨fun w s_ _ => Ent.sat (by refine ent_take ?_; refine ent_take ?_; refine ent_take ?_; exact ent_nil) s_, ?_⟩
                      refine wd_pg 11 rfl rfl rfl (v_eqPair tyP_82 rfl rfl) ?_
                      refine wd_pg 12 rfl rfl rfl (v_pickT rfl rfl) ?_
                      refine wd_p 13 rfl (v_pickF rfl rfl) ?_
                      refine wd_l0 14 rfl (w_storeN tyN_43 rfl rfl rfl rfl (by repeat constructor) (by repeat constructor) ?_)
                      refine ⟨fun w s_ _ => Ent.sat (by refine ent_take ?_; refine ent_take ?_; refine ent_take ?_; exact ent_nil) s_, ?_⟩
                      refine wd_a 15 rfl (v_assign rfl) ?_
                      refine wd_al 16 rfl (v_assign rfl) ?_
                      refine wd_done ?_
                      refine wk_ret Tryz.func12 rfl rfl (res_cellA tyA_43 rfl (by repeat constructor) rfl (res_tmp rfl (res_tmp rfl res_nil))) fun W h => ?_
                      obtain rfl : u = ⟨q.page, q.stamp⟩ := (hor.resolve_left (by omega)).2
                      refine ⟨⟨r1, X1, e, S1, st1⟩, ?_, hres, Ent.sat (by refine ent_take ?_; refine ent_take ?_; refine ent_take ?_; exact ent_tail) h⟩
                      simp <;> rfl
                    · exact absurd (show (e : Int) = 0 by omega) he0
            · refine alt_l rfl (w_allocA tyZ_82 fun bw => ?_)
              refine ⟨fun w s_ _ => Ent.sat (by refine ent_take ?_; exact ent_nil) s_, ?_⟩
              refine wd_l 6 rfl (w_call (s_sgraffitolaw13_ref (p := p)) rfl (by repeat constructor) ?_)
              rintro ⟨⟩ -
              refine ⟨fun w s_ _ => Ent.sat (by refine ent_take ?_; exact ent_nil) s_, ?_⟩
              refine wd_l 9 rfl (w_call (s_store_Store_Write (p := smallP) (S := S) (st := st) (r := ⟨p.page, p.stamp⟩) (load := a.bs) hD (by omega)) rfl (by repeat constructor) ?_)
              rintro ⟨u, e, S1, st1⟩ hN
              refine ⟨fun w s_ => Wat.gone (by decide), ?_⟩
              dsimp only at hN ⊢
              refine wd_a 10 rfl (v_move rfl) ?_
              refine wd_a 11 rfl (v_extract rfl rfl) ?_
              refine wd_p 12 rfl (v_extract rfl rfl) ?_
              refine wd_l0 14 rfl (w_storeN tyN_82 rfl rfl rfl rfl (by repeat constructor) (by repeat constructor) ?_)
              refine ⟨fun w s_ => Wat.gone (by decide), ?_⟩
              refine wd_a 15 rfl (v_assign rfl) ?_
              refine wd_done ?_
              refine wk_seq ?_
              refine wk_seq ?_
              refine wk_region ?_
              refine wo_v (v_move rfl) ?_
              refine wo_v (v_not rfl) ?_
              refine wo_nil ?_
              refine wk_if rfl (fun hok => ?_) (fun hok => ?_)
              · refine wk_seq ?_
                refine wk_region ?_
                refine wo_v (v_loadN tyA_43 rfl (by repeat constructor) (by repeat constructor)) ?_
                refine wo_v (v_move rfl) ?_
                refine wo_v (v_eql rfl rfl) ?_
                refine wo_w0 (w_storeN tyN_43 rfl rfl rfl rfl (by repeat constructor) (by repeat constructor) ?_)
                refine wo_v (v_assign rfl) ?_
                refine wo_v (v_assign rfl) ?_
                refine wo_nil ?_
                refine wk_ret Tryz.func12 rfl rfl (res_cellA tyA_43 rfl (by repeat constructor) rfl (res_tmp rfl (res_tmp rfl res_nil))) fun W h => ?_
                subst hok
                obtain ⟨rfl, rfl, rfl⟩ := did_write0 hI hg (by omega) hN hM
                exact ⟨⟨r, X, 0, S1, st1⟩, rfl, DidR.same hI (by omega), Ent.sat (by refine ent_take ?_; refine ent_take ?_; refine ent_take ?_; exact ent_tail) h⟩
              · subst hok
                obtain ⟨hor, hres⟩ := did_write (k := kindOf a.kind) hI hg (by omega) (by omega) hN hM
                have he : e = 4 ∨ e = 0 := hor.imp id And.left
                refine wk_skip ?_
                refine wk_seq ?_
                refine wk_draw (n := 17) (pend := 131071) ⟨16, fun w => Sat G w [blk bn (refC r1 X1) 43, blk bw [.int .i64 u.page, .int .i64 u.stamp] 82, blk bq (pgC q) 86]⟩ mixed (by kernel_rfl) rfl (fun w s_ => Ent.sat (by refine ent_take ?_; refine ent_take ?_; refine ent_take ?_; exact ent_nil) s_) rfl ?_
                refine wd_a 2 rfl (v_move rfl) ?_
                refine wd_a 3 rfl (v_eql rfl rfl) ?_
                refine wd_a 4 rfl (v_move rfl) ?_
                refine wd_if (t := 106) rfl (fun he4 => ?_) (fun he4 => ?_)
                · refine wd_gF 5 rfl rfl rfl rfl ?_
                  refine wd_gF 6 rfl rfl rfl rfl ?_
                  refine wd_gF 7 rfl rfl rfl rfl ?_
                  refine wd_gU 8 rfl rfl rfl ?_
                  refine wd_gU 9 rfl rfl rfl ?_
                  refine wd_p 1 rfl (v_move rfl) ?_
                  refine wd_fr 0 rfl (fun w h => h) (v_loadN tyA_43 rfl (by repeat constructor) (by repeat constructor)) ?_
                  refine wd_lgU 10 rfl rfl rfl ?_
                  refine wd_gU 11 rfl rfl rfl ?_
                  refine wd_gF 12 rfl rfl rfl rfl ?_
                  refine wd_p 13 rfl (v_pickT rfl rfl) ?_
                  refine wd_l0 14 rfl (w_storeN tyN_43 rfl rfl rfl rfl (by repeat constructor) (by repeat constructor) ?_)
                  refine ⟨fun w s_ _ => Ent.sat (by refine ent_take ?_; refine ent_take ?_; refine ent_take ?_; exact ent_nil) s_, ?_⟩
                  refine wd_a 15 rfl (v_assign rfl) ?_
                  refine wd_al 16 rfl (v_assign rfl) ?_
                  refine wd_done ?_
                  refine wk_ret Tryz.func12 rfl rfl (res_cellA tyA_43 rfl (by repeat constructor) rfl (res_tmp rfl (res_tmp rfl res_nil))) fun W h => ?_
                  exact ⟨⟨r1, X1, e, S1, st1⟩, rfl, hres, Ent.sat (by refine ent_take ?_; refine ent_take ?_; refine ent_take ?_; exact ent_tail) h⟩
                · refine wd_ag 5 rfl rfl rfl (v_move rfl) ?_
                  refine wd_ag 6 rfl rfl rfl (v_eql rfl rfl) ?_
                  refine wd_ag 7 rfl rfl rfl (v_move rfl) ?_
                  refine wd_if (t := 109) rfl (fun he0 => ?_) (fun he0 => ?_)
                  · refine wd_ag 9 rfl rfl rfl (v_loadN tyA_86 rfl (by repeat constructor) (by repeat constructor)) ?_
                    refine wd_p 1 rfl (v_move rfl) ?_
                    refine wd_fr 0 rfl (fun w h => h) (v_loadN tyA_43 rfl (by repeat constructor) (by repeat constructor)) ?_
                    refine wd_frg 8 rfl rfl rfl (fun w h => h) (v_loadN tyA_82 rfl (by repeat constructor) (by repeat constructor)) ?_
                    refine wd_lg 10 rfl rfl rfl (w_call (s_sgraffitolaw13_ref (p := q)) rfl (by repeat constructor) ?_)
                    rintro ⟨⟩ -
                    refine ⟨fun w s_ _ => Ent.sat (by refine ent_take ?_; refine ent_take ?_; refine ent_take ?_; exact ent_nil) s_, ?_⟩
                    refine wd_pg 11 rfl rfl rfl (v_eqPair tyP_82 rfl rfl) ?_
                    refine wd_pg 12 rfl rfl rfl (v_pickT rfl rfl) ?_
                    refine wd_p 13 rfl (v_pickF rfl rfl) ?_
                    refine wd_l0 14 rfl (w_storeN tyN_43 rfl rfl rfl rfl (by repeat constructor) (by repeat constructor) ?_)
                    refine ⟨fun w s_ _ => Ent.sat (by refine ent_take ?_; refine ent_take ?_; refine ent_take ?_; exact ent_nil) s_, ?_⟩
                    refine wd_a 15 rfl (v_assign rfl) ?_
                    refine wd_al 16 rfl (v_assign rfl) ?_
                    refine wd_done ?_
                    refine wk_ret Tryz.func12 rfl rfl (res_cellA tyA_43 rfl (by repeat constructor) rfl (res_tmp rfl (res_tmp rfl res_nil))) fun W h => ?_
                    obtain rfl : u = ⟨q.page, q.stamp⟩ := (hor.resolve_left (by omega)).2
                    refine ⟨⟨r1, X1, e, S1, st1⟩, ?_, hres, Ent.sat (by refine ent_take ?_; refine ent_take ?_; refine ent_take ?_; exact ent_tail) h⟩
                    simp <;> rfl
                  · exact absurd (show (e : Int) = 0 by omega) he0
          · refine wk_seq ?_
            refine wk_region ?_
            refine wo_v (v_eql rfl rfl) ?_
            refine wo_v (v_assign rfl) ?_
            refine wo_nil ?_
            refine wk_if rfl (fun hk5 => ?_) (fun hk5 => ?_)
            · exact absurd hk5 (by omega)
            · refine wk_seq ?_
              refine wk_region ?_
              refine wo_v (v_eql rfl rfl) ?_
              refine wo_v (v_assign rfl) ?_
              refine wo_nil ?_
              refine wk_if rfl (fun hk6 => ?_) (fun hk6 => ?_)
              · exact absurd hk6 (by omega)
              · refine wk_seq ?_
                refine wk_region ?_
                refine wo_v (v_eql rfl rfl) ?_
                refine wo_v (v_assign rfl) ?_
                refine wo_nil ?_
                refine wk_if rfl (fun hk7 => ?_) (fun hk7 => ?_)
                · exact absurd hk7 (by omega)
                · refine wk_seq ?_
                  refine wk_region ?_
                  refine wo_v (v_eql rfl rfl) ?_
                  refine wo_v (v_assign rfl) ?_
                  refine wo_nil ?_
                  refine wk_if rfl (fun hk8 => ?_) (fun hk8 => ?_)
                  · exact absurd hk8 (by omega)
                  · refine wk_skip ?_
                    refine wk_inBlock ?_
                    refine wk_seq ?_
                    refine wk_region ?_
                    refine wo_v (v_loadN tyA_43 rfl (by repeat constructor) (by repeat constructor)) ?_
                    refine wo_v (v_fieldAddr tyF_47_2 rfl) ?_
                    refine wo_v (v_load tyS_45 rfl rfl) ?_
                    refine wo_v (v_str tyU_45 tyU_5 tyU_9 rfl (src_ro (x := a.sv))) ?_
                    refine wo_w (w_call (s_sgraffitoref13_Make (r := r) (X := X) (load := a.bs) hB) rfl (by repeat constructor) ?_)
                    rintro ⟨r1, X1, q, ok⟩ hM
                    dsimp only at hM ⊢
                    refine wo_v (v_move rfl) ?_
                    refine wo_v (v_extract rfl rfl) ?_
                    refine wo_v (v_extract rfl rfl) ?_
                    refine wo_v (v_extract rfl rfl) ?_
                    refine wo_w (w_allocA tyZ_43 fun bn => ?_)
                    refine wo_w (w_allocA tyZ_86 fun bq => ?_)
                    refine wo_w0 (w_storeN tyN_43 rfl rfl rfl rfl (by repeat constructor) (by repeat constructor) ?_)
                    refine wo_w0 (w_storeN tyN_86 rfl rfl rfl rfl (by repeat constructor) (by repeat constructor) ?_)
                    refine wo_v (v_assign rfl) ?_
                    refine wo_nil ?_
                    refine wk_seq ?_
                    refine wk_region ?_
                    refine wo_v (v_move rfl) ?_
                    refine wo_v (v_fieldAddr tyF_47_2 rfl) ?_
                    refine wo_v (v_load tyS_45 rfl rfl) ?_
                    refine wo_w (w_call (s_store_Store_New (p := smallP) (S := S) (st := st) (load := a.bs) hD (by omega)) rfl (by repeat constructor) ?_)
                    rintro ⟨u, e, S1, st1⟩ hN
                    dsimp only at hN ⊢
                    refine wo_v (v_move rfl) ?_
                    refine wo_v (v_extract rfl rfl) ?_
                    refine wo_v (v_extract rfl rfl) ?_
                    refine wo_w (w_allocA tyZ_82 fun bw => ?_)
                    refine wo_w0 (w_storeN tyN_82 rfl rfl rfl rfl (by repeat constructor) (by repeat constructor) ?_)
                    refine wo_v (v_assign rfl) ?_
                    refine wo_nil ?_
                    refine wk_seq ?_
                    refine wk_seq ?_
                    refine wk_region ?_
                    refine wo_v (v_move rfl) ?_
                    refine wo_v (v_not rfl) ?_
                    refine wo_nil ?_
                    refine wk_if rfl (fun hok => ?_) (fun hok => ?_)
                    · refine wk_seq ?_
                      refine wk_region ?_
                      refine wo_v (v_loadN tyA_43 rfl (by repeat constructor) (by repeat constructor)) ?_
                      refine wo_v (v_move rfl) ?_
                      refine wo_v (v_eql rfl rfl) ?_
                      refine wo_w0 (w_storeN tyN_43 rfl rfl rfl rfl (by repeat constructor) (by repeat constructor) ?_)
                      refine wo_v (v_assign rfl) ?_
                      refine wo_v (v_assign rfl) ?_
                      refine wo_nil ?_
                      refine wk_ret Tryz.func12 rfl rfl (res_cellA tyA_43 rfl (by repeat constructor) rfl (res_tmp rfl (res_tmp rfl res_nil))) fun W h => ?_
                      subst hok
                      obtain ⟨rfl, rfl, rfl⟩ := did_new0 hI (by omega) hN hM
                      exact ⟨⟨r, X, 0, S1, st1⟩, rfl, DidR.same hI (by omega), Ent.sat (by refine ent_take ?_; refine ent_take ?_; refine ent_take ?_; exact ent_tail) h⟩
                    · subst hok
                      obtain ⟨hor, hres⟩ := did_new (k := kindOf a.kind) hI (by omega) (by omega) hN hM
                      have he : e = 4 ∨ e = 0 := hor.imp id And.left
                      refine wk_skip ?_
                      refine wk_seq ?_
                      refine wk_draw (n := 17) (pend := 131071) ⟨16, fun w => Sat G w [blk bn (refC r1 X1) 43, blk bw [.int .i64 u.page, .int .i64 u.stamp] 82, blk bq (pgC q) 86]⟩ mixed (by kernel_rfl) rfl (fun w s_ => Ent.sat (by refine ent_take ?_; refine ent_take ?_; refine ent_take ?_; exact ent_nil) s_) rfl ?_
                      refine wd_a 2 rfl (v_move rfl) ?_
                      refine wd_a 3 rfl (v_eql rfl rfl) ?_
                      refine wd_a 4 rfl (v_move rfl) ?_
                      refine wd_if (t := 207) rfl (fun he4 => ?_) (fun he4 => ?_)
                      · refine wd_gF 5 rfl rfl rfl rfl ?_
                        refine wd_gF 6 rfl rfl rfl rfl ?_
                        refine wd_gF 7 rfl rfl rfl rfl ?_
                        refine wd_gU 8 rfl rfl rfl ?_
                        refine wd_gU 9 rfl rfl rfl ?_
                        refine wd_p 1 rfl (v_move rfl) ?_
                        refine wd_fr 0 rfl (fun w h => h) (v_loadN tyA_43 rfl (by repeat constructor) (by repeat constructor)) ?_
                        refine wd_lgU 10 rfl rfl rfl ?_
                        refine wd_gU 11 rfl rfl rfl ?_
                        refine wd_gF 12 rfl rfl rfl rfl ?_
                        refine wd_p 13 rfl (v_pickT rfl rfl) ?_
                        refine wd_l0 14 rfl (w_storeN tyN_43 rfl rfl rfl rfl (by repeat constructor) (by repeat constructor) ?_)
                        refine ⟨fun w s_ _ => Ent.sat (by refine ent_take ?_; refine ent_take ?_; refine ent_take ?_; exact ent_nil) s_, ?_⟩
                        refine wd_a 15 rfl (v_assign rfl) ?_
                        refine wd_al 16 rfl (v_assign rfl) ?_
                        refine wd_done ?_
                        refine wk_ret Tryz.func12 rfl rfl (res_cellA tyA_43 rfl (by repeat constructor) rfl (res_tmp rfl (res_tmp rfl res_nil))) fun W h => ?_
                        exact ⟨⟨r1, X1, e, S1, st1⟩, rfl, hres, Ent.sat (by refine ent_take ?_; refine ent_take ?_; refine ent_take ?_; exact ent_tail) h⟩
                      · refine wd_ag 5 rfl rfl rfl (v_move rfl) ?_
                        refine wd_ag 6 rfl rfl rfl (v_eql rfl rfl) ?_
                        refine wd_ag 7 rfl rfl rfl (v_move rfl) ?_
                        refine wd_if (t := 210) rfl (fun he0 => ?_) (fun he0 => ?_)
                        · refine wd_ag 9 rfl rfl rfl (v_loadN tyA_86 rfl (by repeat constructor) (by repeat constructor)) ?_
                          refine wd_p 1 rfl (v_move rfl) ?_
                          refine wd_fr 0 rfl (fun w h => h) (v_loadN tyA_43 rfl (by repeat constructor) (by repeat constructor)) ?_
                          refine wd_frg 8 rfl rfl rfl (fun w h => h) (v_loadN tyA_82 rfl (by repeat constructor) (by repeat constructor)) ?_
                          refine wd_lg 10 rfl rfl rfl (w_call (s_sgraffitolaw13_ref (p := q)) rfl (by repeat constructor) ?_)
                          rintro ⟨⟩ -
                          refine ⟨fun w s_ _ => Ent.sat (by refine ent_take ?_; refine ent_take ?_; refine ent_take ?_; exact ent_nil) s_, ?_⟩
                          refine wd_pg 11 rfl rfl rfl (v_eqPair tyP_82 rfl rfl) ?_
                          refine wd_pg 12 rfl rfl rfl (v_pickT rfl rfl) ?_
                          refine wd_p 13 rfl (v_pickF rfl rfl) ?_
                          refine wd_l0 14 rfl (w_storeN tyN_43 rfl rfl rfl rfl (by repeat constructor) (by repeat constructor) ?_)
                          refine ⟨fun w s_ _ => Ent.sat (by refine ent_take ?_; refine ent_take ?_; refine ent_take ?_; exact ent_nil) s_, ?_⟩
                          refine wd_a 15 rfl (v_assign rfl) ?_
                          refine wd_al 16 rfl (v_assign rfl) ?_
                          refine wd_done ?_
                          refine wk_ret Tryz.func12 rfl rfl (res_cellA tyA_43 rfl (by repeat constructor) rfl (res_tmp rfl (res_tmp rfl res_nil))) fun W h => ?_
                          obtain rfl : u = ⟨q.page, q.stamp⟩ := (hor.resolve_left (by omega)).2
                          refine ⟨⟨r1, X1, e, S1, st1⟩, ?_, hres, Ent.sat (by refine ent_take ?_; refine ent_take ?_; refine ent_take ?_; exact ent_tail) h⟩
                          simp <;> rfl
                        · exact absurd (show (e : Int) = 0 by omega) he0
    · refine wo_gF ?_
      refine wo_gF ?_
      refine wo_gF ?_
      refine wo_gF ?_
      refine wo_v (v_pickF rfl rfl) ?_
      refine wo_nil ?_
      refine wk_condF rfl ?_
      refine wk_skip ?_
      refine wk_seq ?_
      refine wk_seq ?_
      refine wk_region ?_
      refine wo_v (v_move rfl) ?_
      refine wo_nil ?_
      refine wk_block ?_
      refine wk_seq ?_
      refine wk_seq ?_
      refine wk_region ?_
      refine wo_v (v_eql rfl rfl) ?_
      refine wo_v (v_assign rfl) ?_
      refine wo_nil ?_
      refine wk_if rfl (fun hk3 => ?_) (fun hk3 => ?_)
      · exact absurd hk3 (by omega)
      · refine wk_region ?_
        refine wo_v (v_eql rfl rfl) ?_
        refine wo_v (v_assign rfl) ?_
        refine wo_nil ?_
        refine wk_if rfl (fun hk4b => ?_) (fun hk4b => ?_)
        · exact absurd hk4b (by omega)
        · refine wk_seq ?_
          refine wk_region ?_
          refine wo_v (v_eql rfl rfl) ?_
          refine wo_v (v_assign rfl) ?_
          refine wo_nil ?_
          refine wk_if rfl (fun hk5 => ?_) (fun hk5 => ?_)
          · refine wk_seq ?_
            refine wk_region ?_
            refine wo_v (v_move rfl) ?_
            refine wo_v (v_fieldAddr tyF_43_2 rfl) ?_
            refine wo_v (v_load tyS_41 rfl rfl) ?_
            refine wo_v (v_move rfl) ?_
            refine wo_v (v_indexAddrS tyU_41 tyN_86 rfl rfl ha9 (by omega)) ?_
            refine wo_v (v_loadA tyA_86 rfl (ro_rowA pgC_len hv9 hg) rfl) ?_
            refine wo_w (w_call (s_sgraffitolaw13_ref (p := p)) rfl (by repeat constructor) ?_)
            rintro ⟨⟩ -
            refine wo_w (w_call (s_store_Store_Free (p := smallP) (S := S) (r := ⟨p.page, p.stamp⟩)) rfl (by repeat constructor) ?_)
            rintro ⟨⟩ -
            rw [free_ok hI hpl, if_pos rfl]
            refine wo_v (v_assign rfl) ?_
            refine wo_nil ?_
            refine wk_seq ?_
            refine wk_region ?_
            refine wo_v (v_loadN tyA_43 rfl (by repeat constructor) (by repeat constructor)) ?_
            refine wo_v (v_move rfl) ?_
            refine wo_w (w_call (s_sgraffitoref13_Free (r := r) (X := X) (i := i) (p := p) hB hg) rfl (by repeat constructor) ?_)
            rintro ⟨r1, X1⟩ hDr
            dsimp only at hDr ⊢
            refine wo_v (v_move rfl) ?_
            refine wo_v (v_move rfl) ?_
            refine wo_v (v_eql rfl rfl) ?_
            refine wo_w0 (w_storeN tyN_43 rfl rfl rfl rfl (by repeat constructor) (by repeat constructor) ?_)
            refine wo_v (v_assign rfl) ?_
            refine wo_v (v_assign rfl) ?_
            refine wo_nil ?_
            refine wk_ret Tryz.func12 rfl rfl (res_cellA tyA_43 rfl (by repeat constructor) rfl (res_tmp rfl (res_tmp rfl res_nil))) fun W h => ?_
            exact ⟨⟨r1, X1, 0, S.goneS p.page, st⟩, rfl, did_free hI hg (by omega) hDr, Ent.sat (by refine ent_take ?_; refine ent_take ?_; refine ent_take ?_; exact ent_tail) h⟩
          · refine wk_seq ?_
            refine wk_region ?_
            refine wo_v (v_eql rfl rfl) ?_
            refine wo_v (v_assign rfl) ?_
            refine wo_nil ?_
            refine wk_if rfl (fun hk6 => ?_) (fun hk6 => ?_)
            · refine wk_seq ?_
              refine wk_region ?_
              refine wo_v (v_move rfl) ?_
              refine wo_v (v_fieldAddr tyF_43_2 rfl) ?_
              refine wo_v (v_load tyS_41 rfl rfl) ?_
              refine wo_v (v_move rfl) ?_
              refine wo_v (v_indexAddrS tyU_41 tyN_86 rfl rfl ha9 (by omega)) ?_
              refine wo_v (v_loadA tyA_86 rfl (ro_rowA pgC_len hv9 hg) rfl) ?_
              refine wo_w (w_call (s_sgraffitolaw13_ref (p := p)) rfl (by repeat constructor) ?_)
              rintro ⟨⟩ -
              refine wo_w (w_call (s_store_Store_Read (p := smallP) (S := S) (st := st) (r := ⟨p.page, p.stamp⟩) hD) rfl (by repeat constructor) ?_)
              rintro ⟨y, ld, e, S1, st1⟩ ⟨hy, hR⟩
              dsimp only at hy hR ⊢
              obtain ⟨hor, hres⟩ := did_read (k := kindOf a.kind) hI hpl (by omega) hR
              have he : e = 4 ∨ e = 0 := hor.imp id And.left
              refine wo_v (v_move rfl) ?_
              refine wo_v (v_extract rfl rfl) ?_
              refine wo_v (v_extract rfl rfl) ?_
              refine wo_v (v_assign rfl) ?_
              refine wo_v (v_assign rfl) ?_
              refine wo_nil ?_
              refine wk_seq ?_
              refine wk_draw (n := 22) (pend := 4194303) ⟨21, fun w => Sat G w [blk b1 (refC r X) 43, pe (rob b9 vs9 T9 fz9), pe (bsl y ld)]⟩ mixed (by kernel_rfl) rfl (fun w s_ => Ent.sat (by refine ent_take ?_; refine ent_take ?_; refine ent_take ?_; exact ent_nil) s_) rfl ?_
              refine wd_a 0 rfl (v_loadN tyA_43 rfl (by repeat constructor) (by repeat constructor)) ?_
              refine wd_a 2 rfl (v_move rfl) ?_
              refine wd_a 3 rfl (v_eql rfl rfl) ?_
              refine wd_a 4 rfl (v_move rfl) ?_
              refine wd_if (t := 149) rfl (fun he4 => ?_) (fun he4 => ?_)
              · refine wd_gF 5 rfl rfl rfl rfl ?_
                refine wd_gF 6 rfl rfl rfl rfl ?_
                refine wd_gF 7 rfl rfl rfl rfl ?_
                refine wd_gU 8 rfl rfl rfl ?_
                refine wd_gU 9 rfl rfl rfl ?_
                refine wd_gU 10 rfl rfl rfl ?_
                refine wd_gU 11 rfl rfl rfl ?_
                refine wd_gU 12 rfl rfl rfl ?_
                refine wd_gU 13 rfl rfl rfl ?_
                refine wd_gU 14 rfl rfl rfl ?_
                refine wd_gU 15 rfl rfl rfl ?_
                refine wd_gU 16 rfl rfl rfl ?_
                refine wd_gF 17 rfl rfl rfl rfl ?_
                refine wd_p 1 rfl (v_move rfl) ?_
                refine wd_p 18 rfl (v_pickT rfl rfl) ?_
                refine wd_l0 19 rfl (w_storeN tyN_43 rfl rfl rfl rfl (by repeat constructor) (by repeat constructor) ?_)
                refine ⟨fun w s_ _ => Ent.sat (by refine ent_take ?_; refine ent_take ?_; refine ent_take ?_; exact ent_nil) s_, ?_⟩
                refine wd_a 20 rfl (v_assign rfl) ?_
                refine wd_al 21 rfl (v_assign rfl) ?_
                refine wd_done ?_
                refine wk_ret Tryz.func12 rfl rfl (res_cellA tyA_43 rfl (by repeat constructor) rfl (res_tmp rfl (res_tmp rfl res_nil))) fun W h => ?_
                exact ⟨⟨r, X, e, S1, st1⟩, rfl, hres, Ent.sat (by refine ent_take ?_; refine ent_take ?_; refine ent_take ?_; exact ent_tail) h⟩
              · refine wd_ag 5 rfl rfl rfl (v_move rfl) ?_
                refine wd_ag 6 rfl rfl rfl (v_eql rfl rfl) ?_
                refine wd_ag 7 rfl rfl rfl (v_move rfl) ?_
                refine wd_p 1 rfl (v_move rfl) ?_
                refine wd_if (t := 152) rfl (fun he0 => ?_) (fun he0 => ?_)
                · refine wd_pg 8 rfl rfl rfl (v_move rfl) ?_
                  refine wd_pg 10 rfl rfl rfl (v_fieldAddr tyF_43_2 rfl) ?_
                  refine wd_pg 12 rfl rfl rfl (v_move rfl) ?_
                  refine wd_frg 9 rfl rfl rfl (fun w h => h) (v_str tyU_45 tyU_5 tyU_9 rfl (src_ro (x := y))) ?_
                  refine wd_frg 11 rfl rfl rfl (fun w h => h) (v_load tyS_41 rfl rfl) ?_
                  refine wd_pg 13 rfl rfl rfl (v_indexAddrS tyU_41 tyN_86 rfl rfl ha9 (by omega)) ?_
                  refine wd_pg 14 rfl rfl rfl (v_fieldAddr tyF_86_2 rfl) ?_
                  refine wd_frg 15 rfl rfl rfl (fun w h => h) (v_load tyS_9 rfl (ro_row (j := 2) pgC_len hv9 hg (by omega))) ?_
                  refine wd_pg 16 rfl rfl rfl (v_eqS rfl rfl) ?_
                  refine wd_pg 17 rfl rfl rfl (v_pickT rfl rfl) ?_
                  refine wd_p 18 rfl (v_pickF rfl rfl) ?_
                  refine wd_l0 19 rfl (w_storeN tyN_43 rfl rfl rfl rfl (by repeat constructor) (by repeat constructor) ?_)
                  refine ⟨fun w s_ _ => Ent.sat (by refine ent_take ?_; refine ent_take ?_; refine ent_take ?_; exact ent_nil) s_, ?_⟩
                  refine wd_a 20 rfl (v_assign rfl) ?_
                  refine wd_al 21 rfl (v_assign rfl) ?_
                  refine wd_done ?_
                  refine wk_ret Tryz.func12 rfl rfl (res_cellA tyA_43 rfl (by repeat constructor) rfl (res_tmp rfl (res_tmp rfl res_nil))) fun W h => ?_
                  obtain rfl : ld = p.load := (hor.resolve_left (by omega)).2
                  refine ⟨⟨r, X, e, S1, st1⟩, ?_, hres, Ent.sat (by refine ent_take ?_; refine ent_take ?_; refine ent_take ?_; exact ent_tail) h⟩
                  simp <;> rfl
                · exact absurd (show (e : Int) = 0 by omega) he0
            · refine wk_seq ?_
              refine wk_region ?_
              refine wo_v (v_eql rfl rfl) ?_
              refine wo_v (v_assign rfl) ?_
              refine wo_nil ?_
              refine wk_if rfl (fun hk7 => ?_) (fun hk7 => ?_)
              · refine wk_seq ?_
                refine wk_region ?_
                refine wo_v (v_move rfl) ?_
                refine wo_w (w_call (s_store_Store_Flush (p := smallP) (S := S) (st := st) hD (by omega)) rfl (by repeat constructor) ?_)
                rintro ks hks
                obtain ⟨hor, hres⟩ := did_flush (k := kindOf a.kind) hI (by omega) hks
                refine wo_v (v_assign rfl) ?_
                refine wo_nil ?_
                refine wk_seq ?_
                refine wk_region ?_
                refine wo_v (v_loadN tyA_43 rfl (by repeat constructor) (by repeat constructor)) ?_
                refine wo_v (v_move rfl) ?_
                refine wo_v (v_move rfl) ?_
                refine wo_v (v_eql rfl rfl) ?_
                refine wo_v (v_move rfl) ?_
                refine wo_if (t := 172) rfl (fun he4 => ?_) (fun he4 => ?_)
                · refine wo_gF ?_
                  refine wo_gF ?_
                  refine wo_v (v_pickT rfl rfl) ?_
                  refine wo_w0 (w_storeN tyN_43 rfl rfl rfl rfl (by repeat constructor) (by repeat constructor) ?_)
                  refine wo_v (v_assign rfl) ?_
                  refine wo_v (v_assign rfl) ?_
                  refine wo_nil ?_
                  refine wk_ret Tryz.func12 rfl rfl (res_cellA tyA_43 rfl (by repeat constructor) rfl (res_tmp rfl (res_tmp rfl res_nil))) fun W h => ?_
                  exact ⟨⟨r, X, (S.flushL st ks).1, (S.flushL st ks).2.1, (S.flushL st ks).2.2⟩, rfl, hres, Ent.sat (by refine ent_take ?_; refine ent_take ?_; refine ent_take ?_; exact ent_tail) h⟩
                · refine wo_gv (v_move rfl) ?_
                  refine wo_gv (v_eql rfl rfl) ?_
                  refine wo_v (v_pickF rfl rfl) ?_
                  refine wo_w0 (w_storeN tyN_43 rfl rfl rfl rfl (by repeat constructor) (by repeat constructor) ?_)
                  refine wo_v (v_assign rfl) ?_
                  refine wo_v (v_assign rfl) ?_
                  refine wo_nil ?_
                  refine wk_ret Tryz.func12 rfl rfl (res_cellA tyA_43 rfl (by repeat constructor) rfl (res_tmp rfl (res_tmp rfl res_nil))) fun W h => ?_
                  have he : (S.flushL st ks).1 = 0 := hor.resolve_left (fun hh => he4 (by rw [hh]; rfl))
                  refine ⟨⟨r, X, (S.flushL st ks).1, (S.flushL st ks).2.1, (S.flushL st ks).2.2⟩, ?_, hres, Ent.sat (by refine ent_take ?_; refine ent_take ?_; refine ent_take ?_; exact ent_tail) h⟩
                  rw [he]; rfl
              · refine wk_seq ?_
                refine wk_region ?_
                refine wo_v (v_eql rfl rfl) ?_
                refine wo_v (v_assign rfl) ?_
                refine wo_nil ?_
                refine wk_if rfl (fun hk8 => ?_) (fun hk8 => ?_)
                · refine wk_seq ?_
                  refine wk_region ?_
                  refine wo_v (v_move rfl) ?_
                  refine wo_w (w_call (s_store_Store_Commit (p := smallP) (S := S) (by omega)) rfl (by repeat constructor) ?_)
                  rintro ⟨⟩ -
                  refine wo_nil ?_
                  refine wk_seq ?_
                  refine wk_region ?_
                  refine wo_v (v_loadN tyA_43 rfl (by repeat constructor) (by repeat constructor)) ?_
                  refine wo_w (w_call (s_sgraffitoref13_Commit (r := r) (X := X) hB) rfl (by repeat constructor) ?_)
                  rintro X1 -
                  refine wo_w0 (w_storeN tyN_43 rfl rfl rfl rfl (by repeat constructor) (by repeat constructor) ?_)
                  refine wo_v (v_assign rfl) ?_
                  refine wo_v (v_assign rfl) ?_
                  refine wo_nil ?_
                  refine wk_ret Tryz.func12 rfl rfl (res_cellA tyA_43 rfl (by repeat constructor) rfl (res_tmp rfl (res_tmp rfl res_nil))) fun W h => ?_
                  exact ⟨⟨r.commit, X1, 0, S.commit, st⟩, rfl, .commit (by omega), Ent.sat (by refine ent_take ?_; refine ent_take ?_; refine ent_take ?_; exact ent_tail) h⟩
                · exact absurd (show kindOf a.kind = 8 by omega) hk8
  · refine wk_seq ?_
    refine wk_region ?_
    refine wo_v (v_move rfl) ?_
    refine wo_v (v_geq rfl rfl) ?_
    refine wo_v (v_move rfl) ?_
    refine wo_if (t := 47) rfl (fun hg3 => ?_) (fun hg3 => ?_)
    · refine wo_gv (v_move rfl) ?_
      refine wo_gv (v_leq rfl rfl) ?_
      refine wo_v (v_pickT rfl rfl) ?_
      refine wo_nil ?_
      refine wk_if rfl (fun hg6 => ?_) (fun hg6 => ?_)
      · refine wk_seq ?_
        refine wk_region ?_
        refine wo_v (v_loadN tyA_43 rfl (by repeat constructor) (by repeat constructor)) ?_
        refine wo_w0 (w_storeN tyN_43 rfl rfl rfl rfl (by repeat constructor) (by repeat constructor) ?_)
        refine wo_v (v_assign rfl) ?_
        refine wo_v (v_assign rfl) ?_
        refine wo_nil ?_
        refine wk_ret Tryz.func12 rfl rfl (res_cellA tyA_43 rfl (by repeat constructor) rfl (res_tmp rfl (res_tmp rfl res_nil))) fun W h => ?_
        exact ⟨⟨r, X, 0, S, st⟩, rfl, DidR.same hI (by omega), Ent.sat (by refine ent_take ?_; refine ent_take ?_; refine ent_take ?_; exact ent_tail) h⟩
      · refine wk_skip ?_
        refine wk_seq ?_
        refine wk_seq ?_
        refine wk_region ?_
        refine wo_v (v_move rfl) ?_
        refine wo_v (v_leq rfl rfl) ?_
        refine wo_v (v_move rfl) ?_
        refine wo_if (t := 54) rfl (fun hk4 => ?_) (fun hk4 => ?_)
        · exact absurd hk4 (by omega)
        · refine wo_gF ?_
          refine wo_gF ?_
          refine wo_gF ?_
          refine wo_gF ?_
          refine wo_v (v_pickF rfl rfl) ?_
          refine wo_nil ?_
          refine wk_condF rfl ?_
          refine wk_skip ?_
          refine wk_seq ?_
          refine wk_seq ?_
          refine wk_region ?_
          refine wo_v (v_move rfl) ?_
          refine wo_nil ?_
          refine wk_block ?_
          refine wk_seq ?_
          refine wk_seq ?_
          refine wk_region ?_
          refine wo_v (v_eql rfl rfl) ?_
          refine wo_v (v_assign rfl) ?_
          refine wo_nil ?_
          refine wk_if rfl (fun hk3 => ?_) (fun hk3 => ?_)
          · exact absurd hk3 (by omega)
          · refine wk_region ?_
            refine wo_v (v_eql rfl rfl) ?_
            refine wo_v (v_assign rfl) ?_
            refine wo_nil ?_
            refine wk_if rfl (fun hk4b => ?_) (fun hk4b => ?_)
            · exact absurd hk4b (by omega)
            · refine wk_seq ?_
              refine wk_region ?_
              refine wo_v (v_eql rfl rfl) ?_
              refine wo_v (v_assign rfl) ?_
              refine wo_nil ?_
              refine wk_if rfl (fun hk5 => ?_) (fun hk5 => ?_)
              · exact absurd hk5 (by omega)
              · refine wk_seq ?_
                refine wk_region ?_
                refine wo_v (v_eql rfl rfl) ?_
                refine wo_v (v_assign rfl) ?_
                refine wo_nil ?_
                refine wk_if rfl (fun hk6 => ?_) (fun hk6 => ?_)
                · exact absurd hk6 (by omega)
                · refine wk_seq ?_
                  refine wk_region ?_
                  refine wo_v (v_eql rfl rfl) ?_
                  refine wo_v (v_assign rfl) ?_
                  refine wo_nil ?_
                  refine wk_if rfl (fun hk7 => ?_) (fun hk7 => ?_)
                  · refine wk_seq ?_
                    refine wk_region ?_
                    refine wo_v (v_move rfl) ?_
                    refine wo_w (w_call (s_store_Store_Flush (p := smallP) (S := S) (st := st) hD (by omega)) rfl (by repeat constructor) ?_)
                    rintro ks hks
                    obtain ⟨hor, hres⟩ := did_flush (k := kindOf a.kind) hI (by omega) hks
                    refine wo_v (v_assign rfl) ?_
                    refine wo_nil ?_
                    refine wk_seq ?_
                    refine wk_region ?_
                    refine wo_v (v_loadN tyA_43 rfl (by repeat constructor) (by repeat constructor)) ?_
                    refine wo_v (v_move rfl) ?_
                    refine wo_v (v_move rfl) ?_
                    refine wo_v (v_eql rfl rfl) ?_
                    refine wo_v (v_move rfl) ?_
                    refine wo_if (t := 172) rfl (fun he4 => ?_) (fun he4 => ?_)
                    · refine wo_gF ?_
                      refine wo_gF ?_
                      refine wo_v (v_pickT rfl rfl) ?_
                      refine wo_w0 (w_storeN tyN_43 rfl rfl rfl rfl (by repeat constructor) (by repeat constructor) ?_)
                      refine wo_v (v_assign rfl) ?_
                      refine wo_v (v_assign rfl) ?_
                      refine wo_nil ?_
                      refine wk_ret Tryz.func12 rfl rfl (res_cellA tyA_43 rfl (by repeat constructor) rfl (res_tmp rfl (res_tmp rfl res_nil))) fun W h => ?_
                      exact ⟨⟨r, X, (S.flushL st ks).1, (S.flushL st ks).2.1, (S.flushL st ks).2.2⟩, rfl, hres, Ent.sat (by refine ent_take ?_; refine ent_take ?_; refine ent_take ?_; exact ent_tail) h⟩
                    · refine wo_gv (v_move rfl) ?_
                      refine wo_gv (v_eql rfl rfl) ?_
                      refine wo_v (v_pickF rfl rfl) ?_
                      refine wo_w0 (w_storeN tyN_43 rfl rfl rfl rfl (by repeat constructor) (by repeat constructor) ?_)
                      refine wo_v (v_assign rfl) ?_
                      refine wo_v (v_assign rfl) ?_
                      refine wo_nil ?_
                      refine wk_ret Tryz.func12 rfl rfl (res_cellA tyA_43 rfl (by repeat constructor) rfl (res_tmp rfl (res_tmp rfl res_nil))) fun W h => ?_
                      have he : (S.flushL st ks).1 = 0 := hor.resolve_left (fun hh => he4 (by rw [hh]; rfl))
                      refine ⟨⟨r, X, (S.flushL st ks).1, (S.flushL st ks).2.1, (S.flushL st ks).2.2⟩, ?_, hres, Ent.sat (by refine ent_take ?_; refine ent_take ?_; refine ent_take ?_; exact ent_tail) h⟩
                      rw [he]; rfl
                  · refine wk_seq ?_
                    refine wk_region ?_
                    refine wo_v (v_eql rfl rfl) ?_
                    refine wo_v (v_assign rfl) ?_
                    refine wo_nil ?_
                    refine wk_if rfl (fun hk8 => ?_) (fun hk8 => ?_)
                    · refine wk_seq ?_
                      refine wk_region ?_
                      refine wo_v (v_move rfl) ?_
                      refine wo_w (w_call (s_store_Store_Commit (p := smallP) (S := S) (by omega)) rfl (by repeat constructor) ?_)
                      rintro ⟨⟩ -
                      refine wo_nil ?_
                      refine wk_seq ?_
                      refine wk_region ?_
                      refine wo_v (v_loadN tyA_43 rfl (by repeat constructor) (by repeat constructor)) ?_
                      refine wo_w (w_call (s_sgraffitoref13_Commit (r := r) (X := X) hB) rfl (by repeat constructor) ?_)
                      rintro X1 -
                      refine wo_w0 (w_storeN tyN_43 rfl rfl rfl rfl (by repeat constructor) (by repeat constructor) ?_)
                      refine wo_v (v_assign rfl) ?_
                      refine wo_v (v_assign rfl) ?_
                      refine wo_nil ?_
                      refine wk_ret Tryz.func12 rfl rfl (res_cellA tyA_43 rfl (by repeat constructor) rfl (res_tmp rfl (res_tmp rfl res_nil))) fun W h => ?_
                      exact ⟨⟨r.commit, X1, 0, S.commit, st⟩, rfl, .commit (by omega), Ent.sat (by refine ent_take ?_; refine ent_take ?_; refine ent_take ?_; exact ent_tail) h⟩
                    · exact absurd (show kindOf a.kind = 8 by omega) hk8
    · refine wo_gF ?_
      refine wo_gF ?_
      refine wo_v (v_pickF rfl rfl) ?_
      refine wo_nil ?_
      refine wk_condF rfl ?_
      refine wk_skip ?_
      refine wk_seq ?_
      refine wk_seq ?_
      refine wk_region ?_
      refine wo_v (v_move rfl) ?_
      refine wo_v (v_leq rfl rfl) ?_
      refine wo_v (v_move rfl) ?_
      refine wo_if (t := 54) rfl (fun hk4 => ?_) (fun hk4 => ?_)
      · refine wo_gv (v_fieldAddr tyF_47_2 rfl) ?_
        refine wo_gv (v_load tyS_45 rfl rfl) ?_
        refine wo_gv (v_len tyU_45 rfl) ?_
        refine wo_gv (v_gtr rfl rfl) ?_
        refine wo_v (v_pickT rfl rfl) ?_
        refine wo_nil ?_
        refine wk_if rfl (fun h77 => ?_) (fun h77 => ?_)
        · refine wk_seq ?_
          refine wk_region ?_
          refine wo_v (v_move rfl) ?_
          refine wo_v (v_fieldAddr tyF_47_2 rfl) ?_
          refine wo_v (v_load tyS_45 rfl rfl) ?_
          refine wo_w (w_call (s_store_Store_New (p := smallP) (S := S) (st := st) (load := a.bs) hD (by omega)) rfl (by repeat constructor) ?_)
          rintro ⟨q, e, S1, st1⟩ hN
          dsimp only at hN ⊢
          refine wo_v (v_move rfl) ?_
          refine wo_v (v_extract rfl rfl) ?_
          refine wo_v (v_extract rfl rfl) ?_
          refine wo_w (w_allocA tyZ_82 fun b18 => ?_)
          refine wo_w0 (w_storeN tyN_82 rfl rfl rfl rfl (by repeat constructor) (by repeat constructor) ?_)
          refine wo_v (v_assign rfl) ?_
          refine wo_nil ?_
          refine wk_seq ?_
          refine wk_region ?_
          refine wo_v (v_loadN tyA_43 rfl (by repeat constructor) (by repeat constructor)) ?_
          refine wo_v (v_move rfl) ?_
          refine wo_v (v_eql rfl rfl) ?_
          refine wo_w0 (w_storeN tyN_43 rfl rfl rfl rfl (by repeat constructor) (by repeat constructor) ?_)
          refine wo_v (v_assign rfl) ?_
          refine wo_v (v_assign rfl) ?_
          refine wo_nil ?_
          refine wk_ret Tryz.func12 rfl rfl (res_cellA tyA_43 rfl (by repeat constructor) rfl (res_tmp rfl (res_tmp rfl res_nil))) fun W h => ?_
          obtain ⟨rfl, rfl, rfl⟩ := new_long hI (by omega) hN
          exact ⟨⟨r, X, 0, S1, st1⟩, rfl, DidR.same hI (by omega), Ent.sat (by refine ent_take ?_; refine ent_take ?_; refine ent_take ?_; exact ent_tail) h⟩
        · refine wk_skip ?_
          refine wk_seq ?_
          refine wk_seq ?_
          refine wk_region ?_
          refine wo_v (v_move rfl) ?_
          refine wo_nil ?_
          refine wk_block ?_
          refine wk_seq ?_
          refine wk_seq ?_
          refine wk_region ?_
          refine wo_v (v_eql rfl rfl) ?_
          refine wo_v (v_assign rfl) ?_
          refine wo_nil ?_
          refine wk_if rfl (fun hk3 => ?_) (fun hk3 => ?_)
          · exact absurd hk3 (by omega)
          · refine wk_region ?_
            refine wo_v (v_eql rfl rfl) ?_
            refine wo_v (v_assign rfl) ?_
            refine wo_nil ?_
            refine wk_if rfl (fun hk4b => ?_) (fun hk4b => ?_)
            · exact absurd hk4b (by omega)
            · refine wk_seq ?_
              refine wk_region ?_
              refine wo_v (v_eql rfl rfl) ?_
              refine wo_v (v_assign rfl) ?_
              refine wo_nil ?_
              refine wk_if rfl (fun hk5 => ?_) (fun hk5 => ?_)
              · exact absurd hk5 (by omega)
              · refine wk_seq ?_
                refine wk_region ?_
                refine wo_v (v_eql rfl rfl) ?_
                refine wo_v (v_assign rfl) ?_
                refine wo_nil ?_
                refine wk_if rfl (fun hk6 => ?_) (fun hk6 => ?_)
                · exact absurd hk6 (by omega)
                · refine wk_seq ?_
                  refine wk_region ?_
                  refine wo_v (v_eql rfl rfl) ?_
                  refine wo_v (v_assign rfl) ?_
                  refine wo_nil ?_
                  refine wk_if rfl (fun hk7 => ?_) (fun hk7 => ?_)
                  · exact absurd hk7 (by omega)
                  · refine wk_seq ?_
                    refine wk_region ?_
                    refine wo_v (v_eql rfl rfl) ?_
                    refine wo_v (v_assign rfl) ?_
                    refine wo_nil ?_
                    refine wk_if rfl (fun hk8 => ?_) (fun hk8 => ?_)
                    · exact absurd hk8 (by omega)
                    · refine wk_skip ?_
                      refine wk_inBlock ?_
                      refine wk_seq ?_
                      refine wk_region ?_
                      refine wo_v (v_loadN tyA_43 rfl (by repeat constructor) (by repeat constructor)) ?_
                      refine wo_v (v_fieldAddr tyF_47_2 rfl) ?_
                      refine wo_v (v_load tyS_45 rfl rfl) ?_
                      refine wo_v (v_str tyU_45 tyU_5 tyU_9 rfl (src_ro (x := a.sv))) ?_
                      refine wo_w (w_call (s_sgraffitoref13_Make (r := r) (X := X) (load := a.bs) hB) rfl (by repeat constructor) ?_)
                      rintro ⟨r1, X1, q, ok⟩ hM
                      dsimp only at hM ⊢
                      refine wo_v (v_move rfl) ?_
                      refine wo_v (v_extract rfl rfl) ?_
                      refine wo_v (v_extract rfl rfl) ?_
                      refine wo_v (v_extract rfl rfl) ?_
                      refine wo_w (w_allocA tyZ_43 fun bn => ?_)
                      refine wo_w (w_allocA tyZ_86 fun bq => ?_)
                      refine wo_w0 (w_storeN tyN_43 rfl rfl rfl rfl (by repeat constructor) (by repeat constructor) ?_)
                      refine wo_w0 (w_storeN tyN_86 rfl rfl rfl rfl (by repeat constructor) (by repeat constructor) ?_)
                      refine wo_v (v_assign rfl) ?_
                      refine wo_nil ?_
                      refine wk_seq ?_
                      refine wk_region ?_
                      refine wo_v (v_move rfl) ?_
                      refine wo_v (v_fieldAddr tyF_47_2 rfl) ?_
                      refine wo_v (v_load tyS_45 rfl rfl) ?_
                      refine wo_w (w_call (s_store_Store_New (p := smallP) (S := S) (st := st) (load := a.bs) hD (by omega)) rfl (by repeat constructor) ?_)
                      rintro ⟨u, e, S1, st1⟩ hN
                      dsimp only at hN ⊢
                      refine wo_v (v_move rfl) ?_
                      refine wo_v (v_extract rfl rfl) ?_
                      refine wo_v (v_extract rfl rfl) ?_
                      refine wo_w (w_allocA tyZ_82 fun bw => ?_)
                      refine wo_w0 (w_storeN tyN_82 rfl rfl rfl rfl (by repeat constructor) (by repeat constructor) ?_)
                      refine wo_v (v_assign rfl) ?_
                      refine wo_nil ?_
                      refine wk_seq ?_
                      refine wk_seq ?_
                      refine wk_region ?_
                      refine wo_v (v_move rfl) ?_
                      refine wo_v (v_not rfl) ?_
                      refine wo_nil ?_
                      refine wk_if rfl (fun hok => ?_) (fun hok => ?_)
                      · refine wk_seq ?_
                        refine wk_region ?_
                        refine wo_v (v_loadN tyA_43 rfl (by repeat constructor) (by repeat constructor)) ?_
                        refine wo_v (v_move rfl) ?_
                        refine wo_v (v_eql rfl rfl) ?_
                        refine wo_w0 (w_storeN tyN_43 rfl rfl rfl rfl (by repeat constructor) (by repeat constructor) ?_)
                        refine wo_v (v_assign rfl) ?_
                        refine wo_v (v_assign rfl) ?_
                        refine wo_nil ?_
                        refine wk_ret Tryz.func12 rfl rfl (res_cellA tyA_43 rfl (by repeat constructor) rfl (res_tmp rfl (res_tmp rfl res_nil))) fun W h => ?_
                        subst hok
                        obtain ⟨rfl, rfl, rfl⟩ := did_new0 hI (by omega) hN hM
                        exact ⟨⟨r, X, 0, S1, st1⟩, rfl, DidR.same hI (by omega), Ent.sat (by refine ent_take ?_; refine ent_take ?_; refine ent_take ?_; exact ent_tail) h⟩
                      · subst hok
                        obtain ⟨hor, hres⟩ := did_new (k := kindOf a.kind) hI (by omega) (by omega) hN hM
                        have he : e = 4 ∨ e = 0 := hor.imp id And.left
                        refine wk_skip ?_
                        refine wk_seq ?_
                        refine wk_draw (n := 17) (pend := 131071) ⟨16, fun w => Sat G w [blk bn (refC r1 X1) 43, blk bw [.int .i64 u.page, .int .i64 u.stamp] 82, blk bq (pgC q) 86]⟩ mixed (by kernel_rfl) rfl (fun w s_ => Ent.sat (by refine ent_take ?_; refine ent_take ?_; refine ent_take ?_; exact ent_nil) s_) rfl ?_
                        refine wd_a 2 rfl (v_move rfl) ?_
                        refine wd_a 3 rfl (v_eql rfl rfl) ?_
                        refine wd_a 4 rfl (v_move rfl) ?_
                        refine wd_if (t := 207) rfl (fun he4 => ?_) (fun he4 => ?_)
                        · refine wd_gF 5 rfl rfl rfl rfl ?_
                          refine wd_gF 6 rfl rfl rfl rfl ?_
                          refine wd_gF 7 rfl rfl rfl rfl ?_
                          refine wd_gU 8 rfl rfl rfl ?_
                          refine wd_gU 9 rfl rfl rfl ?_
                          refine wd_p 1 rfl (v_move rfl) ?_
                          refine wd_fr 0 rfl (fun w h => h) (v_loadN tyA_43 rfl (by repeat constructor) (by repeat constructor)) ?_
                          refine wd_lgU 10 rfl rfl rfl ?_
                          refine wd_gU 11 rfl rfl rfl ?_
                          refine wd_gF 12 rfl rfl rfl rfl ?_
                          refine wd_p 13 rfl (v_pickT rfl rfl) ?_
                          refine wd_l0 14 rfl (w_storeN tyN_43 rfl rfl rfl rfl (by repeat constructor) (by repeat constructor) ?_)
                          refine ⟨fun w s_ _ => Ent.sat (by refine ent_take ?_; refine ent_take ?_; refine ent_take ?_; exact ent_nil) s_, ?_⟩
                          refine wd_a 15 rfl (v_assign rfl) ?_
                          refine wd_al 16 rfl (v_assign rfl) ?_
                          refine wd_done ?_
                          refine wk_ret Tryz.func12 rfl rfl (res_cellA tyA_43 rfl (by repeat constructor) rfl (res_tmp rfl (res_tmp rfl res_nil))) fun W h => ?_
                          exact ⟨⟨r1, X1, e, S1, st1⟩, rfl, hres, Ent.sat (by refine ent_take ?_; refine ent_take ?_; refine ent_take ?_; exact ent_tail) h⟩
                        · refine wd_ag 5 rfl rfl rfl (v_move rfl) ?_
                          refine wd_ag 6 rfl rfl rfl (v_eql rfl rfl) ?_
                          refine wd_ag 7 rfl rfl rfl (v_move rfl) ?_
                          refine wd_if (t := 210) rfl (fun he0 => ?_) (fun he0 => ?_)
                          · refine wd_ag 9 rfl rfl rfl (v_loadN tyA_86 rfl (by repeat constructor) (by repeat constructor)) ?_
                            refine wd_p 1 rfl (v_move rfl) ?_
                            refine wd_fr 0 rfl (fun w h => h) (v_loadN tyA_43 rfl (by repeat constructor) (by repeat constructor)) ?_
                            refine wd_frg 8 rfl rfl rfl (fun w h => h) (v_loadN tyA_82 rfl (by repeat constructor) (by repeat constructor)) ?_
                            refine wd_lg 10 rfl rfl rfl (w_call (s_sgraffitolaw13_ref (p := q)) rfl (by repeat constructor) ?_)
                            rintro ⟨⟩ -
                            refine ⟨fun w s_ _ => Ent.sat (by refine ent_take ?_; refine ent_take ?_; refine ent_take ?_; exact ent_nil) s_, ?_⟩
                            refine wd_pg 11 rfl rfl rfl (v_eqPair tyP_82 rfl rfl) ?_
                            refine wd_pg 12 rfl rfl rfl (v_pickT rfl rfl) ?_
                            refine wd_p 13 rfl (v_pickF rfl rfl) ?_
                            refine wd_l0 14 rfl (w_storeN tyN_43 rfl rfl rfl rfl (by repeat constructor) (by repeat constructor) ?_)
                            refine ⟨fun w s_ _ => Ent.sat (by refine ent_take ?_; refine ent_take ?_; refine ent_take ?_; exact ent_nil) s_, ?_⟩
                            refine wd_a 15 rfl (v_assign rfl) ?_
                            refine wd_al 16 rfl (v_assign rfl) ?_
                            refine wd_done ?_
                            refine wk_ret Tryz.func12 rfl rfl (res_cellA tyA_43 rfl (by repeat constructor) rfl (res_tmp rfl (res_tmp rfl res_nil))) fun W h => ?_
                            obtain rfl : u = ⟨q.page, q.stamp⟩ := (hor.resolve_left (by omega)).2
                            refine ⟨⟨r1, X1, e, S1, st1⟩, ?_, hres, Ent.sat (by refine ent_take ?_; refine ent_take ?_; refine ent_take ?_; exact ent_tail) h⟩
                            simp <;> rfl
                          · exact absurd (show (e : Int) = 0 by omega) he0
      · exact absurd (show kindOf a.kind ≤ 4 by omega) hk4

end Go.Proofs.YtealmijbkebipaaGreatDoor
