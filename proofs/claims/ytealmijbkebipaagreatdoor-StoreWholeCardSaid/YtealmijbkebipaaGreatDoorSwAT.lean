/- The reference 05: it answers, whichever. Law 13: foul answers, whichever; the device stays. -/
import Derived.Test.YtealmijbkebipaaGreatDoorSwAS
namespace Go.Proofs.YtealmijbkebipaaGreatDoor
open Go
attribute [local irreducible] own pe nf

abbrev rleafV (kind place stamp : Int) (load : List UInt8) : Value := .agg (List.toArray [.int .i64 kind, .int .i64 place, .int .i64 stamp, str load])
structure BldX where
  y : SV
  bs : List UInt8
  e : Int

theorem s_sgraffitoref05_Build {n : Nat} {kind place stamp : Int} {load : List UInt8} (hn : n ≤ 1048576) (hst : stamp ≤ 9223372036854775807) (hl : load.length ≤ 1048576) : FnSpec Tryz.prog 70 #[.int .i64 n, rleafV kind place stamp load] []
    (fun y : BldX => .tuple #[y.y.v, .int .i64 y.e]) (fun y => y.y.n = y.bs.length ∧ y.bs.length ≤ 4194304) (fun y R => pe (bsl y.y y.bs) :: R) := by
  refine fn_spec Tryz.func70 rfl rfl rfl rfl fun G R => ?_
  dsimp only [List.append_eq, List.cons_append, List.nil_append]
  refine wk_seq ?_
  refine wk_region ?_
  refine wo_w (w_boxA rfl fun b1 => ?_)
  refine wo_v (v_assign rfl) ?_
  refine wo_v (v_assign rfl) ?_
  refine wo_nil ?_
  refine wk_seq ?_
  refine wk_seq ?_
  refine wk_region ?_
  refine wo_v (v_move rfl) ?_
  refine wo_v (v_lss rfl rfl) ?_
  refine wo_v (v_move rfl) ?_
  refine wo_if (t := 10) rfl (fun g1 => ?_) (fun g1 => ?_)
  · refine wo_gF ?_
    refine wo_gF ?_
    refine wo_v (v_pickT rfl rfl) ?_
    refine wo_nil ?_
    refine wk_condT rfl ?_
    refine wk_seq ?_
    refine wk_region ?_
    refine wo_v (v_assign rfl) ?_
    refine wo_v (v_assign rfl) ?_
    refine wo_nil ?_
    refine wk_ret Tryz.func70 rfl rfl (res_tmp rfl (res_tmp rfl res_nil)) fun W h => ?_
    exact ⟨⟨nilSV, [], 3⟩, rfl, ⟨rfl, Nat.zero_le _⟩, Ent.sat (ent_roNil rfl ent_tail) h⟩
  · refine wo_gv (v_move rfl) ?_
    refine wo_gv (v_gtr rfl rfl) ?_
    refine wo_v (v_pickF rfl rfl) ?_
    refine wo_nil ?_
    refine wk_if rfl (fun g2 => ?_) (fun g2 => ?_)
    · refine wk_seq ?_
      refine wk_region ?_
      refine wo_v (v_assign rfl) ?_
      refine wo_v (v_assign rfl) ?_
      refine wo_nil ?_
      refine wk_ret Tryz.func70 rfl rfl (res_tmp rfl (res_tmp rfl res_nil)) fun W h => ?_
      exact ⟨⟨nilSV, [], 3⟩, rfl, ⟨rfl, Nat.zero_le _⟩, Ent.sat (ent_roNil rfl ent_tail) h⟩
    · refine wk_skip ?_
      refine wk_seq ?_
      refine wk_seq ?_
      refine wk_region ?_
      refine wo_v (v_fieldAddr tyF_101_0 rfl) ?_
      refine wo_v (v_load tyS_3 rfl rfl) ?_
      refine wo_v (v_lss rfl rfl) ?_
      refine wo_v (v_move rfl) ?_
      refine wo_if (t := 17) rfl (fun k1 => ?_) (fun k1 => ?_)
      · refine wo_gF ?_
        refine wo_gF ?_
        refine wo_gF ?_
        refine wo_v (v_pickT rfl rfl) ?_
        refine wo_v (v_move rfl) ?_
        refine wo_gF ?_
        refine wo_gF ?_
        refine wo_gF ?_
        refine wo_v (v_pickT rfl rfl) ?_
        refine wo_v (v_move rfl) ?_
        refine wo_gF ?_
        refine wo_gF ?_
        refine wo_gF ?_
        refine wo_v (v_pickT rfl rfl) ?_
        refine wo_v (v_move rfl) ?_
        refine wo_gF ?_
        refine wo_gF ?_
        refine wo_gF ?_
        refine wo_v (v_pickT rfl rfl) ?_
        refine wo_nil ?_
        refine wk_condT rfl ?_
        refine wk_seq ?_
        refine wk_region ?_
        refine wo_v (v_assign rfl) ?_
        refine wo_v (v_assign rfl) ?_
        refine wo_nil ?_
        refine wk_ret Tryz.func70 rfl rfl (res_tmp rfl (res_tmp rfl res_nil)) fun W h => ?_
        exact ⟨⟨nilSV, [], 1⟩, rfl, ⟨rfl, Nat.zero_le _⟩, Ent.sat (ent_roNil rfl ent_tail) h⟩
      · refine wo_gv (v_fieldAddr tyF_101_0 rfl) ?_
        refine wo_gv (v_load tyS_3 rfl rfl) ?_
        refine wo_gv (v_gtr rfl rfl) ?_
        refine wo_v (v_pickF rfl rfl) ?_
        refine wo_v (v_move rfl) ?_
        refine wo_if (t := 22) rfl (fun k2 => ?_) (fun k2 => ?_)
        · refine wo_gF ?_
          refine wo_gF ?_
          refine wo_gF ?_
          refine wo_v (v_pickT rfl rfl) ?_
          refine wo_v (v_move rfl) ?_
          refine wo_gF ?_
          refine wo_gF ?_
          refine wo_gF ?_
          refine wo_v (v_pickT rfl rfl) ?_
          refine wo_v (v_move rfl) ?_
          refine wo_gF ?_
          refine wo_gF ?_
          refine wo_gF ?_
          refine wo_v (v_pickT rfl rfl) ?_
          refine wo_nil ?_
          refine wk_condT rfl ?_
          refine wk_seq ?_
          refine wk_region ?_
          refine wo_v (v_assign rfl) ?_
          refine wo_v (v_assign rfl) ?_
          refine wo_nil ?_
          refine wk_ret Tryz.func70 rfl rfl (res_tmp rfl (res_tmp rfl res_nil)) fun W h => ?_
          exact ⟨⟨nilSV, [], 1⟩, rfl, ⟨rfl, Nat.zero_le _⟩, Ent.sat (ent_roNil rfl ent_tail) h⟩
        · refine wo_gv (v_fieldAddr tyF_101_1 rfl) ?_
          refine wo_gv (v_load tyS_3 rfl rfl) ?_
          refine wo_gv (v_lss rfl rfl) ?_
          refine wo_v (v_pickF rfl rfl) ?_
          refine wo_v (v_move rfl) ?_
          refine wo_if (t := 27) rfl (fun k3 => ?_) (fun k3 => ?_)
          · refine wo_gF ?_
            refine wo_gF ?_
            refine wo_gF ?_
            refine wo_v (v_pickT rfl rfl) ?_
            refine wo_v (v_move rfl) ?_
            refine wo_gF ?_
            refine wo_gF ?_
            refine wo_gF ?_
            refine wo_v (v_pickT rfl rfl) ?_
            refine wo_nil ?_
            refine wk_condT rfl ?_
            refine wk_seq ?_
            refine wk_region ?_
            refine wo_v (v_assign rfl) ?_
            refine wo_v (v_assign rfl) ?_
            refine wo_nil ?_
            refine wk_ret Tryz.func70 rfl rfl (res_tmp rfl (res_tmp rfl res_nil)) fun W h => ?_
            exact ⟨⟨nilSV, [], 1⟩, rfl, ⟨rfl, Nat.zero_le _⟩, Ent.sat (ent_roNil rfl ent_tail) h⟩
          · refine wo_gv (v_fieldAddr tyF_101_1 rfl) ?_
            refine wo_gv (v_load tyS_3 rfl rfl) ?_
            refine wo_gv (v_gtr rfl rfl) ?_
            refine wo_v (v_pickF rfl rfl) ?_
            refine wo_v (v_move rfl) ?_
            refine wo_if (t := 32) rfl (fun k4 => ?_) (fun k4 => ?_)
            · refine wo_gF ?_
              refine wo_gF ?_
              refine wo_gF ?_
              refine wo_v (v_pickT rfl rfl) ?_
              refine wo_nil ?_
              refine wk_condT rfl ?_
              refine wk_seq ?_
              refine wk_region ?_
              refine wo_v (v_assign rfl) ?_
              refine wo_v (v_assign rfl) ?_
              refine wo_nil ?_
              refine wk_ret Tryz.func70 rfl rfl (res_tmp rfl (res_tmp rfl res_nil)) fun W h => ?_
              exact ⟨⟨nilSV, [], 1⟩, rfl, ⟨rfl, Nat.zero_le _⟩, Ent.sat (ent_roNil rfl ent_tail) h⟩
            · refine wo_gv (v_fieldAddr tyF_101_2 rfl) ?_
              refine wo_gv (v_load tyS_3 rfl rfl) ?_
              refine wo_gv (v_lss rfl rfl) ?_
              refine wo_v (v_pickF rfl rfl) ?_
              refine wo_nil ?_
              refine wk_if rfl (fun k5 => ?_) (fun k5 => ?_)
              · refine wk_seq ?_
                refine wk_region ?_
                refine wo_v (v_assign rfl) ?_
                refine wo_v (v_assign rfl) ?_
                refine wo_nil ?_
                refine wk_ret Tryz.func70 rfl rfl (res_tmp rfl (res_tmp rfl res_nil)) fun W h => ?_
                exact ⟨⟨nilSV, [], 1⟩, rfl, ⟨rfl, Nat.zero_le _⟩, Ent.sat (ent_roNil rfl ent_tail) h⟩
              · refine wk_skip ?_
                refine wk_seq ?_
                refine wk_seq ?_
                refine wk_region ?_
                refine wo_v (v_fieldAddr tyF_101_3 rfl) ?_
                refine wo_v (v_load tyS_9 rfl rfl) ?_
                refine wo_v (v_lenStr tyU_9 rfl) ?_
                refine wo_v (v_move rfl) ?_
                refine wo_v (v_subI rfl rfl) ?_
                refine wo_v (v_gtr rfl rfl) ?_
                refine wo_nil ?_
                refine wk_if rfl (fun k6 => ?_) (fun k6 => ?_)
                · refine wk_seq ?_
                  refine wk_region ?_
                  refine wo_v (v_assign rfl) ?_
                  refine wo_v (v_assign rfl) ?_
                  refine wo_nil ?_
                  refine wk_ret Tryz.func70 rfl rfl (res_tmp rfl (res_tmp rfl res_nil)) fun W h => ?_
                  exact ⟨⟨nilSV, [], 9⟩, rfl, ⟨rfl, Nat.zero_le _⟩, Ent.sat (ent_roNil rfl ent_tail) h⟩
                · obtain ⟨k, hk⟩ := Int.eq_ofNat_of_zero_le (a := kind) (by omega)
                  obtain ⟨p, hp⟩ := Int.eq_ofNat_of_zero_le (a := place) (by omega)
                  obtain ⟨q, hq⟩ := Int.eq_ofNat_of_zero_le (a := stamp) (by omega)
                  rw [hk, hp, hq]
                  have hkb : k < 18446744073709551616 := by omega
                  have hpb : p < 18446744073709551616 := by omega
                  have hqb : q < 18446744073709551616 := by omega
                  refine wk_skip ?_
                  refine wk_seq ?_
                  refine wk_region ?_
                  refine wo_v (v_fieldAddr tyF_101_0 rfl) ?_
                  refine wo_v (v_load tyS_3 rfl rfl) ?_
                  refine wo_v (v_convN tyU_33 tyU_3 rfl (wrapN_u64 (by omega))) ?_
                  refine wo_w (w_call (s_sgraffitoref03_Number (n := k) (k := 1) hkb (.inl rfl)) rfl (by repeat constructor) ?_)
                  rintro z0 h0
                  refine wo_v (v_assign rfl) ?_
                  refine wo_nil ?_
                  refine wk_seq ?_
                  refine wk_region ?_
                  refine wo_v (v_move rfl) ?_
                  refine wo_v (v_fieldAddr tyF_101_3 rfl) ?_
                  refine wo_v (v_load tyS_9 rfl rfl) ?_
                  refine wo_v (v_lenStr tyU_9 rfl) ?_
                  refine wo_v (v_convN tyU_33 tyU_3 rfl (wrapN_u64 (by omega))) ?_
                  refine wo_w (w_call (s_sgraffitoref03_Number (n := load.length) (k := 2) (by omega) (.inr (.inl rfl))) rfl (by repeat constructor) ?_)
                  rintro z1 h1
                  refine wo_w (w_append (x := z0) tyU_45 tyU_45 (.inl ⟨_, rfl⟩) tyB_5 tyN_5 tyZ_5 rfl (by decide) rfl rfl ((src_osl (x := z1))) (allOne_u8s _) (by repeat constructor) (by (try dsimp only); omega) (by (try dsimp only); omega) (by rw [u8s_length, numB_length, h1]) fun b2 hb2 => ?_)
                  refine wo_v (v_assign rfl) ?_
                  refine wo_nil ?_
                  refine wk_seq ?_
                  refine wk_region ?_
                  refine wo_v (v_move rfl) ?_
                  refine wo_v (v_fieldAddr tyF_101_1 rfl) ?_
                  refine wo_v (v_load tyS_3 rfl rfl) ?_
                  refine wo_v (v_convN tyU_33 tyU_3 rfl (wrapN_u64 (by omega))) ?_
                  refine wo_w (w_call (s_sgraffitoref03_Number (n := p) (k := 4) hpb (.inr (.inr (.inl rfl)))) rfl (by repeat constructor) ?_)
                  rintro z2 h2
                  refine wo_w (w_append (x := b2) tyU_45 tyU_45 (.inl ⟨_, rfl⟩) tyB_5 tyN_5 tyZ_5 rfl (by decide) rfl rfl ((src_osl (x := z2))) (allOne_u8s _) (by repeat constructor) (by (try dsimp only); omega) (by (try dsimp only); omega) (by rw [u8s_length, numB_length, h2]) fun b3 hb3 => ?_)
                  refine wo_v (v_assign rfl) ?_
                  refine wo_nil ?_
                  refine wk_seq ?_
                  refine wk_region ?_
                  refine wo_v (v_move rfl) ?_
                  refine wo_v (v_fieldAddr tyF_101_2 rfl) ?_
                  refine wo_v (v_load tyS_3 rfl rfl) ?_
                  refine wo_v (v_convN tyU_33 tyU_3 rfl (wrapN_u64 (by omega))) ?_
                  refine wo_w (w_call (s_sgraffitoref03_Number (n := q) (k := 8) hqb (.inr (.inr (.inr rfl)))) rfl (by repeat constructor) ?_)
                  rintro z3 h3
                  refine wo_w (w_append (x := b3) tyU_45 tyU_45 (.inl ⟨_, rfl⟩) tyB_5 tyN_5 tyZ_5 rfl (by decide) rfl rfl ((src_osl (x := z3))) (allOne_u8s _) (by repeat constructor) (by (try dsimp only); omega) (by (try dsimp only); omega) (by rw [u8s_length, numB_length, h3]) fun b4 hb4 => ?_)
                  refine wo_v (v_assign rfl) ?_
                  refine wo_nil ?_
                  refine wk_seq ?_
                  refine wk_region ?_
                  refine wo_v (v_move rfl) ?_
                  refine wo_v (v_fieldAddr tyF_101_3 rfl) ?_
                  refine wo_v (v_load tyS_9 rfl rfl) ?_
                  refine wo_w (w_bytes tyU_9 tyU_45 tyU_5 rfl (by omega) fun x hx => ?_)
                  refine wo_w (w_append (x := b4) tyU_45 tyU_45 (.inl ⟨_, rfl⟩) tyB_5 tyN_5 tyZ_5 rfl (by decide) rfl rfl ((src_ro (x := x))) (allOne_u8s _) (by repeat constructor) (by (try dsimp only); omega) (by (try dsimp only); omega) (by rw [u8s_length, hx]; omega) fun b5 hb5 => ?_)
                  have hb5n : b5.n = 15 + load.length := by omega
                  have hcells : (((u8s (numB k 1) ++ u8s (numB load.length 2)) ++ u8s (numB p 4)) ++ u8s (numB q 8)) ++ u8s load = u8s (numB k 1 ++ numB load.length 2 ++ numB p 4 ++ numB q 8 ++ load) := by simp only [u8s_append]
                  rw [hcells]
                  have hlen : (numB k 1 ++ numB load.length 2 ++ numB p 4 ++ numB q 8 ++ load).length = 15 + load.length := by simp; omega
                  generalize numB k 1 ++ numB load.length 2 ++ numB p 4 ++ numB q 8 ++ load = cs at hlen ⊢
                  refine wo_v (v_assign rfl) ?_
                  refine wo_nil ?_
                  refine wk_seq ?_
                  refine wk_block ?_
                  refine wk_loop (fun a : SV × List UInt8 => a.1.n = a.2.length ∧ a.2.length ≤ n - 4) (fun a => [(0, .int .i64 n), (6, a.1.v)]) (fun a => osl a.1 (u8s a.2) 1 5 :: R) (fun a => n - a.2.length) (b5, cs) ⟨by dsimp only; omega, by dsimp only; omega⟩ ⟨rfl, rfl, trivial⟩ (by refine ent_take ?_; exact ent_tail) fun a0 hI next => ?_
                  obtain ⟨w, ds⟩ := a0
                  obtain ⟨hw1, hw2⟩ := hI
                  dsimp only at hw1 hw2 next ⊢
                  refine wk_seq ?_
                  refine wk_seq ?_
                  refine wk_region ?_
                  refine wo_v (v_move rfl) ?_
                  refine wo_v (v_len tyU_45 rfl) ?_
                  refine wo_v (v_move rfl) ?_
                  refine wo_v (v_subI rfl rfl) ?_
                  refine wo_v (v_lss rfl rfl) ?_
                  refine wo_nil ?_
                  refine wk_if rfl (fun hb => ?_) (fun hb => ?_)
                  · refine wk_skip ?_
                    refine wk_block ?_
                    refine wk_region ?_
                    refine wo_v (v_move rfl) ?_
                    refine wo_w (w_buildSlice1 tyU_45 tyN_5 tyZ_5 rfl rfl rfl rfl fun b6 => ?_)
                    refine wo_w (w_append (x := w) tyU_45 tyU_45 (.inl ⟨_, rfl⟩) tyB_5 tyN_5 tyZ_5 rfl (by decide) rfl rfl ((src_blk (vs := [.int .u8 0]) (new := u8s [0]) rfl (Nat.le_refl _))) rfl (by repeat constructor) (by (try dsimp only); omega) (by (try dsimp only); omega) rfl fun b7 hb7 => ?_)
                    refine wo_v (v_assign rfl) ?_
                    refine wo_nil ?_
                    refine wk_inBlock ?_
                    refine (next (b7, ds ++ [0]) ⟨by dsimp only; rw [hb7, hw1, List.length_append]; rfl, by dsimp only; rw [List.length_append]; show ds.length + 1 ≤ _; omega⟩ (by dsimp only; rw [List.length_append]; show n - (ds.length + 1) < _; omega)).use ⟨rfl, rfl, trivial⟩ ?_
                    dsimp only
                    rw [u8s_append]
                    exact (by refine ent_take ?_; exact ent_tail)
                  · refine wk_exit rfl ?_
                    refine wk_seq ?_
                    refine wk_region ?_
                    refine wo_v (v_move rfl) ?_
                    refine wo_w (w_call (s_sgraffitoref01_Sum (x := w) (bs := ds) (T := 5)) rfl (by repeat constructor) ?_)
                    rintro c hc
                    refine wo_v (v_assign rfl) ?_
                    refine wo_nil ?_
                    refine wk_seq ?_
                    refine wk_region ?_
                    refine wo_v (v_move rfl) ?_
                    refine wo_v (v_move rfl) ?_
                    refine wo_v (v_convN tyU_33 tyU_3 rfl (wrapN_u64 (by omega))) ?_
                    refine wo_w (w_call (s_sgraffitoref03_Number (n := c) (k := 4) (by omega) (.inr (.inr (.inl rfl)))) rfl (by repeat constructor) ?_)
                    rintro z4 h4
                    refine wo_w (w_append (x := w) tyU_45 tyU_45 (.inl ⟨_, rfl⟩) tyB_5 tyN_5 tyZ_5 rfl (by decide) rfl rfl ((src_osl (x := z4))) (allOne_u8s _) (by repeat constructor) (by (try dsimp only); omega) (by (try dsimp only); omega) (by rw [u8s_length, numB_length, h4]) fun b8 hb8 => ?_)
                    refine wo_v (v_assign rfl) ?_
                    refine wo_v (v_assign rfl) ?_
                    refine wo_nil ?_
                    refine wk_ret Tryz.func70 rfl rfl (res_tmp rfl (res_tmp rfl res_nil)) fun W h => ?_
                    rw [← u8s_append] at h
                    have hs := up_freeze _ _ h
                    exact ⟨⟨b8, ds ++ numB c 4, 0⟩, rfl, ⟨by dsimp only; rw [hb8, hw1, h4, List.length_append, numB_length], by dsimp only; rw [List.length_append, numB_length]; omega⟩, Ent.sat (by refine ent_take ?_; exact ent_tail) hs⟩

theorem v_sliceS {P : Program} {C : Cx} {e : Env} {L : List HP} {ty t el s : Nat} {x : SV} {y lo hi : Operand} {k1 k2 : IntKind} {l h : Nat} (hu : TyUnd P t (.slice el)) (hs : TySize P el s) (hx : ev e y = some x.v) (hlo : ev e lo = some (.int k1 (l : Int))) (hhi : ev e hi = some (.int k2 (h : Int))) (h2 : l ≤ h) (h3 : h ≤ x.c) :
    OpV P C (.slice t y (some lo) (some hi) none) ty e L (x.sl l h s).v := fun w tm ds pos after guard dst st a' => by
  obtain ⟨xa, xn, xc⟩ := x
  have r1 := fun code => run_sliceBound (P := P) (k := k2) (i := (h : Int)) (y := xc) (code := code) (by omega) (by simp only at h3; omega) w
  have r2 := fun code => run_sliceBound (P := P) (k := k1) (i := (l : Int)) (y := h) (code := code) (by omega) (by omega) w
  cases xa <;> simp [execOp, a'.ev hx, a'.ev hlo, a'.ev hhi, Instr.sliceAt, hu.run, Instr.slice, Instr.sliceBounds, r1, r2, hs.run, SV.sl]
theorem ent_bslS {x : SV} {bs : List UInt8} {l h : Nat} {L : List HP} (hp : HasPe L (bsl x bs)) (hlh : l ≤ h) (hh : h ≤ x.n) : Ent L (pe (bsl (x.sl l h 1) ((bs.drop l).take (h - l))) :: L) := by
  have := ent_sl hp hlh hh
  simpa [u8s_take, u8s_drop] using this

structure RdX where
  kind : Int
  place : Int
  stamp : Int
  load : List UInt8
  e : Int
theorem s_sgraffitoref05_Read {x0 : SV} {sec : List UInt8} (hn : sec.length ≤ 1048576) : FnSpec Tryz.prog 37 #[x0.v] [pe (bsl x0 sec)]
    (fun y : RdX => .tuple #[rleafV y.kind y.place y.stamp y.load, .int .i64 y.e]) (fun _ => True) (fun _ R => R) := by
  refine fn_spec Tryz.func37 rfl rfl rfl rfl fun G R => ?_
  dsimp only [List.append_eq, List.cons_append, List.nil_append]
  refine wk_ro (x := x0) (cells := u8s sec) (size := 1) (by repeat constructor) fun hx0 => ?_
  have hxn : x0.n = sec.length := by have := hx0.1; simpa using this.symm
  have hxc := hx0.2.1
  refine wk_seq ?_
  refine wk_region ?_
  refine wo_w (w_allocA tyZ_101 fun b1 => ?_)
  refine wo_v (v_assign rfl) ?_
  refine wo_nil ?_
  refine wk_seq ?_
  refine wk_seq ?_
  refine wk_region ?_
  refine wo_v (v_move rfl) ?_
  refine wo_v (v_len tyU_45 rfl) ?_
  refine wo_v (v_lss rfl rfl) ?_
  refine wo_v (v_move rfl) ?_
  refine wo_if (t := 12) rfl (fun g1 => ?_) (fun g1 => ?_)
  · refine wo_gF ?_
    refine wo_gF ?_
    refine wo_gF ?_
    refine wo_v (v_pickT rfl rfl) ?_
    refine wo_nil ?_
    refine wk_condT rfl ?_
    refine wk_seq ?_
    refine wk_region ?_
    refine wo_v (v_buildN tyBu_101 rfl (by repeat constructor)) ?_
    refine wo_w0 (w_storeN tyN_101 rfl rfl rfl rfl (by repeat constructor) (by repeat constructor) ?_)
    refine wo_v (v_assign rfl) ?_
    refine wo_nil ?_
    refine wk_ret Tryz.func37 rfl rfl (res_cellA tyA_101 rfl (by repeat constructor) rfl (res_tmp rfl res_nil)) fun W h => ?_
    exact ⟨⟨0, 0, 0, [], 3⟩, rfl, trivial, Ent.sat ent_tail h⟩
  · refine wo_gv (v_move rfl) ?_
    refine wo_gv (v_len tyU_45 rfl) ?_
    refine wo_gv (v_gtr rfl rfl) ?_
    refine wo_v (v_pickF rfl rfl) ?_
    refine wo_nil ?_
    refine wk_if rfl (fun g2 => ?_) (fun g2 => ?_)
    · refine wk_seq ?_
      refine wk_region ?_
      refine wo_v (v_buildN tyBu_101 rfl (by repeat constructor)) ?_
      refine wo_w0 (w_storeN tyN_101 rfl rfl rfl rfl (by repeat constructor) (by repeat constructor) ?_)
      refine wo_v (v_assign rfl) ?_
      refine wo_nil ?_
      refine wk_ret Tryz.func37 rfl rfl (res_cellA tyA_101 rfl (by repeat constructor) rfl (res_tmp rfl res_nil)) fun W h => ?_
      exact ⟨⟨0, 0, 0, [], 3⟩, rfl, trivial, Ent.sat ent_tail h⟩
    · refine wk_skip ?_
      refine wk_seq ?_
      refine wk_region ?_
      refine wo_v (v_move rfl) ?_
      refine wo_ent (ent_bslS (x := x0) (bs := sec) (l := 1) (h := 3) (by repeat constructor) (by decide) (by omega)) ?_
      refine wo_v (v_sliceS (x := x0) (l := 1) (h := 3) tyU_45 tyN_5 rfl rfl rfl (by decide) (by omega)) ?_
      refine wo_w (w_call (s_sgraffitoref03_Of (bs := (sec.drop 1).take (3 - 1)) (by rw [List.length_take]; omega)) rfl (by repeat constructor) ?_)
      rintro ⟨⟩ -
      have hv1 := valB_lt ((sec.drop 1).take (3 - 1))
      have hv1' : 256 ^ ((sec.drop 1).take (3 - 1)).length ≤ 256 ^ 2 := Nat.pow_le_pow_right (by decide) (by rw [List.length_take]; omega)
      generalize valB ((sec.drop 1).take (3 - 1)) = m at hv1 ⊢
      refine wo_v (v_convI tyU_3 tyU_33 rfl) ?_
      refine wo_v (v_assign rfl) ?_
      refine wo_nil ?_
      refine wk_seq ?_
      refine wk_region ?_
      refine wo_v (v_move rfl) ?_
      refine wo_ent (ent_bslS (x := x0) (bs := sec) (l := 7) (h := 15) (by repeat constructor) (by decide) (by omega)) ?_
      refine wo_v (v_sliceS (x := x0) (l := 7) (h := 15) tyU_45 tyN_5 rfl rfl rfl (by decide) (by omega)) ?_
      refine wo_w (w_call (s_sgraffitoref03_Of (bs := (sec.drop 7).take (15 - 7)) (by rw [List.length_take]; omega)) rfl (by repeat constructor) ?_)
      rintro ⟨⟩ -
      generalize valB ((sec.drop 7).take (15 - 7)) = q
      refine wo_v (v_assign rfl) ?_
      refine wo_nil ?_
      refine wk_seq ?_
      refine wk_seq ?_
      refine wk_region ?_
      refine wo_v (v_move rfl) ?_
      refine wo_v (v_move rfl) ?_
      refine wo_v (v_len tyU_45 rfl) ?_
      refine wo_v (v_subI rfl rfl) ?_
      refine wo_v (v_gtr rfl rfl) ?_
      refine wo_v (v_move rfl) ?_
      refine wo_if (t := 30) rfl (fun g3 => ?_) (fun g3 => ?_)
      · refine wo_gF ?_
        refine wo_gF ?_
        refine wo_v (v_pickT rfl rfl) ?_
        refine wo_nil ?_
        refine wk_condT rfl ?_
        refine wk_seq ?_
        refine wk_region ?_
        refine wo_v (v_buildN tyBu_101 rfl (by repeat constructor)) ?_
        refine wo_w0 (w_storeN tyN_101 rfl rfl rfl rfl (by repeat constructor) (by repeat constructor) ?_)
        refine wo_v (v_assign rfl) ?_
        refine wo_nil ?_
        refine wk_ret Tryz.func37 rfl rfl (res_cellA tyA_101 rfl (by repeat constructor) rfl (res_tmp rfl res_nil)) fun W h => ?_
        exact ⟨⟨0, 0, 0, [], 5⟩, rfl, trivial, Ent.sat ent_tail h⟩
      · refine wo_gv (v_move rfl) ?_
        refine wo_gv (v_gtr rfl rfl) ?_
        refine wo_v (v_pickF rfl rfl) ?_
        refine wo_nil ?_
        refine wk_if rfl (fun g4 => ?_) (fun g4 => ?_)
        · refine wk_seq ?_
          refine wk_region ?_
          refine wo_v (v_buildN tyBu_101 rfl (by repeat constructor)) ?_
          refine wo_w0 (w_storeN tyN_101 rfl rfl rfl rfl (by repeat constructor) (by repeat constructor) ?_)
          refine wo_v (v_assign rfl) ?_
          refine wo_nil ?_
          refine wk_ret Tryz.func37 rfl rfl (res_cellA tyA_101 rfl (by repeat constructor) rfl (res_tmp rfl res_nil)) fun W h => ?_
          exact ⟨⟨0, 0, 0, [], 5⟩, rfl, trivial, Ent.sat ent_tail h⟩
        · have hg0 : sec[0]? = some sec[0] := List.getElem?_eq_getElem (by omega)
          have hgu : (u8s sec)[0]? = some (.int .u8 sec[0].toNat) := by unfold u8s; rw [List.getElem?_map, hg0]; rfl
          generalize sec[0] = v0 at hgu
          have hv0 := v0.toNat_lt
          have hv2 := valB_lt ((sec.drop 3).take (7 - 3))
          have hv2' : 256 ^ ((sec.drop 3).take (7 - 3)).length ≤ 256 ^ 4 := Nat.pow_le_pow_right (by decide) (by rw [List.length_take]; omega)
          refine wk_ent (ent_bslS (x := x0) (bs := sec) (l := 3) (h := 7) (by repeat constructor) (by decide) (by omega)) ?_
          refine wk_ent (ent_bslS (x := x0) (bs := sec) (l := 15) (h := 15 + m) (by repeat constructor) (by omega) (by omega)) ?_
          refine wk_block' (x := x0) (cells := u8s sec) (size := 1) (by repeat constructor) (by omega) fun b5 o5 vs5 T5 fz5 ha5 hv5 hle5 => ?_
          refine wk_skip ?_
          refine wk_seq ?_
          refine wk_draw (n := 18) (pend := 262143) ⟨17, fun w => Sat G w [pe (rob b5 vs5 T5 fz5), pe (bsl (x0.sl 15 (15 + m) 1) ((sec.drop 15).take (15 + m - 15)))]⟩ mixed (by kernel_rfl) rfl (fun w s_ => Ent.sat (by refine ent_take ?_; refine ent_take ?_; exact ent_nil) s_) rfl ?_
          refine wd_x 4 rfl (v_move rfl) ?_
          refine wd_x 5 rfl (v_sliceS (x := x0) (l := 3) (h := 7) tyU_45 tyN_5 rfl rfl rfl (by decide) (by omega)) ?_
          refine wd_p 0 rfl (v_move rfl) ?_
          refine wd_p 1 rfl (v_indexAddrS (i := 0) tyU_45 tyN_5 rfl rfl ha5 (by omega)) ?_
          refine wd_p 8 rfl (v_move rfl) ?_
          refine wd_p 9 rfl (v_convI tyU_3 tyU_33 rfl) ?_
          refine wd_p 10 rfl (v_move rfl) ?_
          refine wd_p 11 rfl (v_move rfl) ?_
          refine wd_p 12 rfl (OpV.int (v_addI rfl rfl) (show _ = ((15 + m : Nat) : Int) by omega)) ?_
          refine wd_p 13 rfl (v_sliceS (x := x0) (l := 15) (h := 15 + m) tyU_45 tyN_5 rfl rfl rfl (by omega) (by omega)) ?_
          refine wd_fr 2 rfl (fun w h => h) (v_load tyS_5 rfl (ro_get hv5 hgu)) ?_
          refine wd_p 3 rfl (v_convI tyU_3 tyU_5 rfl) ?_
          refine wd_fr 14 rfl (fun w h => h) (v_str tyU_45 tyU_5 tyU_9 rfl (src_ro (x := x0.sl 15 (15 + m) 1))) ?_
          refine wd_alt [6, 16] (by kernel_rfl) ⟨6, by simp, by kernel_rfl⟩ ?_
          intro i hi
          simp only [List.mem_cons, List.not_mem_nil, or_false] at hi
          rcases hi with rfl | rfl
          · refine alt_l rfl (w_call (s_sgraffitoref03_Of (bs := (sec.drop 3).take (7 - 3)) (by rw [List.length_take]; omega)) rfl (by repeat constructor) ?_)
            rintro ⟨⟩ -
            refine ⟨fun w s_ _ => Ent.sat (by refine ent_take ?_; refine ent_take ?_; exact ent_nil) s_, ?_⟩
            refine wd_x 7 rfl (v_convI tyU_3 tyU_33 rfl) ?_
            refine wd_x 15 rfl (v_buildN tyBu_101 rfl (by repeat constructor)) ?_
            refine wd_l 16 rfl (w_allocA tyZ_101 fun b2 => ?_)
            refine ⟨fun w s_ _ => Ent.sat (by refine ent_take ?_; refine ent_take ?_; exact ent_nil) s_, ?_⟩
            refine wd_l0 17 rfl (w_storeN tyN_101 rfl rfl rfl rfl (by repeat constructor) (by repeat constructor) ?_)
            refine ⟨fun w s_ => Wat.gone (by decide), ?_⟩
            refine wd_done ?_
            refine wk_seq ?_
            refine wk_region ?_
            refine wo_v (v_move rfl) ?_
            refine wo_v (v_len tyU_45 rfl) ?_
            refine wo_v (v_loadN tyA_101 rfl (by repeat constructor) (by repeat constructor)) ?_
            refine wo_w (w_call (s_sgraffitoref05_Build (n := x0.n) (kind := (v0.toNat : Int)) (place := ((valB ((sec.drop 3).take (7 - 3)) : Nat) : Int)) (stamp := (q : Int)) (load := (sec.drop 15).take (15 + m - 15)) (by omega) (by omega) (by rw [List.length_take]; omega)) rfl (by repeat constructor) ?_)
            rintro ⟨w, ws, e⟩ ⟨hw1, hw2⟩
            refine wo_v (v_move rfl) ?_
            refine wo_v (v_extract rfl rfl) ?_
            refine wo_v (v_extract rfl rfl) ?_
            refine wo_v (v_assign rfl) ?_
            refine wo_v (v_assign rfl) ?_
            refine wo_nil ?_
            refine wk_seq ?_
            refine wk_seq ?_
            refine wk_region ?_
            refine wo_v (v_move rfl) ?_
            refine wo_v (v_neq rfl rfl) ?_
            refine wo_v (v_move rfl) ?_
            refine wo_if (t := 60) rfl (fun g5 => ?_) (fun g5 => ?_)
            · refine wo_gF ?_
              refine wo_gF ?_
              refine wo_gF ?_
              refine wo_gF ?_
              refine wo_gF ?_
              refine wo_v (v_pickT rfl rfl) ?_
              refine wo_nil ?_
              refine wk_condT rfl ?_
              refine wk_seq ?_
              refine wk_region ?_
              refine wo_v (v_buildN tyBu_101 rfl (by repeat constructor)) ?_
              refine wo_w0 (w_storeN tyN_101 rfl rfl rfl rfl (by repeat constructor) (by repeat constructor) ?_)
              refine wo_v (v_assign rfl) ?_
              refine wo_nil ?_
              refine wk_ret Tryz.func37 rfl rfl (res_cellA tyA_101 rfl (by repeat constructor) rfl (res_tmp rfl res_nil)) fun W h => ?_
              exact ⟨⟨0, 0, 0, [], 5⟩, rfl, trivial, Ent.sat ent_tail h⟩
            · refine wo_gv (v_move rfl) ?_
              refine wo_gv (v_str tyU_45 tyU_5 tyU_9 rfl (src_ro (x := w))) ?_
              refine wo_gv (v_move rfl) ?_
              refine wo_gv (v_str tyU_45 tyU_5 tyU_9 rfl (src_ro (x := x0))) ?_
              refine wo_gv (v_neS rfl rfl) ?_
              refine wo_v (v_pickF rfl rfl) ?_
              refine wo_nil ?_
              refine wk_if rfl (fun g6 => ?_) (fun g6 => ?_)
              · refine wk_seq ?_
                refine wk_region ?_
                refine wo_v (v_buildN tyBu_101 rfl (by repeat constructor)) ?_
                refine wo_w0 (w_storeN tyN_101 rfl rfl rfl rfl (by repeat constructor) (by repeat constructor) ?_)
                refine wo_v (v_assign rfl) ?_
                refine wo_nil ?_
                refine wk_ret Tryz.func37 rfl rfl (res_cellA tyA_101 rfl (by repeat constructor) rfl (res_tmp rfl res_nil)) fun W h => ?_
                exact ⟨⟨0, 0, 0, [], 5⟩, rfl, trivial, Ent.sat ent_tail h⟩
              · refine wk_skip ?_
                refine wk_seq ?_
                refine wk_region ?_
                refine wo_v (v_loadN tyA_101 rfl (by repeat constructor) (by repeat constructor)) ?_
                refine wo_w0 (w_storeN tyN_101 rfl rfl rfl rfl (by repeat constructor) (by repeat constructor) ?_)
                refine wo_v (v_assign rfl) ?_
                refine wo_nil ?_
                refine wk_ret Tryz.func37 rfl rfl (res_cellA tyA_101 rfl (by repeat constructor) rfl (res_tmp rfl res_nil)) fun W h => ?_
                exact ⟨⟨v0.toNat, (valB ((sec.drop 3).take (7 - 3)) : Nat), q, (sec.drop 15).take (15 + m - 15), 0⟩, rfl, trivial, Ent.sat ent_tail h⟩
          · refine alt_l rfl (w_allocA tyZ_101 fun b3 => ?_)
            refine ⟨fun w s_ _ => Ent.sat (by refine ent_take ?_; refine ent_take ?_; exact ent_nil) s_, ?_⟩
            refine wd_l 6 rfl (w_call (s_sgraffitoref03_Of (bs := (sec.drop 3).take (7 - 3)) (by rw [List.length_take]; omega)) rfl (by repeat constructor) ?_)
            rintro ⟨⟩ -
            refine ⟨fun w s_ _ => Ent.sat (by refine ent_take ?_; refine ent_take ?_; exact ent_nil) s_, ?_⟩
            refine wd_a 7 rfl (v_convI tyU_3 tyU_33 rfl) ?_
            refine wd_a 15 rfl (v_buildN tyBu_101 rfl (by repeat constructor)) ?_
            refine wd_l0 17 rfl (w_storeN tyN_101 rfl rfl rfl rfl (by repeat constructor) (by repeat constructor) ?_)
            refine ⟨fun w s_ => Wat.gone (by decide), ?_⟩
            refine wd_done ?_
            refine wk_seq ?_
            refine wk_region ?_
            refine wo_v (v_move rfl) ?_
            refine wo_v (v_len tyU_45 rfl) ?_
            refine wo_v (v_loadN tyA_101 rfl (by repeat constructor) (by repeat constructor)) ?_
            refine wo_w (w_call (s_sgraffitoref05_Build (n := x0.n) (kind := (v0.toNat : Int)) (place := ((valB ((sec.drop 3).take (7 - 3)) : Nat) : Int)) (stamp := (q : Int)) (load := (sec.drop 15).take (15 + m - 15)) (by omega) (by omega) (by rw [List.length_take]; omega)) rfl (by repeat constructor) ?_)
            rintro ⟨w, ws, e⟩ ⟨hw1, hw2⟩
            refine wo_v (v_move rfl) ?_
            refine wo_v (v_extract rfl rfl) ?_
            refine wo_v (v_extract rfl rfl) ?_
            refine wo_v (v_assign rfl) ?_
            refine wo_v (v_assign rfl) ?_
            refine wo_nil ?_
            refine wk_seq ?_
            refine wk_seq ?_
            refine wk_region ?_
            refine wo_v (v_move rfl) ?_
            refine wo_v (v_neq rfl rfl) ?_
            refine wo_v (v_move rfl) ?_
            refine wo_if (t := 60) rfl (fun g5 => ?_) (fun g5 => ?_)
            · refine wo_gF ?_
              refine wo_gF ?_
              refine wo_gF ?_
              refine wo_gF ?_
              refine wo_gF ?_
              refine wo_v (v_pickT rfl rfl) ?_
              refine wo_nil ?_
              refine wk_condT rfl ?_
              refine wk_seq ?_
              refine wk_region ?_
              refine wo_v (v_buildN tyBu_101 rfl (by repeat constructor)) ?_
              refine wo_w0 (w_storeN tyN_101 rfl rfl rfl rfl (by repeat constructor) (by repeat constructor) ?_)
              refine wo_v (v_assign rfl) ?_
              refine wo_nil ?_
              refine wk_ret Tryz.func37 rfl rfl (res_cellA tyA_101 rfl (by repeat constructor) rfl (res_tmp rfl res_nil)) fun W h => ?_
              exact ⟨⟨0, 0, 0, [], 5⟩, rfl, trivial, Ent.sat ent_tail h⟩
            · refine wo_gv (v_move rfl) ?_
              refine wo_gv (v_str tyU_45 tyU_5 tyU_9 rfl (src_ro (x := w))) ?_
              refine wo_gv (v_move rfl) ?_
              refine wo_gv (v_str tyU_45 tyU_5 tyU_9 rfl (src_ro (x := x0))) ?_
              refine wo_gv (v_neS rfl rfl) ?_
              refine wo_v (v_pickF rfl rfl) ?_
              refine wo_nil ?_
              refine wk_if rfl (fun g6 => ?_) (fun g6 => ?_)
              · refine wk_seq ?_
                refine wk_region ?_
                refine wo_v (v_buildN tyBu_101 rfl (by repeat constructor)) ?_
                refine wo_w0 (w_storeN tyN_101 rfl rfl rfl rfl (by repeat constructor) (by repeat constructor) ?_)
                refine wo_v (v_assign rfl) ?_
                refine wo_nil ?_
                refine wk_ret Tryz.func37 rfl rfl (res_cellA tyA_101 rfl (by repeat constructor) rfl (res_tmp rfl res_nil)) fun W h => ?_
                exact ⟨⟨0, 0, 0, [], 5⟩, rfl, trivial, Ent.sat ent_tail h⟩
              · refine wk_skip ?_
                refine wk_seq ?_
                refine wk_region ?_
                refine wo_v (v_loadN tyA_101 rfl (by repeat constructor) (by repeat constructor)) ?_
                refine wo_w0 (w_storeN tyN_101 rfl rfl rfl rfl (by repeat constructor) (by repeat constructor) ?_)
                refine wo_v (v_assign rfl) ?_
                refine wo_nil ?_
                refine wk_ret Tryz.func37 rfl rfl (res_cellA tyA_101 rfl (by repeat constructor) rfl (res_tmp rfl res_nil)) fun W h => ?_
                exact ⟨⟨v0.toNat, (valB ((sec.drop 3).take (7 - 3)) : Nat), q, (sec.drop 15).take (15 + m - 15), 0⟩, rfl, trivial, Ent.sat ent_tail h⟩

end Go.Proofs.YtealmijbkebipaaGreatDoor

namespace Go.Proofs.YtealmijbkebipaaGreatDoor
open Go
attribute [local irreducible] own pe nf

theorem s_sgraffitolaw13_foul {d : Nat} {st : DevA} (h2 : st.size ≤ 512) (hn : st.n ≤ 16384) : FnSpec Tryz.prog 14 #[.pointer (some ⟨d, 0, none⟩)] [DevH d st]
    (fun b : Bool => .bool b) (fun _ => True) (fun _ R => DevH d st :: R) := by
  refine fn_spec Tryz.func14 rfl rfl rfl rfl fun G R => ?_
  dsimp only [List.append_eq, List.cons_append, List.nil_append]
  refine wk_seq ?_
  refine wk_region ?_
  refine wo_v (v_assign rfl) ?_
  refine wo_nil ?_
  refine wk_seq ?_
  refine wk_seq ?_
  refine wk_region ?_
  refine wo_v (v_assign rfl) ?_
  refine wo_nil ?_
  refine wk_block ?_
  refine wk_loop (fun i : Nat => i ≤ st.n) (fun i => [(0, .pointer (some ⟨d, 0, none⟩)), (3, .int .i64 i)]) (fun _ => DevH d st :: R) (fun i => st.n - i) 0 (Nat.zero_le _) ⟨rfl, rfl, trivial⟩ (Ent.refl _) fun i hi next => ?_
  refine wk_seq ?_
  refine wk_seq ?_
  refine wk_region ?_
  refine wo_v (v_move rfl) ?_
  refine wo_v (v_move rfl) ?_
  refine wo_w (w_call (s_flash_Device_Sectors (st := st)) rfl (by repeat constructor) ?_)
  rintro ⟨⟩ -
  refine wo_v (v_lss rfl rfl) ?_
  refine wo_nil ?_
  refine wk_if rfl (fun hb => ?_) (fun hb => ?_)
  · refine wk_skip ?_
    refine wk_seq ?_
    refine wk_block ?_
    refine wk_seq ?_
    refine wk_region ?_
    refine wo_v (v_move rfl) ?_
    refine wo_v (v_move rfl) ?_
    refine wo_w (w_call (s_flash_Device_Read (st := st) (k := (i : Int))) rfl (by repeat constructor) ?_)
    rintro y ⟨hy, hsz⟩
    refine wo_v (v_move rfl) ?_
    refine wo_v (v_extract rfl rfl) ?_
    refine wo_v (v_extract rfl rfl) ?_
    refine wo_v (v_assign rfl) ?_
    refine wo_v (v_assign rfl) ?_
    refine wo_nil ?_
    refine wk_seq ?_
    refine wk_seq ?_
    refine wk_region ?_
    refine wo_v (v_move rfl) ?_
    refine wo_v (v_neq rfl rfl) ?_
    refine wo_nil ?_
    refine wk_if rfl (fun he => ?_) (fun he => ?_)
    · refine wk_seq ?_
      refine wk_region ?_
      refine wo_v (v_assign rfl) ?_
      refine wo_nil ?_
      refine wk_ret Tryz.func14 rfl rfl (res_tmp rfl res_nil) fun W h => ?_
      exact ⟨false, rfl, trivial, Ent.sat (by refine ent_take ?_; exact ent_tail) h⟩
    · have he' : st.ready i = 0 := by omega
      rw [if_pos he'] at hy ⊢
      have hlen := hsz he'
      refine wk_skip ?_
      refine wk_seq ?_
      refine wk_seq ?_
      refine wk_region ?_
      refine wo_v (v_move rfl) ?_
      refine wo_w (w_call (s_sgraffitoref05_Read (sec := st.read i) (by omega)) rfl (by repeat constructor) ?_)
      rintro ⟨k, p, q, l, e⟩ -
      refine wo_v (v_move rfl) ?_
      refine wo_v (v_extract rfl rfl) ?_
      refine wo_v (v_extract rfl rfl) ?_
      refine wo_w (w_allocA tyZ_101 fun b1 => ?_)
      refine wo_w0 (w_storeN tyN_101 rfl rfl rfl rfl (by repeat constructor) (by repeat constructor) ?_)
      refine wo_v (v_assign rfl) ?_
      refine wo_nil ?_
      refine wk_seq ?_
      refine wk_region ?_
      refine wo_v (v_move rfl) ?_
      refine wo_v (v_neq rfl rfl) ?_
      refine wo_nil ?_
      refine wk_if rfl (fun hf => ?_) (fun hf => ?_)
      · refine wk_exit rfl ?_
        refine wk_region ?_
        refine wo_v (v_move rfl) ?_
        refine wo_v (v_addI rfl rfl) ?_
        refine wo_v (v_assign rfl) ?_
        refine wo_nil ?_
        exact (next (i + 1) (by omega) (by omega)).use ⟨rfl, rfl, trivial⟩ (by refine ent_take ?_; exact ent_tail)
      · refine wk_skip ?_
        refine wk_seq ?_
        refine wk_region ?_
        refine wo_v (v_assign rfl) ?_
        refine wo_nil ?_
        refine wk_seq ?_
        refine wk_region ?_
        refine wo_v (v_move rfl) ?_
        refine wo_v (v_move rfl) ?_
        refine wo_w (w_call (s_flash_Device_Past (k := (i : Int)) (st := st) (by omega) (by omega)) rfl (by repeat constructor) ?_)
        rintro ⟨x, l⟩ ⟨hx, hl⟩
        dsimp only at hx hl ⊢
        refine wo_v (v_assign rfl) ?_
        refine wo_nil ?_
        refine wk_seq ?_
        refine wk_seq ?_
        refine wk_region ?_
        refine wo_v (v_assign rfl) ?_
        refine wo_nil ?_
        refine wk_block ?_
        refine wk_loop (fun a : Nat × Bool => a.1 ≤ l.length) (fun a => [(0, .pointer (some ⟨d, 0, none⟩)), (3, .int .i64 i), (4, y.v), (8, .bool a.2), (9, x.v), (10, .int .i64 a.1)]) (fun _ => pe (roSl x (l.map (·.1.v)) 1) :: pe (bslAll l) :: DevH d st :: pe (bsl y (st.read i)) :: R) (fun a => l.length - a.1) (0, false) (Nat.zero_le _) ⟨rfl, rfl, rfl, rfl, rfl, rfl, trivial⟩ (by refine ent_take ?_; refine ent_take ?_; refine ent_take ?_; refine ent_take ?_; exact ent_tail) fun a0 hI next2 => ?_
        obtain ⟨j, g⟩ := a0
        dsimp only at hI next2 ⊢
        refine wk_seq ?_
        refine wk_seq ?_
        refine wk_region ?_
        refine wo_v (v_move rfl) ?_
        refine wo_v (v_move rfl) ?_
        refine wo_v (v_len tyU_104 rfl) ?_
        refine wo_v (v_lss rfl rfl) ?_
        refine wo_nil ?_
        refine wk_if rfl (fun hc => ?_) (fun hc => ?_)
        · have hjl : j < l.length := by omega
          have hg : l[j]? = some l[j] := List.getElem?_eq_getElem hjl
          generalize l[j] = q at hg
          have hm : q ∈ l := List.mem_of_getElem? hg
          have hgv : (l.map (·.1.v))[j]? = some q.1.v := by rw [List.getElem?_map, hg]; rfl
          refine wk_ent (ent_ro (p := bslAll l) (q := bsl q.1 q.2) (by repeat constructor) (bslAll_one hm) (Ent.refl _)) ?_
          refine wk_block' (x := x) (cells := l.map (·.1.v)) (size := 1) (by repeat constructor) (by omega) fun b5 o5 vs5 T5 fz5 ha5 hv5 hle5 => ?_
          refine wk_skip ?_
          refine wk_seq ?_
          refine wk_block ?_
          refine wk_draw (n := 12) (pend := 4095) ⟨12, fun _ => True⟩ mixed (by kernel_rfl) rfl (fun _ _ => trivial) rfl ?_
          refine wd_a 0 rfl (v_move rfl) ?_
          refine wd_a 1 rfl (v_move rfl) ?_
          refine wd_if (t := 42) rfl (fun hg2 => ?_) (fun hg2 => ?_)
          · refine wd_gF 2 rfl rfl rfl rfl ?_
            refine wd_gF 3 rfl rfl rfl rfl ?_
            refine wd_gF 4 rfl rfl rfl rfl ?_
            refine wd_gF 5 rfl rfl rfl rfl ?_
            refine wd_gF 6 rfl rfl rfl rfl ?_
            refine wd_gF 7 rfl rfl rfl rfl ?_
            refine wd_gF 8 rfl rfl rfl rfl ?_
            refine wd_gF 9 rfl rfl rfl rfl ?_
            refine wd_a 10 rfl (v_pickT rfl rfl) ?_
            refine wd_a 11 rfl (v_assign rfl) ?_
            refine wd_done ?_
            refine wk_inBlock ?_
            refine wk_region ?_
            refine wo_v (v_move rfl) ?_
            refine wo_v (v_addI rfl rfl) ?_
            refine wo_v (v_assign rfl) ?_
            refine wo_nil ?_
            exact (next2 (j + 1, true) (by dsimp only; omega) (by dsimp only; omega)).use ⟨rfl, rfl, rfl, rfl, rfl, rfl, trivial⟩ (by refine ent_take ?_; refine ent_take ?_; refine ent_take ?_; refine ent_take ?_; exact ent_tail)
          · refine wd_ag 2 rfl rfl rfl (v_move rfl) ?_
            refine wd_ag 3 rfl rfl rfl (v_move rfl) ?_
            refine wd_ag 4 rfl rfl rfl (v_indexAddrS tyU_104 tyN_45 rfl rfl ha5 (by omega)) ?_
            refine wd_ag 5 rfl rfl rfl (v_load tyS_45 rfl (ro_get hv5 hgv)) ?_
            refine wd_ag 6 rfl rfl rfl (v_str tyU_45 tyU_5 tyU_9 rfl (src_ro (x := q.1))) ?_
            refine wd_ag 7 rfl rfl rfl (v_move rfl) ?_
            refine wd_ag 8 rfl rfl rfl (v_str tyU_45 tyU_5 tyU_9 rfl (src_ro (x := y))) ?_
            refine wd_ag 9 rfl rfl rfl (v_eqS rfl rfl) ?_
            refine wd_a 10 rfl (v_pickF rfl rfl) ?_
            refine wd_a 11 rfl (v_assign rfl) ?_
            refine wd_done ?_
            refine wk_inBlock ?_
            refine wk_region ?_
            refine wo_v (v_move rfl) ?_
            refine wo_v (v_addI rfl rfl) ?_
            refine wo_v (v_assign rfl) ?_
            refine wo_nil ?_
            exact (next2 (j + 1, _) (by dsimp only; omega) (by dsimp only; omega)).use ⟨rfl, rfl, rfl, rfl, rfl, rfl, trivial⟩ (by refine ent_take ?_; refine ent_take ?_; refine ent_take ?_; refine ent_take ?_; exact ent_tail)
        · refine wk_exit rfl ?_
          refine wk_seq ?_
          refine wk_region ?_
          refine wo_v (v_move rfl) ?_
          refine wo_v (v_not rfl) ?_
          refine wo_nil ?_
          refine wk_if rfl (fun hz => ?_) (fun hz => ?_)
          · refine wk_seq ?_
            refine wk_region ?_
            refine wo_v (v_assign rfl) ?_
            refine wo_nil ?_
            refine wk_ret Tryz.func14 rfl rfl (res_tmp rfl res_nil) fun W h => ?_
            exact ⟨true, rfl, trivial, Ent.sat (by refine ent_take ?_; exact ent_tail) h⟩
          · refine wk_skip ?_
            refine wk_inBlock ?_
            refine wk_region ?_
            refine wo_v (v_move rfl) ?_
            refine wo_v (v_addI rfl rfl) ?_
            refine wo_v (v_assign rfl) ?_
            refine wo_nil ?_
            exact (next (i + 1) (by omega) (by omega)).use ⟨rfl, rfl, trivial⟩ (by refine ent_take ?_; exact ent_tail)
  · refine wk_exit rfl ?_
    refine wk_seq ?_
    refine wk_region ?_
    refine wo_v (v_assign rfl) ?_
    refine wo_nil ?_
    refine wk_ret Tryz.func14 rfl rfl (res_tmp rfl res_nil) fun W h => ?_
    exact ⟨false, rfl, trivial, Ent.sat (by refine ent_take ?_; exact ent_tail) h⟩

end Go.Proofs.YtealmijbkebipaaGreatDoor
