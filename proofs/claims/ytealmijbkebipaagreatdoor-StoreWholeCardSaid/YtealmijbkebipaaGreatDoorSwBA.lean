/- Law 13: there. Law 13: the example. The plain law of layer 13: the rounds of StoreWhole. -/
import Derived.Test.YtealmijbkebipaaGreatDoorSwAY
import Derived.Test.YtealmijbkebipaaGreatDoorSwAR
namespace Go.Proofs.YtealmijbkebipaaGreatDoor
open Go
attribute [local irreducible] own pe nf

theorem s_sgraffitolaw13_there {d : Nat} {st : DevA} {gen : Int} {x : SV} {l : List PgR} {T : TypeId} {fz : Nat × Nat} (h0 : 0 ≤ gen) (h1 : gen ≤ 1099511627776) (hn : st.n = 60) (hs : st.size = 96) (hdn : st.down = false) (hacts : st.acts < 1099511627776) (hlo : st.loose = []) (hll : l.length ≤ 65536) (hls : LsOK l) (hk : Kept st l) :
    FnSpec Tryz.prog 16 #[.pointer (some ⟨d, 0, none⟩), .int .i64 gen, x.v] [DevH d st, pe (tabP T fz), pe (roSl x (rowC pgC l) 3)]
    (fun _ : Unit => .bool true) (fun _ => True) (fun _ R => DevH d st :: R) := by
  refine fn_spec Tryz.func16 rfl rfl rfl rfl fun G R => ?_
  dsimp only [List.append_eq, List.cons_append, List.nil_append]
  refine wk_ro (x := x) (cells := rowC pgC l) (size := 3) (by repeat constructor) fun hx => ?_
  have hxn : x.n = l.length := by have := hx.1; rw [rowC_len pgC_len] at this; omega
  have hD : DevB st := ⟨by rw [hs]; decide, by rw [hs]; decide, hacts⟩
  refine wk_seq ?_
  refine wk_region ?_
  refine wo_v (v_assign rfl) ?_
  refine wo_nil ?_
  refine wk_seq ?_
  refine wk_region ?_
  refine wo_v (v_move rfl) ?_
  refine wo_w (w_call s_sgraffitolaw13_small rfl (by repeat constructor) ?_)
  rintro ⟨⟩ -
  refine wo_v (v_move rfl) ?_
  refine wo_w (w_call (s_store_Open (p := smallP) (st := st) (gen := gen) (T := T) (fz := fz) smallP_ok h0 h1 hn hs) rfl (by repeat constructor) ?_)
  rintro s -
  refine wo_v (v_move rfl) ?_
  refine wo_v (v_extract rfl rfl) ?_
  refine wo_v (v_extract rfl rfl) ?_
  refine wo_v (v_assign rfl) ?_
  refine wo_v (v_assign rfl) ?_
  refine wo_nil ?_
  refine wk_seq ?_
  refine wk_seq ?_
  refine wk_region ?_
  refine wo_v (v_move rfl) ?_
  refine wo_v (v_neq rfl rfl) ?_
  refine wo_nil ?_
  refine wk_condF rfl ?_
  refine wk_skip ?_
  refine wk_seq ?_
  refine wk_seq ?_
  refine wk_region ?_
  refine wo_v (v_assign rfl) ?_
  refine wo_nil ?_
  refine wk_block ?_
  refine wk_loop (fun a : Nat × StA => a.1 ≤ l.length ∧ ThI l a.1 a.2 st) (fun a => [(0, .pointer (some ⟨d, 0, none⟩)), (2, x.v), (7, .pointer (some ⟨s, 0, none⟩)), (9, .int .i64 a.1)]) (fun a => StH s d smallP a.2 :: DevH d st :: pe (tabP T fz) :: pe (roSl x (rowC pgC l) 3) :: R) (fun a => l.length - a.1) (0, StA.new smallP gen) ⟨Nat.zero_le _, ThI.start hn hs hdn⟩ ⟨rfl, rfl, rfl, rfl, trivial⟩ (by refine ent_take ?_; refine ent_take ?_; refine ent_take ?_; refine ent_take ?_; exact ent_tail) fun a0 hI next => ?_
  obtain ⟨i, S⟩ := a0
  obtain ⟨hi, hT⟩ := hI
  dsimp only at hi hT next ⊢
  refine wk_seq ?_
  refine wk_seq ?_
  refine wk_region ?_
  refine wo_v (v_move rfl) ?_
  refine wo_v (v_move rfl) ?_
  refine wo_v (v_len tyU_41 rfl) ?_
  refine wo_v (v_lss rfl rfl) ?_
  refine wo_nil ?_
  refine wk_if rfl (fun hc => ?_) (fun hc => ?_)
  · have hil : i < l.length := by omega
    have hg : l[i]? = some l[i] := List.getElem?_eq_getElem hil
    generalize l[i] = p at hg
    obtain ⟨hmk, hrd⟩ := there_step hT hls hg hk hlo
    refine wk_block' (x := x) (cells := rowC pgC l) (size := 3) (by repeat constructor) (by omega) fun b5 o5 vs5 T5 fz5 ha5 hv5 hle5 => ?_
    refine wk_skip ?_
    refine wk_seq ?_
    refine wk_block ?_
    refine wk_seq ?_
    refine wk_seq ?_
    refine wk_region ?_
    refine wo_v (v_move rfl) ?_
    refine wo_v (v_move rfl) ?_
    refine wo_v (v_move rfl) ?_
    refine wo_v (v_indexAddrS tyU_41 tyN_86 rfl rfl ha5 (by omega)) ?_
    refine wo_v (v_loadA tyA_86 rfl (ro_rowA pgC_len hv5 hg) rfl) ?_
    refine wo_w (w_call (s_sgraffitolaw13_ref (p := p)) rfl (by repeat constructor) ?_)
    rintro ⟨⟩ -
    refine wo_w (w_call (s_store_Store_Mark (p := smallP) (S := S) (r := ⟨p.page, p.stamp⟩)) rfl (by repeat constructor) ?_)
    rintro ⟨⟩ -
    rw [hmk, if_pos rfl]
    refine wo_v (v_neq rfl rfl) ?_
    refine wo_nil ?_
    refine wk_condF rfl ?_
    refine wk_skip ?_
    refine wk_seq ?_
    refine wk_region ?_
    refine wo_v (v_move rfl) ?_
    refine wo_v (v_move rfl) ?_
    refine wo_v (v_move rfl) ?_
    refine wo_v (v_indexAddrS tyU_41 tyN_86 rfl rfl ha5 (by omega)) ?_
    refine wo_v (v_loadA tyA_86 rfl (ro_rowA pgC_len hv5 hg) rfl) ?_
    refine wo_w (w_call (s_sgraffitolaw13_ref (p := p)) rfl (by repeat constructor) ?_)
    rintro ⟨⟩ -
    refine wo_w (w_call (s_store_Store_Read (p := smallP) (S := { S with taken := S.taken.put p.page.toNat true }) (st := st) (r := ⟨p.page, p.stamp⟩) hD) rfl (by repeat constructor) ?_)
    rintro ⟨y, ld, e, S1, st1⟩ ⟨hy, hR⟩
    dsimp only at hy hR ⊢
    obtain ⟨rfl, rfl, rfl, hT1⟩ := hrd _ _ _ _ hR
    refine wo_v (v_move rfl) ?_
    refine wo_v (v_extract rfl rfl) ?_
    refine wo_v (v_extract rfl rfl) ?_
    refine wo_v (v_assign rfl) ?_
    refine wo_v (v_assign rfl) ?_
    refine wo_nil ?_
    refine wk_seq ?_
    refine wk_draw (n := 12) (pend := 4095) ⟨12, fun _ => True⟩ mixed (by kernel_rfl) rfl (fun _ _ => trivial) rfl ?_
    refine wd_a 0 rfl (v_move rfl) ?_
    refine wd_a 1 rfl (v_neq rfl rfl) ?_
    refine wd_a 2 rfl (v_move rfl) ?_
    refine wd_ag 3 rfl rfl rfl (v_move rfl) ?_
    refine wd_ag 4 rfl rfl rfl (v_str tyU_45 tyU_5 tyU_9 rfl (src_ro (x := y))) ?_
    refine wd_ag 5 rfl rfl rfl (v_move rfl) ?_
    refine wd_ag 6 rfl rfl rfl (v_move rfl) ?_
    refine wd_ag 7 rfl rfl rfl (v_indexAddrS tyU_41 tyN_86 rfl rfl ha5 (by omega)) ?_
    refine wd_ag 8 rfl rfl rfl (v_fieldAddr tyF_86_2 rfl) ?_
    refine wd_ag 9 rfl rfl rfl (v_load tyS_9 rfl (ro_row (j := 2) pgC_len hv5 hg (by omega))) ?_
    refine wd_ag 10 rfl rfl rfl (v_neS rfl rfl) ?_
    refine wd_a 11 rfl (v_pickF rfl rfl) ?_
    refine wd_done ?_
    refine wk_if rfl (fun hne => ?_) (fun hne => ?_)
    · exact absurd rfl hne
    · refine wk_skip ?_
      refine wk_inBlock ?_
      refine wk_region ?_
      refine wo_v (v_move rfl) ?_
      refine wo_v (v_addI rfl rfl) ?_
      refine wo_v (v_assign rfl) ?_
      refine wo_nil ?_
      exact (next (i + 1, S1) ⟨by dsimp only; omega, hT1⟩ (by dsimp only; omega)).use ⟨rfl, rfl, rfl, rfl, trivial⟩ (by refine ent_take ?_; refine ent_take ?_; refine ent_take ?_; refine ent_take ?_; exact ent_tail)
  · obtain rfl : i = l.length := by omega
    refine wk_exit rfl ?_
    refine wk_seq ?_
    refine wk_region ?_
    refine wo_v (v_move rfl) ?_
    refine wo_w (w_call (s_store_Store_Parts (p := smallP) (S := S) (fun a b ha => by rw [hT.fr] at ha; cases ha) (fun a b ha => by rw [hT.dy] at ha; cases ha) (fun a b ha => by rw [hT.de] at ha; cases ha)) rfl (by repeat constructor) ?_)
    rintro ⟨xt, xf, xy, xd, LY⟩ ⟨hp1, -⟩
    dsimp only at hp1 ⊢
    refine wo_v (v_fieldL tyFT_107_0 tyS_23 rfl (by repeat constructor)) ?_
    refine wo_v (v_len tyU_23 rfl) ?_
    refine wo_v (v_move rfl) ?_
    refine wo_v (v_len tyU_41 rfl) ?_
    refine wo_v (v_eql rfl rfl) ?_
    refine wo_v (v_assign rfl) ?_
    refine wo_nil ?_
    refine wk_ret Tryz.func16 rfl rfl (res_tmp rfl res_nil) fun W h => ?_
    have hlen := there_end hT hls
    refine ⟨(), ?_, trivial, Ent.sat (by refine ent_take ?_; exact ent_tail) h⟩
    show Value.bool (decide _) = _
    rw [decide_eq_true]
    omega

end Go.Proofs.YtealmijbkebipaaGreatDoor

namespace Go.Proofs.YtealmijbkebipaaGreatDoor
open Go
attribute [local irreducible] own pe nf

theorem one_of {l : List Int} (h : l.length ≤ 1) (h0 : 0 ∈ l) : l = [0] := by
  match l, h, h0 with
  | [a], _, h0 => simp at h0; rw [h0]
  | [], _, h0 => cases h0
  | _ :: _ :: _, h, _ => exact absurd h (by simp)
theorem tyP_82' : pairB Tryz.prog 82 = true := by kernel_rfl
theorem s_sgraffitolaw13_awake {T : TypeId} {fz : Nat × Nat} : FnSpec Tryz.prog 15 #[] [pe (tabP T fz)]
    (fun _ : Unit => .bool true) (fun _ => True) (fun _ R => R) := by
  refine fn_spec Tryz.func15 rfl rfl rfl rfl fun G R => ?_
  dsimp only [List.append_eq, List.cons_append, List.nil_append]
  refine wk_seq ?_
  refine wk_region ?_
  refine wo_v (v_assign rfl) ?_
  refine wo_nil ?_
  refine wk_seq ?_
  refine wk_region ?_
  refine wo_w (w_call (s_flash_New (n := 60) (size := 96) (by decide) (by decide) (by decide) (by decide)) rfl (by repeat constructor) ?_)
  rintro d -
  refine wo_w (w_call s_sgraffitolaw13_small rfl (by repeat constructor) ?_)
  rintro ⟨⟩ -
  refine wo_w (w_call (s_store_Format (p := smallP) (st := DevA.new 60 96) (T := T) (fz := fz) smallP_ok rfl rfl) rfl (by repeat constructor) ?_)
  rintro s -
  refine wo_v (v_move rfl) ?_
  refine wo_v (v_extract rfl rfl) ?_
  refine wo_v (v_extract rfl rfl) ?_
  refine wo_v (v_assign rfl) ?_
  refine wo_v (v_assign rfl) ?_
  refine wo_nil ?_
  refine wk_seq ?_
  refine wk_region ?_
  refine wo_v (v_move rfl) ?_
  refine wo_w (w_buildSlice1 tyU_45 tyN_5 tyZ_5 rfl rfl rfl rfl fun b1 => ?_)
  refine wo_w (w_convB (bs := [97]) tyU_45 tyU_5 rfl rfl (by repeat constructor) ?_)
  refine wo_w (w_call (s_store_Store_New (p := smallP) (S := StA.new smallP 0) (st := DevA.new 60 96) (x := ⟨some ⟨b1, 0, none⟩, 1, 1⟩) (load := [97]) ⟨by decide, by decide, by decide⟩ (by decide)) rfl (by repeat constructor) ?_)
  rintro ⟨q1, e1, S1, st1⟩ hN
  dsimp only at hN ⊢
  obtain ⟨rfl, rfl, rfl, rfl⟩ := awake_law1 hN
  refine wo_v (v_move rfl) ?_
  refine wo_v (v_extract rfl rfl) ?_
  refine wo_v (v_extract rfl rfl) ?_
  refine wo_w (w_allocA tyZ_82 fun p1 => ?_)
  refine wo_w0 (w_storeN tyN_82 rfl rfl rfl rfl (by repeat constructor) (by repeat constructor) ?_)
  refine wo_v (v_assign rfl) ?_
  refine wo_nil ?_
  refine wk_seq ?_
  refine wk_region ?_
  refine wo_v (v_move rfl) ?_
  refine wo_v (v_loadN tyA_82 rfl (by repeat constructor) (by repeat constructor)) ?_
  refine wo_w (w_buildSlice1 tyU_45 tyN_5 tyZ_5 rfl rfl rfl rfl fun b3 => ?_)
  refine wo_w (w_convB (bs := [98]) tyU_45 tyU_5 rfl rfl (by repeat constructor) ?_)
  refine wo_w (w_call (s_store_Store_Write (p := smallP) (S := awk1) (st := awkD) (r := ⟨0, 1⟩) (x := ⟨some ⟨b3, 0, none⟩, 1, 1⟩) (load := [98]) ⟨by decide, by decide, by decide⟩ (by decide)) rfl (by repeat constructor) ?_)
  rintro ⟨q1, e1, S1, st1⟩ hN2
  dsimp only at hN2 ⊢
  obtain ⟨rfl, rfl, rfl, rfl⟩ := awake_law2 hN2
  refine wo_v (v_move rfl) ?_
  refine wo_v (v_extract rfl rfl) ?_
  refine wo_v (v_extract rfl rfl) ?_
  refine wo_w (w_allocA tyZ_82 fun p2 => ?_)
  refine wo_w0 (w_storeN tyN_82 rfl rfl rfl rfl (by repeat constructor) (by repeat constructor) ?_)
  refine wo_v (v_assign rfl) ?_
  refine wo_nil ?_
  refine wk_seq ?_
  refine wk_region ?_
  refine wo_v (v_move rfl) ?_
  refine wo_w (w_call (s_store_Store_Commit (p := smallP) (S := awk2) (by decide)) rfl (by repeat constructor) ?_)
  rintro ⟨⟩ -
  refine wo_nil ?_
  refine wk_seq ?_
  refine wk_region ?_
  refine wo_v (v_move rfl) ?_
  refine wo_v (v_loadN tyA_82 rfl (by repeat constructor) (by repeat constructor)) ?_
  refine wo_w (w_buildSlice1 tyU_45 tyN_5 tyZ_5 rfl rfl rfl rfl fun b5 => ?_)
  refine wo_w (w_convB (bs := [99]) tyU_45 tyU_5 rfl rfl (by repeat constructor) ?_)
  refine wo_w (w_call (s_store_Store_Write (p := smallP) (S := awk2.commit) (st := awkD) (r := ⟨0, 1⟩) (x := ⟨some ⟨b5, 0, none⟩, 1, 1⟩) (load := [99]) ⟨by decide, by decide, by decide⟩ (by decide)) rfl (by repeat constructor) ?_)
  rintro ⟨q1, e1, S1, st1⟩ hN3
  dsimp only at hN3 ⊢
  obtain ⟨rfl, rfl, hA, hD⟩ := awake_law3 hN3
  refine wo_v (v_move rfl) ?_
  refine wo_v (v_extract rfl rfl) ?_
  refine wo_v (v_extract rfl rfl) ?_
  refine wo_w (w_allocA tyZ_82 fun p3 => ?_)
  refine wo_w0 (w_storeN tyN_82 rfl rfl rfl rfl (by repeat constructor) (by repeat constructor) ?_)
  refine wo_v (v_assign rfl) ?_
  refine wo_nil ?_
  refine wk_seq ?_
  refine wk_region ?_
  refine wo_v (v_move rfl) ?_
  refine wo_v (v_loadN tyA_82 rfl (by repeat constructor) (by repeat constructor)) ?_
  refine wo_w (w_call (s_store_Store_Read (p := smallP) (S := S1) (st := st1) (r := ⟨1, 2⟩) hD) rfl (by repeat constructor) ?_)
  rintro ⟨y, ld, e1, S2, st2⟩ ⟨hy, hR⟩
  dsimp only at hy hR ⊢
  obtain ⟨rfl, rfl, rfl, rfl⟩ := awake_law4 hA hR
  refine wo_v (v_move rfl) ?_
  refine wo_v (v_extract rfl rfl) ?_
  refine wo_v (v_extract rfl rfl) ?_
  refine wo_v (v_assign rfl) ?_
  refine wo_v (v_assign rfl) ?_
  refine wo_nil ?_
  refine wk_seq ?_
  refine wk_region ?_
  refine wo_v (v_move rfl) ?_
  refine wo_w (w_call (s_store_Store_Parts (p := smallP) (S := S2) (fun a b ha hb => (hA.fr a ha).trans (hA.fr b hb).symm) (fun a b ha hb => by rw [hA.dy] at ha hb; exact (of_decide_eq_true ha).trans (of_decide_eq_true hb).symm) (fun a b ha => by rw [hA.de] at ha; cases ha)) rfl (by repeat constructor) ?_)
  rintro ⟨xt, xf, xy, xd, LY⟩ ⟨hp1, hp2, hp3, hp4⟩
  dsimp only at hp1 hp2 hp3 hp4 ⊢
  obtain rfl : LY = [0] := by have h0 := (hp4 0).symm.trans (hA.dy 0); simp at h0; exact one_of hp3 h0
  refine wo_w (w_allocA tyZ_107 fun p4 => ?_)
  refine wo_w0 (w_storeN tyN_107 rfl rfl rfl rfl (by repeat constructor) (by repeat constructor) ?_)
  refine wo_nil ?_
  refine wk_ent (ent_take (p := osl xy ([0].map keyV) 1 3) (t := by repeat constructor) (Ent.refl _)) ?_
  refine wk_oslOpen (x := xy) (cells := [keyV 0]) (size := 1) (by rw [hp2]; decide) fun b9 sp9 ha9 q1 q2 q3 q4 => ?_
  refine wk_seq ?_
  refine wk_region ?_
  refine wo_v (v_move rfl) ?_
  refine wo_v (v_eql rfl rfl) ?_
  refine wo_v (v_move rfl) ?_
  refine wo_gv (v_move rfl) ?_
  refine wo_gv (v_eql rfl rfl) ?_
  refine wo_v (v_pickT rfl rfl) ?_
  refine wo_v (v_move rfl) ?_
  refine wo_gv (v_move rfl) ?_
  refine wo_gv (v_eql rfl rfl) ?_
  refine wo_v (v_pickT rfl rfl) ?_
  refine wo_v (v_move rfl) ?_
  refine wo_gv (v_move rfl) ?_
  refine wo_gv (v_eql rfl rfl) ?_
  refine wo_v (v_pickT rfl rfl) ?_
  refine wo_v (v_move rfl) ?_
  refine wo_gv (v_move rfl) ?_
  refine wo_gv (v_eql rfl rfl) ?_
  refine wo_v (v_pickT rfl rfl) ?_
  refine wo_v (v_move rfl) ?_
  refine wo_gv (v_loadN tyA_82 rfl (by repeat constructor) (by repeat constructor)) ?_
  refine wo_gv (v_buildN tyBu_82 rfl (by repeat constructor)) ?_
  refine wo_gv (v_eqPair tyP_82' rfl rfl) ?_
  refine wo_v (v_pickT rfl rfl) ?_
  refine wo_v (v_move rfl) ?_
  refine wo_gv (v_loadN tyA_82 rfl (by repeat constructor) (by repeat constructor)) ?_
  refine wo_gv (v_loadN tyA_82 rfl (by repeat constructor) (by repeat constructor)) ?_
  refine wo_gv (v_eqPair tyP_82' rfl rfl) ?_
  refine wo_v (v_pickT rfl rfl) ?_
  refine wo_v (v_move rfl) ?_
  refine wo_gv (v_loadN tyA_82 rfl (by repeat constructor) (by repeat constructor)) ?_
  refine wo_gv (v_buildN tyBu_82 rfl (by repeat constructor)) ?_
  refine wo_gv (v_eqPair tyP_82' rfl rfl) ?_
  refine wo_v (v_pickT rfl rfl) ?_
  refine wo_v (v_move rfl) ?_
  refine wo_gv (v_move rfl) ?_
  refine wo_gv (v_str tyU_45 tyU_5 tyU_9 rfl (src_ro (x := y))) ?_
  refine wo_gv (v_eqS rfl rfl) ?_
  refine wo_v (v_pickT rfl rfl) ?_
  refine wo_v (v_move rfl) ?_
  refine wo_gv (v_fieldAddr tyF_107_2 rfl) ?_
  refine wo_gv (v_load tyS_23 rfl rfl) ?_
  refine wo_gv (v_len tyU_23 rfl) ?_
  refine wo_gv (v_eql rfl rfl) ?_
  refine wo_v (v_pickT rfl rfl) ?_
  refine wo_v (v_move rfl) ?_
  refine wo_if (t := 95) rfl (fun hxy => ?_) (fun hxy => ?_)
  · refine wo_gv (v_fieldAddr tyF_107_2 rfl) ?_
    refine wo_gv (v_load tyS_23 rfl rfl) ?_
    refine wo_gv (v_indexAddrS (i := 0) tyU_23 tyN_3 rfl rfl ha9 (by rw [hp2]; decide)) ?_
    refine wo_gv (v_load tyS_3 rfl rfl) ?_
    refine wo_gv (v_eql rfl rfl) ?_
    refine wo_v (v_pickT rfl rfl) ?_
    refine wo_v (v_assign rfl) ?_
    refine wo_nil ?_
    refine wk_ret Tryz.func15 rfl rfl (res_tmp rfl res_nil) fun W h => ?_
    exact ⟨(), rfl, trivial, Ent.sat ent_tail h⟩
  · exact absurd (show (xy.n : Int) = 1 by rw [hp2]; rfl) hxy

end Go.Proofs.YtealmijbkebipaaGreatDoor

namespace Go.Proofs.YtealmijbkebipaaGreatDoor
open Go

structure LoopI (i : Nat) (S : StA) (st : DevA) (r : RefS) (last ahead : List PgR) (gen : Int) : Prop where
  inv : Inv (2 * i) S st r
  acts : st.acts ≤ 20 * i
  rg : r.gen ≤ 1 + i
  kl : Kept st last
  ka : Kept st ahead
  ll : LsOK last
  la : LsOK ahead
  sl : ∀ p ∈ last, Safe r p.page ∧ p.page ∉ r.dead
  sa : ∀ p ∈ ahead, Safe r p.page
  g0 : 0 ≤ gen
  g1 : gen ≤ 1 + i
  nl : last.length ≤ 2 * i
  na : ahead.length ≤ 2 * i
/-- Behind the rounds. -/
structure EndI (st : DevA) (last ahead : List PgR) (gen : Int) : Prop where
  n : st.n = 60
  size : st.size = 96
  acts : st.acts ≤ 4000
  kl : Kept st last
  ka : Kept st ahead
  ll : LsOK last
  la : LsOK ahead
  g0 : 0 ≤ gen
  g1 : gen ≤ 1000
  nl : last.length ≤ 65536
  na : ahead.length ≤ 65536
/-- Flushed and synced, ahead of a commit. -/
structure MidI (i : Nat) (S : StA) (st : DevA) (r : RefS) (last ahead : List PgR) (gen : Int) : Prop where
  inv : Inv (2 * i) S st r
  cl : ∀ k, CleanAt S k
  acts : st.acts ≤ 20 * i + 9
  rg : r.gen ≤ 1 + i
  kl : Kept st last
  ka : Kept st ahead
  ll : LsOK last
  la : LsOK ahead
  sl : last = r.live
  sa : ∀ p ∈ ahead, Safe r p.page ∧ p.page ∉ r.dead
  g : gen = r.gen
  na : ahead.length ≤ 2 * i

section
variable {i : Nat} {k : Int} {S S' : StA} {st st' : DevA} {r r' : RefS} {last ahead : List PgR} {gen : Int} {f : Nat}
theorem LoopI.done (h : LoopI i S st r last ahead gen) (hi : i ≤ 100) : EndI st last ahead gen where
  n := h.inv.m.n
  size := h.inv.m.size
  acts := by have := h.acts; omega
  kl := h.kl
  ka := h.ka
  ll := h.ll
  la := h.la
  g0 := h.g0
  g1 := by have := h.g1; omega
  nl := by have := h.nl; omega
  na := by have := h.na; omega
theorem LoopI.went (h : LoopI i S st r last ahead gen) (hi : i ≤ 100) {c : Nat} (hc : c ≤ 8) (hw : Went r c st st') : EndI st' last ahead gen :=
  { h.done hi with
    n := hw.n.trans h.inv.m.n
    size := hw.size.trans h.inv.m.size
    acts := by have := h.acts; have := hw.acts; omega
    kl := h.kl.step hw fun p hp hh => hh (h.sl p hp).1
    ka := h.ka.step hw fun p hp hh => hh (h.sa p hp) }

theorem LoopI.did (h : LoopI i S st r last ahead gen) (hi : i < 100) (hk : k ≠ 8) (hD : DidR (2 * i) k S st r S' st' r' f) : (f ≠ 0 → EndI st' last ahead gen) ∧ (f = 0 → LoopI (i + 1) S' st' r' last ahead gen) := by
  cases hD with
  | commit h8 => exact absurd h8 hk
  | other _ hw hor =>
    have hE := h.went (by omega) (Nat.le_refl 8) hw
    refine ⟨fun _ => hE, fun hf => ?_⟩
    rcases hor with h4 | ⟨_, hd⟩
    · omega
    · exact { inv := hd.inv.up (by omega), acts := by have := h.acts; have := hw.acts; omega, rg := by rw [hd.gen]; have := h.rg; omega
              kl := hE.kl, ka := hE.ka, ll := h.ll, la := h.la
              sl := fun p hp => ⟨hd.safe _ (h.sl p hp).1, by rw [hd.dead]; exact (h.sl p hp).2⟩
              sa := fun p hp => hd.safe _ (h.sa p hp)
              g0 := h.g0, g1 := by have := h.g1; omega, nl := by have := h.nl; omega, na := by have := h.na; omega }

theorem LoopI.flush (h : LoopI i S st r last ahead gen) (hi : i < 100) {ks : List Int} (hks : KeysR S.mem ks 8) :
    ((S.flushL st ks).1 ≠ 0 → EndI (S.flushL st ks).2.2 last ahead gen) ∧ (S.flushL st ks).2.2.acts ≤ st.acts + 8 ∧
    ((S.flushL st ks).1 = 0 → ((S.flushL st ks).2.2.sync.1 ≠ 0 → EndI (S.flushL st ks).2.2.sync.2 last ahead gen) ∧
      ((S.flushL st ks).2.2.sync.1 = 0 → MidI i (S.flushL st ks).2.1 (S.flushL st ks).2.2.sync.2 r r.live last r.gen)) := by
  obtain ⟨hw, hor⟩ := flush_law r (2 * i) ks S st h.inv
  have hlen := hks.len
  have hE := h.went (by omega) hlen hw
  have hac := h.acts
  have hwa := hw.acts
  refine ⟨fun _ => hE, by omega, fun he => ?_⟩
  rcases hor with h4 | ⟨_, hi2, hc1, hc2, hc3⟩
  · omega
  have hcl : ∀ k, CleanAt (S.flushL st ks).2.1 k := by
    intro k
    by_cases hk : k ∈ ks
    · exact hc2 k hk
    · intro q hq
      exfalso
      apply hk
      rw [hks.mem, ← hc3 k, hq]; rfl
  obtain ⟨⟨s1, s2, s3⟩, hs⟩ := sync_law hi2 hcl
  constructor
  · intro hne
    rcases hs with ⟨_, hkk⟩ | ⟨h0, _⟩
    · exact { hE with n := s1.trans hE.n, size := s2.trans hE.size, acts := by omega, kl := hkk _ hE.kl, ka := hkk _ hE.ka }
    · exact absurd h0 hne
  · intro h0
    rcases hs with ⟨h4, _⟩ | ⟨_, hi3, hkl, hkk⟩
    · omega
    · exact { inv := hi3, cl := hcl, acts := by omega, rg := h.rg, kl := hkl, ka := hkk _ hE.kl, ll := h.inv.ls, la := h.ll, sl := rfl, sa := h.sl, g := rfl, na := h.nl }

theorem MidI.did (h : MidI i S st r last ahead gen) (hi : i < 100) (hk : k = 8) (hD : DidR (2 * i) k S st r S' st' r' f) : f = 0 ∧ LoopI (i + 1) S' st' r' last ahead gen := by
  have hrg := h.rg
  have hac := h.acts
  have hg1 := h.inv.g1
  cases hD with
  | other h8 => exact absurd hk h8
  | commit _ =>
    obtain ⟨hc, hs⟩ := commit_law h.inv h.cl (by omega)
    refine ⟨rfl, { inv := hc.up (by omega), acts := by omega, rg := by show r.gen + 1 ≤ _; omega, kl := h.kl, ka := h.ka, ll := h.ll, la := h.la, sl := fun p hp => ?_, sa := fun p hp => hs _ (h.sa p hp).1 (h.sa p hp).2, g0 := by rw [h.g]; omega, g1 := by rw [h.g]; omega, nl := by rw [h.sl]; have := h.inv.l1; omega, na := by have := h.na; omega }⟩
    rw [h.sl] at hp
    have hv := hc.live p hp
    exact ⟨⟨hv.p0, hv.has, fun hf => by cases hf⟩, hv.de⟩

theorem LoopI.start (hst : st.n = 60) (hs : st.size = 96) (hd : st.down = false) (ha : st.acts = 0) : LoopI 0 (StA.new smallP 0) st (RefS.new 48) [] [] 0 where
  inv :=
    { m := ⟨rfl, rfl, rfl, hst, hs, hd, fun k q hk => (by cases hk), fun k q hk => (by cases hk), fun k q hk => (by cases hk)⟩
      T := rfl
      B := ⟨by decide, by decide, by decide, by decide⟩
      tn := rfl
      gen := rfl
      g1 := by decide
      g2 := by decide
      fr := fun k => ⟨fun hk => (by cases hk), fun hk => (by cases hk)⟩
      dy := fun k => ⟨fun hk => (by cases hk), fun hk => (by cases hk)⟩
      de := fun k => ⟨fun hk => (by cases hk), fun hk => (by cases hk)⟩
      sep1 := fun k hk => (by cases hk)
      sep2 := fun k hk => (by cases hk)
      dyT := fun k hk => (by cases hk)
      deT := fun k hk => (by cases hk)
      frL := fun k hk => (by cases hk)
      live := fun p hp => (by cases hp)
      nodup := List.nodup_nil
      cont := fun p hp => (by cases hp)
      memT := fun k hk => (by cases hk)
      l1 := Nat.zero_le _
      l2 := Nat.zero_le _
      l3 := Nat.zero_le _
      l4 := Nat.zero_le _ }
  acts := by omega
  rg := by decide
  kl := fun p hp => by cases hp
  ka := fun p hp => by cases hp
  ll := LsOK.nil
  la := LsOK.nil
  sl := fun p hp => by cases hp
  sa := fun p hp => by cases hp
  g0 := by decide
  g1 := by decide
  nl := Nat.zero_le _
  na := Nat.zero_le _

theorem EndI.crash (h : EndI st last ahead gen) (hc : Crashed st st') : Kept st' last ∧ Kept st' ahead := by
  have key : ∀ l, Kept st l → Kept st' l := fun l hl p hp => by
    obtain ⟨a, b⟩ := hl p hp
    refine ⟨by rw [hc.fast _ b]; exact a, fun w hw => ?_⟩
    rw [hc.loose] at hw; cases hw
  exact ⟨key _ h.kl, key _ h.ka⟩
end
end Go.Proofs.YtealmijbkebipaaGreatDoor
