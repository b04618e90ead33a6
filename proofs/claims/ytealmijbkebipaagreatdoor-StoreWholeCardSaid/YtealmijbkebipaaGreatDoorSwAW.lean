/- The reference 13: drop, Write, Free, Commit. The plain law of layer 13: leaves read back, the device's steps. The plain law of layer 13: what is in memory, and what on the device. The plain law of layer 13: the store and the document's. -/
import Derived.Test.YtealmijbkebipaaGreatDoorSwAV
namespace Go.Proofs.YtealmijbkebipaaGreatDoor
open Go

theorem ro_row {α : Type} {f : α → List Value} {vs : List Value} {l : List α} {o m n i j : Nat} {a : α} (hf : ∀ a, (f a).length = n) (hv : (vs.drop o).take (m * n) = rowC f l) (h : l[i]? = some a) (hj : j < n) : vs[o + i * n + j]? = (f a)[j]? := by
  have h1 := rowC_cell hf h hj
  rw [Nat.zero_add] at h1
  have hlt : i * n + j < (rowC f l).length := by
    have := rowC_lt hf h j 1 (by omega)
    omega
  have h2 : ((vs.drop o).take (m * n))[i * n + j]? = (f a)[j]? := by rw [hv]; exact h1
  rw [List.getElem?_take] at h2
  split at h2
  · rw [List.getElem?_drop] at h2
    rw [show o + i * n + j = o + (i * n + j) from by omega]; exact h2
  · rename_i hge
    rw [← hv, List.length_take] at hlt; omega
theorem ro_rowA {α : Type} {f : α → List Value} {vs : List Value} {l : List α} {o m n i : Nat} {a : α} (hf : ∀ a, (f a).length = n) (hv : (vs.drop o).take (m * n) = rowC f l) (h : l[i]? = some a) : (vs.drop (o + i * n)).take n = f a := by
  apply List.ext_getElem?
  intro j
  rw [List.getElem?_take]
  split
  · rename_i hj
    rw [List.getElem?_drop, ro_row hf hv h hj]
  · rename_i hj
    rw [List.getElem?_eq_none (by rw [hf]; omega)]
theorem ent_pgHi {x : SV} {l : List PgR} {k : Nat} {L : List HP} (hp : HasPe L (roSl x (rowC pgC l) 3)) (hk : k ≤ x.n) : Ent L (pe (roSl (x.sl 0 k 3) (rowC pgC (l.take k)) 3) :: L) := by
  have := ent_sl hp (Nat.zero_le _) hk
  rw [Nat.zero_mul, List.drop_zero, Nat.sub_zero, rowC_take pgC_len] at this
  exact this
theorem ent_pgLo {x : SV} {l : List PgR} {k : Nat} {L : List HP} (hp : HasPe L (roSl x (rowC pgC l) 3)) (hk : k ≤ x.n) : Ent L (pe (roSl (x.sl k x.n 3) (rowC pgC (l.drop k)) 3) :: L) := by
  intro h0 r hs
  have hf := roSl_fact (hp.q hs)
  have hlen := hf.1
  have h2 := ent_sl hp hk (Nat.le_refl _) h0 r hs
  have e : ((rowC pgC l).drop (k * 3)).take ((x.n - k) * 3) = rowC pgC (l.drop k) := by
    rw [List.take_of_length_le (by rw [List.length_drop, hlen, Nat.sub_mul]; exact Nat.le_refl _), rowC_drop pgC_len]
  rw [e] at h2; exact h2

attribute [local irreducible] own pe nf

structure DrpX where
  r : RefS
  X : RefX
theorem s_sgraffitoref13_drop {r : RefS} {X : RefX} {i : Nat} {p : PgR} (hB : RefB r) (hp : r.live[i]? = some p) : FnSpec Tryz.prog 56 #[refSV r X, .int .i64 i] [pe (refP r X)]
    (fun y : DrpX => refSV y.r y.X) (fun y => DropR r i y.r) (fun y R => pe (refP y.r y.X) :: R) := by
  refine fn_spec Tryz.func56 rfl rfl rfl rfl fun G R => ?_
  dsimp only [List.append_eq, List.cons_append, List.nil_append]
  refine wk_ent (ent_refOut (by repeat constructor)) ?_
  refine wk_ro (x := X.xl) (cells := rowC pgC r.live) (size := 3) (by repeat constructor) fun hl => ?_
  have hln : X.xl.n = r.live.length := by have := hl.1; rw [rowC_len pgC_len] at this; omega
  have hlc := hl.2.1
  have hlive := hB.live
  have hil := (List.getElem?_eq_some_iff.1 hp).1
  have htl := hB.B.tl
  have htle := hB.B.le
  have hs1 : (X.xl.sl 0 i 3).n = i := by rw [SV.sl_n]; omega
  have hs2 : (X.xl.sl (i + 1) X.xl.n 3).n = X.xl.n - (i + 1) := rfl
  have hcut : r.live.take i ++ r.live.drop (i + 1) = r.live.eraseIdx i := (List.eraseIdx_eq_take_drop_succ _ _).symm
  refine wk_ent (ent_pgHi (x := X.xl) (l := r.live) (k := i) (by repeat constructor) (by omega)) ?_
  refine wk_ent (ent_pgLo (x := X.xl) (l := r.live) (k := i + 1) (by repeat constructor) (by omega)) ?_
  refine wk_block' (x := X.xl) (cells := rowC pgC r.live) (size := 3) (by repeat constructor) (by omega) fun b9 o9 vs9 T9 fz9 ha9 hv9 hle9 => ?_
  refine wk_seq ?_
  refine wk_region ?_
  refine wo_w (w_boxA rfl fun b1 => ?_)
  refine wo_w (w_allocA tyZ_43 fun b2 => ?_)
  refine wo_nil ?_
  refine wk_seq ?_
  refine wk_region ?_
  refine wo_v (v_fieldAddr tyF_43_2 rfl) ?_
  refine wo_v (v_load tyS_41 rfl rfl) ?_
  refine wo_v (v_move rfl) ?_
  refine wo_v (v_indexAddrS tyU_41 tyN_86 rfl rfl ha9 (by omega)) ?_
  refine wo_v (v_fieldAddr tyF_86_0 rfl) ?_
  refine wo_v (v_load tyS_3 rfl (ro_row pgC_len hv9 hp (j := 0) (by decide))) ?_
  refine wo_v (v_assign rfl) ?_
  refine wo_nil ?_
  refine wk_seq ?_
  refine wk_draw (n := 14) (pend := 16383) ⟨13, fun w => Sat G w [blk b1 (refC r X) 43]⟩ mixed (by kernel_rfl) rfl (fun w s_ => Ent.sat (by refine ent_take ?_; exact ent_nil) s_) rfl ?_
  refine wd_p 1 rfl (v_fieldAddr tyF_43_2 rfl) ?_
  refine wd_p 3 rfl (v_move rfl) ?_
  refine wd_p 6 rfl (v_fieldAddr tyF_43_2 rfl) ?_
  refine wd_p 8 rfl (v_move rfl) ?_
  refine wd_p 9 rfl (v_addI rfl rfl) ?_
  refine wd_fr 2 rfl (fun w h => h) (v_load tyS_41 rfl rfl) ?_
  refine wd_p 4 rfl (v_sliceHiS (x := X.xl) (h := i) tyU_41 tyN_86 rfl rfl (by omega)) ?_
  refine wd_fr 7 rfl (fun w h => h) (v_load tyS_41 rfl rfl) ?_
  refine wd_p 10 rfl (v_sliceLoS (x := X.xl) (l := i + 1) tyU_41 tyN_86 rfl rfl (by omega)) ?_
  refine wd_l 0 rfl (w_buildSlice0 tyU_41 tyN_86 fun e0 => ?_)
  refine ⟨fun w s_ _ => Ent.sat (by refine ent_take ?_; exact ent_nil) s_, ?_⟩
  refine wd_ent ((ent_take (p := blk e0 [] 86) (t := by repeat constructor) (Ent.refl _)).trans (ent_oslEmpty (size := 3))) ?_
  refine wd_l 5 rfl (w_append (x := ⟨some ⟨e0, 0, none⟩, 0, 0⟩) tyU_41 tyU_41 (.inl ⟨_, rfl⟩) tyB_86 tyN_86 tyZ_86 rfl (by decide) rfl rfl (src_ro (x := X.xl.sl 0 i 3)) (allOne_pg _) (by repeat constructor) (by (try dsimp only); omega) (by (try dsimp only); omega) (by rw [rowC_len pgC_len, List.length_take, hs1]; omega) fun e1 he1 => ?_)
  refine ⟨fun w s_ _ => Ent.sat (by refine ent_take ?_; exact ent_nil) s_, ?_⟩
  have he1n : e1.n = i := by rw [he1]; show 0 + (X.xl.sl 0 i 3).n = _; omega
  refine wd_l 11 rfl (w_append (x := e1) tyU_41 tyU_41 (.inl ⟨_, rfl⟩) tyB_86 tyN_86 tyZ_86 rfl (by decide) rfl rfl (src_ro (x := X.xl.sl (i + 1) X.xl.n 3)) (allOne_pg _) (by repeat constructor) (by (try dsimp only); omega) (by (try dsimp only); omega) (by rw [rowC_len pgC_len, List.length_drop, hs2]; omega) fun e2 he2 => ?_)
  refine ⟨fun w s_ _ => Ent.sat (by refine ent_take ?_; exact ent_nil) s_, ?_⟩
  refine wd_a 12 rfl (v_fieldAddr tyF_43_2 rfl) ?_
  refine wd_l0 13 rfl (w_storeN1 tyN_41 rfl rfl rfl (by repeat constructor) (by repeat constructor) ?_)
  refine ⟨fun w s_ => Wat.gone (by decide), ?_⟩
  refine wd_done ?_
  refine wk_seq ?_
  refine wk_seq ?_
  refine wk_region ?_
  refine wo_v (v_fieldAddr tyF_43_3 rfl) ?_
  refine wo_v (v_load tyS_23 rfl rfl) ?_
  refine wo_v (v_move rfl) ?_
  refine wo_w (w_call (s_sgraffitoref13_in (x := X.xf) (l := r.fresh) (n := p.page) hB.fresh) rfl (by repeat constructor) ?_)
  rintro ⟨⟩ -
  refine wo_nil ?_
  refine wk_if rfl (fun hfr => ?_) (fun hfr => ?_)
  · refine wk_seq ?_
    refine wk_region ?_
    refine wo_v (v_fieldAddr tyF_43_3 rfl) ?_
    refine wo_v (v_load tyS_23 rfl rfl) ?_
    refine wo_v (v_move rfl) ?_
    refine wo_w (w_call (s_sgraffitoref13_without (x := X.xf) (l := r.fresh) (n := p.page) hB.fresh) rfl (by repeat constructor) ?_)
    rintro z -
    refine wo_v (v_fieldAddr tyF_43_3 rfl) ?_
    refine wo_w0 (w_storeN1 tyN_23 rfl rfl rfl (by repeat constructor) (by repeat constructor) ?_)
    refine wo_nil ?_
    refine wk_seq ?_
    refine wk_region ?_
    refine wo_v (v_fieldAddr tyF_43_0 rfl) ?_
    refine wo_v (v_loadN tyA_40 rfl (by repeat constructor) (by repeat constructor)) ?_
    refine wo_v (v_move rfl) ?_
    refine wo_w (w_call (s_sgraffitoref07_Clear (T := r.T) (x := X.xt) (i := p.page) (by omega)) rfl (by repeat constructor) ?_)
    rintro w hw
    refine wo_v (v_move rfl) ?_
    refine wo_v (v_extract rfl rfl) ?_
    refine wo_v (v_extract rfl rfl) ?_
    refine wo_w (w_allocA tyZ_40 fun b3 => ?_)
    refine wo_w0 (w_storeN tyN_40 rfl rfl rfl rfl (by repeat constructor) (by repeat constructor) ?_)
    refine wo_v (v_assign rfl) ?_
    refine wo_nil ?_
    refine wk_seq ?_
    refine wk_region ?_
    refine wo_v (v_loadN tyA_40 rfl (by repeat constructor) (by repeat constructor)) ?_
    refine wo_v (v_fieldAddr tyF_43_0 rfl) ?_
    refine wo_w0 (w_storeN tyN_40 rfl rfl rfl rfl (by repeat constructor) (by repeat constructor) ?_)
    refine wo_nil ?_
    refine wk_seq ?_
    refine wk_region ?_
    refine wo_v (v_loadN tyA_43 rfl (by repeat constructor) (by repeat constructor)) ?_
    refine wo_w0 (w_storeN tyN_43 rfl rfl rfl rfl (by repeat constructor) (by repeat constructor) ?_)
    refine wo_nil ?_
    refine wk_ret Tryz.func56 rfl rfl (res_cellA tyA_43 rfl (by repeat constructor) rfl res_nil) fun W h => ?_
    have hfr' : p.page ∈ r.fresh := by simpa using hfr
    have hr := DropR.fresh hp hfr'
    have hhand : (r.T.clr p.page).hand = r.T.hand := by unfold SetA.clr; split <;> rfl
    have hc2 : ([] ++ rowC pgC (r.live.take i)) ++ rowC pgC (r.live.drop (i + 1)) = rowC pgC (r.live.eraseIdx i) := by rw [← hcut, rowC_append, List.nil_append]
    have hA := Ent.sat (ent_take (p := osl e2 (([] ++ rowC pgC (r.live.take i)) ++ rowC pgC (r.live.drop (i + 1))) 3 86) (t := by repeat constructor) (Ent.refl _)) h
    rw [hc2] at hA
    have hC := up_freeze _ _ hA
    refine ⟨⟨{ r with live := r.live.eraseIdx i, fresh := r.fresh.filter (fun j => !decide (j = p.page)), T := r.T.clr p.page }, ⟨w, e2, z, X.xy, X.xd⟩⟩, rfl, hr, Ent.sat ?_ hC⟩
    refine (ent_refIn (by repeat constructor) (by repeat constructor) (by repeat constructor) (by repeat constructor) (by repeat constructor) ?_)
    exact ent_tail
  · refine wk_skip ?_
    refine wk_seq ?_
    refine wk_region ?_
    refine wo_v (v_fieldAddr tyF_43_4 rfl) ?_
    refine wo_v (v_load tyS_23 rfl rfl) ?_
    refine wo_v (v_move rfl) ?_
    refine wo_w (w_call (s_sgraffitoref13_with (x := X.xy) (l := r.dying) (n := p.page) hB.dying) rfl (by repeat constructor) ?_)
    rintro ⟨z, k⟩ ⟨hk, hz⟩
    refine wo_v (v_fieldAddr tyF_43_4 rfl) ?_
    refine wo_w0 (w_storeN1 tyN_23 rfl rfl rfl (by repeat constructor) (by repeat constructor) ?_)
    refine wo_nil ?_
    refine wk_seq ?_
    refine wk_region ?_
    refine wo_v (v_loadN tyA_43 rfl (by repeat constructor) (by repeat constructor)) ?_
    refine wo_w0 (w_storeN tyN_43 rfl rfl rfl rfl (by repeat constructor) (by repeat constructor) ?_)
    refine wo_nil ?_
    refine wk_ret Tryz.func56 rfl rfl (res_cellA tyA_43 rfl (by repeat constructor) rfl res_nil) fun W h => ?_
    have hfr' : p.page ∉ r.fresh := by simpa using hfr
    have hr := DropR.old hp hfr' (⟨k, hk, rfl⟩ : WithR r.dying p.page _)
    have hc2 : ([] ++ rowC pgC (r.live.take i)) ++ rowC pgC (r.live.drop (i + 1)) = rowC pgC (r.live.eraseIdx i) := by rw [← hcut, rowC_append, List.nil_append]
    have hA := Ent.sat (ent_take (p := osl e2 (([] ++ rowC pgC (r.live.take i)) ++ rowC pgC (r.live.drop (i + 1))) 3 86) (t := by repeat constructor) (Ent.refl _)) h
    rw [hc2] at hA
    have hC := up_freeze _ _ hA
    refine ⟨⟨{ r with live := r.live.eraseIdx i, dying := r.dying.take k ++ p.page :: r.dying.drop k }, ⟨X.xt, e2, X.xf, z, X.xd⟩⟩, rfl, hr, Ent.sat ?_ hC⟩
    refine (ent_refIn (by repeat constructor) (by repeat constructor) (by repeat constructor) (by repeat constructor) (by repeat constructor) ?_)
    exact ent_tail

theorem s_sgraffitoref13_Free {r : RefS} {X : RefX} {i : Nat} {p : PgR} (hB : RefB r) (hp : r.live[i]? = some p) : FnSpec Tryz.prog 29 #[refSV r X, .int .i64 i] [pe (refP r X)]
    (fun y : DrpX => refSV y.r y.X) (fun y => DropR r i y.r) (fun y R => pe (refP y.r y.X) :: R) := by
  refine fn_spec Tryz.func29 rfl rfl rfl rfl fun G R => ?_
  dsimp only [List.append_eq, List.cons_append, List.nil_append]
  refine wk_seq ?_
  refine wk_region ?_
  refine wo_w (w_boxA rfl fun b1 => ?_)
  refine wo_w (w_allocA tyZ_43 fun b2 => ?_)
  refine wo_nil ?_
  refine wk_seq ?_
  refine wk_region ?_
  refine wo_v (v_loadN tyA_43 rfl (by repeat constructor) (by repeat constructor)) ?_
  refine wo_v (v_move rfl) ?_
  refine wo_w (w_call (s_sgraffitoref13_drop (r := r) (X := X) (i := i) (p := p) hB hp) rfl (by repeat constructor) ?_)
  rintro y hy
  refine wo_w0 (w_storeN tyN_43 rfl rfl rfl rfl (by repeat constructor) (by repeat constructor) ?_)
  refine wo_nil ?_
  refine wk_ret Tryz.func29 rfl rfl (res_cellA tyA_43 rfl (by repeat constructor) rfl res_nil) fun W h => ?_
  exact ⟨y, rfl, hy, Ent.sat (by refine ent_take ?_; exact ent_tail) h⟩

theorem clr_n (T : SetA) (i : Int) : (T.clr i).n = T.n := by unfold SetA.clr; split <;> rfl
theorem clr_hand (T : SetA) (i : Int) : (T.clr i).hand = T.hand := by unfold SetA.clr; split <;> rfl
theorem clr_len (T : SetA) (i : Int) : (T.clr i).taken.length = T.taken.length := by unfold SetA.clr; split <;> simp [SetA.put]
theorem clrs_hand (l : List Int) (T : SetA) : (l.foldl SetA.clr T).hand = T.hand := by
  induction l generalizing T with
  | nil => rfl
  | cons a l ih => rw [List.foldl_cons, ih, clr_hand]
theorem clrs_len (l : List Int) (T : SetA) : (l.foldl SetA.clr T).taken.length = T.taken.length := by
  induction l generalizing T with
  | nil => rfl
  | cons a l ih => rw [List.foldl_cons, ih, clr_len]

theorem s_sgraffitoref13_Commit {r : RefS} {X : RefX} (hB : RefB r) : FnSpec Tryz.prog 32 #[refSV r X] [pe (refP r X)]
    (fun Y : RefX => refSV r.commit Y) (fun _ => True) (fun Y R => pe (refP r.commit Y) :: R) := by
  refine fn_spec Tryz.func32 rfl rfl rfl rfl fun G R => ?_
  dsimp only [List.append_eq, List.cons_append, List.nil_append]
  refine wk_ent (ent_refOut (by repeat constructor)) ?_
  refine wk_ro (x := X.xd) (cells := r.dead.map keyV) (size := 1) (by repeat constructor) fun hd => ?_
  have hdn : X.xd.n = r.dead.length := by have := hd.1; simpa using this.symm
  have hdl := hB.dead
  have hg1 := hB.g1
  have hg2 := hB.g2
  have htl := hB.B.tl
  have htle := hB.B.le
  refine wk_seq ?_
  refine wk_region ?_
  refine wo_w (w_boxA rfl fun b1 => ?_)
  refine wo_w (w_allocA tyZ_43 fun b2 => ?_)
  refine wo_nil ?_
  refine wk_seq ?_
  refine wk_seq ?_
  refine wk_region ?_
  refine wo_v (v_assign rfl) ?_
  refine wo_nil ?_
  refine wk_block ?_
  refine wk_loop (fun a : Nat × SV => a.1 ≤ r.dead.length) (fun a => [(1, .pointer (some ⟨b1, 0, none⟩)), (2, .pointer (some ⟨b2, 0, none⟩)), (3, .int .i64 a.1)]) (fun a => pe (roSl a.2 (bools ((r.dead.take a.1).foldl SetA.clr r.T)) 1) :: blk b1 [a.2.v, .int .i64 r.T.hand, .int .i64 r.gen, X.xl.v, X.xf.v, X.xy.v, X.xd.v] 43 :: blk b2 _ 43 :: pe (roSl X.xl (rowC pgC r.live) 3) :: pe (roSl X.xy (r.dying.map keyV) 1) :: pe (roSl X.xd (r.dead.map keyV) 1) :: R) (fun a => r.dead.length - a.1) (0, X.xt) (Nat.zero_le _) ⟨rfl, rfl, rfl, trivial⟩ (by refine ent_take ?_; refine ent_take ?_; refine ent_take ?_; refine ent_take ?_; refine ent_take ?_; refine ent_take ?_; exact ent_tail) fun a0 hI next => ?_
  obtain ⟨i, w⟩ := a0
  dsimp only at hI next ⊢
  refine wk_seq ?_
  refine wk_seq ?_
  refine wk_region ?_
  refine wo_v (v_move rfl) ?_
  refine wo_v (v_fieldAddr tyF_43_5 rfl) ?_
  refine wo_v (v_load tyS_23 rfl rfl) ?_
  refine wo_v (v_len tyU_23 rfl) ?_
  refine wo_v (v_lss rfl rfl) ?_
  refine wo_nil ?_
  refine wk_if rfl (fun hb => ?_) (fun hb => ?_)
  · have hil : i < r.dead.length := by omega
    have hg : r.dead[i]? = some r.dead[i] := List.getElem?_eq_getElem hil
    have htk : (r.dead.take (i + 1)).foldl SetA.clr r.T = ((r.dead.take i).foldl SetA.clr r.T).clr r.dead[i] := by rw [List.take_succ_eq_append_getElem hil, List.foldl_append]; rfl
    generalize r.dead[i] = q at hg htk
    have hh := clrs_hand (r.dead.take i) r.T
    have hlen := clrs_len (r.dead.take i) r.T
    generalize (r.dead.take i).foldl SetA.clr r.T = T at htk hh hlen ⊢
    refine wk_block' (x := X.xd) (cells := r.dead.map keyV) (size := 1) (by repeat constructor) (by omega) fun b9 o9 vs9 T9 fz9 ha9 hv9 hle9 => ?_
    refine wk_skip ?_
    refine wk_seq ?_
    refine wk_block ?_
    refine wk_seq ?_
    refine wk_draw (n := 14) (pend := 16383) ⟨14, fun _ => True⟩ mixed (by kernel_rfl) rfl (fun _ _ => trivial) rfl ?_
    refine wd_x 0 rfl (v_fieldAddr tyF_43_0 rfl) ?_
    refine wd_x 1 rfl (v_loadN tyA_40 rfl (by repeat constructor) (by repeat constructor)) ?_
    refine wd_x 2 rfl (v_fieldAddr tyF_43_5 rfl) ?_
    refine wd_x 3 rfl (v_load tyS_23 rfl rfl) ?_
    refine wd_x 4 rfl (v_move rfl) ?_
    refine wd_x 5 rfl (v_indexAddrS tyU_23 tyN_3 rfl rfl ha9 (by omega)) ?_
    refine wd_x 6 rfl (v_load tyS_3 rfl (ro_get hv9 (keyV_at hg))) ?_
    refine wd_alt [7, 11] (by kernel_rfl) ⟨7, by simp, by kernel_rfl⟩ ?_
    intro i hi
    simp only [List.mem_cons, List.not_mem_nil, or_false] at hi
    rcases hi with rfl | rfl
    · refine alt_l rfl (w_call (show FnSpec Tryz.prog 64 #[.agg (List.toArray [w.v, .int .i64 r.T.hand]), .int .i64 q] [pe (roSl w (bools T) 1)] _ _ _ from by rw [← hh]; exact s_sgraffitoref07_Clear (T := T) (x := w) (i := q) (by omega)) rfl (by repeat constructor) ?_)
      rintro w2 hw2
      refine ⟨fun _ _ _ => trivial, ?_⟩
      refine wd_x 8 rfl (v_move rfl) ?_
      refine wd_x 9 rfl (v_extract rfl rfl) ?_
      refine wd_p 10 rfl (v_extract rfl rfl) ?_
      refine wd_l 11 rfl (w_allocA tyZ_40 fun b3 => ?_)
      refine ⟨fun _ _ _ => trivial, ?_⟩
      refine wd_l0 12 rfl (w_storeN tyN_40 rfl rfl rfl rfl (by repeat constructor) (by repeat constructor) ?_)
      refine ⟨fun _ _ _ => trivial, ?_⟩
      refine wd_a 13 rfl (v_assign rfl) ?_
      refine wd_done ?_
      refine wk_region ?_
      refine wo_v (v_loadN tyA_40 rfl (by repeat constructor) (by repeat constructor)) ?_
      refine wo_v (v_fieldAddr tyF_43_0 rfl) ?_
      refine wo_w0 (w_storeN tyN_40 rfl rfl rfl rfl (by repeat constructor) (by repeat constructor) ?_)
      refine wo_nil ?_
      refine wk_inBlock ?_
      refine wk_region ?_
      refine wo_v (v_move rfl) ?_
      refine wo_v (v_addI rfl rfl) ?_
      refine wo_v (v_assign rfl) ?_
      refine wo_nil ?_
      rw [clr_hand, hh]
      refine (next (i + 1, w2) (by dsimp only; omega) (by dsimp only; omega)).use ⟨rfl, rfl, rfl, trivial⟩ ?_
      dsimp only
      rw [htk]
      exact (by refine ent_take ?_; refine ent_take ?_; refine ent_take ?_; refine ent_take ?_; refine ent_take ?_; refine ent_take ?_; exact ent_tail)
    · refine alt_l rfl (w_allocA tyZ_40 fun b4 => ?_)
      refine ⟨fun _ _ _ => trivial, ?_⟩
      refine wd_l 7 rfl (w_call (show FnSpec Tryz.prog 64 #[.agg (List.toArray [w.v, .int .i64 r.T.hand]), .int .i64 q] [pe (roSl w (bools T) 1)] _ _ _ from by rw [← hh]; exact s_sgraffitoref07_Clear (T := T) (x := w) (i := q) (by omega)) rfl (by repeat constructor) ?_)
      rintro w2 hw2
      refine ⟨fun _ _ _ => trivial, ?_⟩
      refine wd_a 8 rfl (v_move rfl) ?_
      refine wd_a 9 rfl (v_extract rfl rfl) ?_
      refine wd_p 10 rfl (v_extract rfl rfl) ?_
      refine wd_l0 12 rfl (w_storeN tyN_40 rfl rfl rfl rfl (by repeat constructor) (by repeat constructor) ?_)
      refine ⟨fun _ _ _ => trivial, ?_⟩
      refine wd_a 13 rfl (v_assign rfl) ?_
      refine wd_done ?_
      refine wk_region ?_
      refine wo_v (v_loadN tyA_40 rfl (by repeat constructor) (by repeat constructor)) ?_
      refine wo_v (v_fieldAddr tyF_43_0 rfl) ?_
      refine wo_w0 (w_storeN tyN_40 rfl rfl rfl rfl (by repeat constructor) (by repeat constructor) ?_)
      refine wo_nil ?_
      refine wk_inBlock ?_
      refine wk_region ?_
      refine wo_v (v_move rfl) ?_
      refine wo_v (v_addI rfl rfl) ?_
      refine wo_v (v_assign rfl) ?_
      refine wo_nil ?_
      rw [clr_hand, hh]
      refine (next (i + 1, w2) (by dsimp only; omega) (by dsimp only; omega)).use ⟨rfl, rfl, rfl, trivial⟩ ?_
      dsimp only
      rw [htk]
      exact (by refine ent_take ?_; refine ent_take ?_; refine ent_take ?_; refine ent_take ?_; refine ent_take ?_; refine ent_take ?_; exact ent_tail)
  · refine wk_exit rfl ?_
    refine wk_seq ?_
    refine wk_region ?_
    refine wo_v (v_fieldAddr tyF_43_4 rfl) ?_
    refine wo_v (v_load tyS_23 rfl rfl) ?_
    refine wo_v (v_fieldAddr tyF_43_5 rfl) ?_
    refine wo_w0 (w_storeN1 tyN_23 rfl rfl rfl (by repeat constructor) (by repeat constructor) ?_)
    refine wo_v (v_fieldAddr tyF_43_4 rfl) ?_
    refine wo_w0 (w_storeN1 tyN_23 rfl rfl rfl (by repeat constructor) (by repeat constructor) ?_)
    refine wo_v (v_fieldAddr tyF_43_3 rfl) ?_
    refine wo_w0 (w_storeN1 tyN_23 rfl rfl rfl (by repeat constructor) (by repeat constructor) ?_)
    refine wo_nil ?_
    refine wk_seq ?_
    refine wk_region ?_
    refine wo_v (v_fieldAddr tyF_43_1 rfl) ?_
    refine wo_v (v_load tyS_3 rfl rfl) ?_
    refine wo_v (v_addI rfl rfl) ?_
    refine wo_v (v_fieldAddr tyF_43_1 rfl) ?_
    refine wo_w0 (w_storeN1 tyN_3 rfl rfl rfl (by repeat constructor) (by repeat constructor) ?_)
    refine wo_nil ?_
    refine wk_seq ?_
    refine wk_region ?_
    refine wo_v (v_loadN tyA_43 rfl (by repeat constructor) (by repeat constructor)) ?_
    refine wo_w0 (w_storeN tyN_43 rfl rfl rfl rfl (by repeat constructor) (by repeat constructor) ?_)
    refine wo_nil ?_
    refine wk_ret Tryz.func32 rfl rfl (res_cellA tyA_43 rfl (by repeat constructor) rfl res_nil) fun W h => ?_
    have hil : i = r.dead.length := by omega
    rw [hil, List.take_length] at h
    have hh := clrs_hand r.dead r.T
    have h1 := Ent.sat (ent_roNil (x := nilSV) (size := 1) rfl (Ent.refl _)) h
    refine ⟨⟨w, X.xl, nilSV, nilSV, X.xy⟩, ?_, trivial, Ent.sat ?_ h1⟩
    · show _ = Value.agg #[w.v, .int .i64 (r.dead.foldl SetA.clr r.T).hand, .int .i64 (r.gen + 1), X.xl.v, nilSV.v, nilSV.v, X.xy.v]
      rw [hh]; rfl
    · refine (ent_refIn (r := r.commit) (X := ⟨w, X.xl, nilSV, nilSV, X.xy⟩) (.there (.there (.there .here))) (.there (.there (.there (.there .here)))) .here .here (.there (.there (.there (.there (.there .here))))) ?_)
      exact ent_tail

structure WrX where
  r : RefS
  X : RefX
  p : PgR
  ok : Bool
theorem s_sgraffitoref13_Write {r : RefS} {X : RefX} {i : Nat} {p : PgR} {load : List UInt8} (hB : RefB r) (hp : r.live[i]? = some p) (hB2 : ∀ r1 q, MakeR r load r1 q true → RefB r1 ∧ ∃ p1, r1.live[i]? = some p1) : FnSpec Tryz.prog 25 #[refSV r X, .int .i64 i, str load] [pe (refP r X)]
    (fun y : WrX => .tuple #[refSV y.r y.X, pgRV y.p, .bool y.ok]) (fun y => WrR r i load y.r y.p y.ok) (fun y R => pe (refP y.r y.X) :: R) := by
  refine fn_spec Tryz.func25 rfl rfl rfl rfl fun G R => ?_
  dsimp only [List.append_eq, List.cons_append, List.nil_append]
  refine wk_ent (ent_refOut (by repeat constructor)) ?_
  refine wk_ro (x := X.xl) (cells := rowC pgC r.live) (size := 3) (by repeat constructor) fun hl => ?_
  have hln : X.xl.n = r.live.length := by have := hl.1; rw [rowC_len pgC_len] at this; omega
  have hlive := hB.live
  have hil := (List.getElem?_eq_some_iff.1 hp).1
  refine wk_block' (x := X.xl) (cells := rowC pgC r.live) (size := 3) (by repeat constructor) (by omega) fun b9 o9 vs9 T9 fz9 ha9 hv9 hle9 => ?_
  refine wk_seq ?_
  refine wk_region ?_
  refine wo_w (w_boxA rfl fun b1 => ?_)
  refine wo_w (w_allocA tyZ_43 fun b2 => ?_)
  refine wo_w (w_allocA tyZ_86 fun b3 => ?_)
  refine wo_v (v_assign rfl) ?_
  refine wo_nil ?_
  refine wk_seq ?_
  refine wk_region ?_
  refine wo_v (v_fieldAddr tyF_43_2 rfl) ?_
  refine wo_v (v_load tyS_41 rfl rfl) ?_
  refine wo_v (v_move rfl) ?_
  refine wo_v (v_indexAddrS tyU_41 tyN_86 rfl rfl ha9 (by omega)) ?_
  refine wo_v (v_loadA tyA_86 rfl (ro_rowA pgC_len hv9 hp) rfl) ?_
  refine wo_w (w_allocA tyZ_86 fun b4 => ?_)
  refine wo_w0 (w_storeN tyN_86 rfl rfl rfl rfl (by repeat constructor) (by repeat constructor) ?_)
  refine wo_nil ?_
  refine wk_seq ?_
  refine wk_seq ?_
  refine wk_region ?_
  refine wo_v (v_fieldAddr tyF_43_3 rfl) ?_
  refine wo_v (v_load tyS_23 rfl rfl) ?_
  refine wo_v (v_fieldAddr tyF_86_0 rfl) ?_
  refine wo_v (v_load tyS_3 rfl rfl) ?_
  refine wo_w (w_call (s_sgraffitoref13_in (x := X.xf) (l := r.fresh) (n := p.page) hB.fresh) rfl (by repeat constructor) ?_)
  rintro ⟨⟩ -
  refine wo_nil ?_
  refine wk_if rfl (fun hfr => ?_) (fun hfr => ?_)
  · refine wk_seq ?_
    refine wk_region ?_
    refine wo_w (w_buildSlice0 tyU_41 tyN_86 fun e0 => ?_)
    refine wo_ent ((ent_take (p := blk e0 [] 86) (t := by repeat constructor) (Ent.refl _)).trans (ent_oslEmpty (size := 3))) ?_
    refine wo_v (v_fieldAddr tyF_43_2 rfl) ?_
    refine wo_v (v_load tyS_41 rfl rfl) ?_
    refine wo_w (w_append (x := ⟨some ⟨e0, 0, none⟩, 0, 0⟩) tyU_41 tyU_41 (.inl ⟨_, rfl⟩) tyB_86 tyN_86 tyZ_86 rfl (by decide) rfl rfl (src_ro (x := X.xl)) (allOne_pg _) (by repeat constructor) (by (try dsimp only); omega) (by (try dsimp only); omega) hl.1 fun e1 he1 => ?_)
    refine wo_v (v_fieldAddr tyF_43_2 rfl) ?_
    refine wo_w0 (w_storeN1 tyN_41 rfl rfl rfl (by repeat constructor) (by repeat constructor) ?_)
    refine wo_nil ?_
    have he1n : e1.n = r.live.length := by rw [he1]; show 0 + X.xl.n = _; omega
    refine wk_ent (ent_take (p := osl e1 ([] ++ rowC pgC r.live) 3 86) (t := by repeat constructor) (Ent.refl _)) ?_
    rw [List.nil_append]
    refine wk_oslOpen (by omega) fun bb sp ha q1 q2 q3 q4 => ?_
    refine wk_seq ?_
    refine wk_region ?_
    refine wo_v (v_fieldAddr tyF_43_2 rfl) ?_
    refine wo_v (v_load tyS_41 rfl rfl) ?_
    refine wo_v (v_move rfl) ?_
    refine wo_v (v_move rfl) ?_
    refine wo_v (v_indexAddrS tyU_41 tyN_86 rfl rfl ha (by omega)) ?_
    refine wo_v (v_fieldAddr tyF_86_2 rfl) ?_
    refine wo_w0 (w_store1 tyN_9 rfl rfl rfl (blt_of (b := (rowC pgC r.live ++ sp).length) (by have := rowC_lt pgC_len hp 2 1 (by decide); rw [List.length_append]; omega)) (by repeat constructor) ?_)
    rw [List.set_append_left _ _ (by have := rowC_lt pgC_len hp 2 1 (by decide); omega), rowC_put1 (a' := { p with load := load }) pgC_len hp (by decide) rfl]
    refine wo_nil ?_
    have hp' : (r.live.set i { p with load := load })[i]? = some { p with load := load } := List.getElem?_set_self hil
    refine wk_seq ?_
    refine wk_draw (n := 9) (pend := 511) ⟨7, fun w => Sat G w [blk b1 [X.xt.v, .int .i64 r.T.hand, .int .i64 r.gen, e1.v, X.xf.v, X.xy.v, X.xd.v] 43, blk bb (rowC pgC (r.live.set i { p with load := load }) ++ sp) 86]⟩ mixed (by kernel_rfl) rfl (fun w s_ => Ent.sat (by refine ent_take ?_; refine ent_take ?_; exact ent_nil) s_) rfl ?_
    refine wd_a 0 rfl (v_loadN tyA_43 rfl (by repeat constructor) (by repeat constructor)) ?_
    refine wd_p 1 rfl (v_fieldAddr tyF_43_2 rfl) ?_
    refine wd_p 3 rfl (v_move rfl) ?_
    refine wd_fr 2 rfl (fun w h => h) (v_load tyS_41 rfl rfl) ?_
    refine wd_p 4 rfl (v_indexAddrS tyU_41 tyN_86 rfl rfl ha (by omega)) ?_
    refine wd_fr 5 rfl (fun w h => h) (v_loadA tyA_86 rfl (rowC_get pgC_len hp' sp) rfl) ?_
    refine wd_l0 6 rfl (w_storeN tyN_43 rfl rfl rfl rfl (by repeat constructor) (by repeat constructor) ?_)
    refine ⟨fun w s_ _ => Ent.sat (by refine ent_take ?_; refine ent_take ?_; exact ent_nil) s_, ?_⟩
    refine wd_l0 7 rfl (w_storeN tyN_86 rfl rfl rfl rfl (by repeat constructor) (by repeat constructor) ?_)
    refine ⟨fun w s_ => Wat.gone (by decide), ?_⟩
    refine wd_a 8 rfl (v_assign rfl) ?_
    refine wd_done ?_
    refine wk_ret Tryz.func25 rfl rfl (res_cellA tyA_43 rfl (by repeat constructor) rfl (res_cellA tyA_86 rfl (by repeat constructor) rfl (res_tmp rfl res_nil))) fun W h => ?_
    have hfr' : p.page ∈ r.fresh := by simpa using hfr
    have h1 : (rowC pgC (r.live.set i { p with load := load })).length = e1.n * 3 := by rw [rowC_len pgC_len, List.length_set, he1n]
    have h2 : (rowC pgC (r.live.set i { p with load := load }) ++ sp).length = e1.c * 3 := by rw [List.length_append] at q4 ⊢; rw [h1, ← q1]; exact q4
    have hA := Ent.sat (ent_take (p := blk bb (rowC pgC (r.live.set i { p with load := load }) ++ sp) 86) (t := by repeat constructor) (Ent.refl _)) h
    have hC := up_freeze _ _ (Ent.sat (ent_oslClose ha h1 q2 q3 h2) hA)
    refine ⟨⟨{ r with live := r.live.set i { p with load := load } }, ⟨X.xt, e1, X.xf, X.xy, X.xd⟩, { p with load := load }, true⟩, rfl, .fresh hp hfr', Ent.sat ?_ hC⟩
    refine (ent_refIn (by repeat constructor) (by repeat constructor) (by repeat constructor) (by repeat constructor) (by repeat constructor) ?_)
    exact ent_tail
  · refine wk_skip ?_
    refine wk_seq ?_
    refine wk_region ?_
    refine wo_v (v_loadN tyA_43 rfl (by repeat constructor) (by repeat constructor)) ?_
    refine wo_v (v_move rfl) ?_
    refine wo_w (w_call (s_sgraffitoref13_Make (r := r) (X := X) (load := load) hB) rfl (by repeat constructor) ?_)
    rintro ⟨r1, X1, q, ok⟩ hm
    dsimp only at hm ⊢
    refine wo_v (v_move rfl) ?_
    refine wo_v (v_extract rfl rfl) ?_
    refine wo_v (v_extract rfl rfl) ?_
    refine wo_v (v_extract rfl rfl) ?_
    refine wo_w (w_allocA tyZ_43 fun b5 => ?_)
    refine wo_w (w_allocA tyZ_86 fun b6 => ?_)
    refine wo_w0 (w_storeN tyN_43 rfl rfl rfl rfl (by repeat constructor) (by repeat constructor) ?_)
    refine wo_w0 (w_storeN tyN_86 rfl rfl rfl rfl (by repeat constructor) (by repeat constructor) ?_)
    refine wo_v (v_assign rfl) ?_
    refine wo_nil ?_
    refine wk_seq ?_
    refine wk_seq ?_
    refine wk_region ?_
    refine wo_v (v_move rfl) ?_
    refine wo_v (v_not rfl) ?_
    refine wo_nil ?_
    refine wk_if rfl (fun hok => ?_) (fun hok => ?_)
    · refine wk_seq ?_
      refine wk_region ?_
      refine wo_v (v_loadN tyA_43 rfl (by repeat constructor) (by repeat constructor)) ?_
      refine wo_v (v_buildN tyBu_86 rfl (by repeat constructor)) ?_
      refine wo_w0 (w_storeN tyN_43 rfl rfl rfl rfl (by repeat constructor) (by repeat constructor) ?_)
      refine wo_w0 (w_storeN tyN_86 rfl rfl rfl rfl (by repeat constructor) (by repeat constructor) ?_)
      refine wo_v (v_assign rfl) ?_
      refine wo_nil ?_
      refine wk_ret Tryz.func25 rfl rfl (res_cellA tyA_43 rfl (by repeat constructor) rfl (res_cellA tyA_86 rfl (by repeat constructor) rfl (res_tmp rfl res_nil))) fun W h => ?_
      subst hok
      have hfr' : p.page ∉ r.fresh := by simpa using hfr
      have hpk : r.T.pick = none := by cases hm; assumption
      exact ⟨⟨r, X, noPg, false⟩, rfl, .full hp hfr' hpk, Ent.sat (by refine ent_take ?_; exact ent_tail) h⟩
    · subst hok
      have hfr' : p.page ∉ r.fresh := by simpa using hfr
      obtain ⟨hB1, p1, hp1⟩ := hB2 r1 q hm
      refine wk_skip ?_
      refine wk_seq ?_
      refine wk_draw (n := 7) (pend := 127) ⟨5, fun w => Sat G w [blk b5 (refC r1 X1) 43, blk b6 (pgC q) 86]⟩ mixed (by kernel_rfl) rfl (fun w s_ => Ent.sat (by refine ent_take ?_; refine ent_take ?_; exact ent_nil) s_) rfl ?_
      refine wd_a 0 rfl (v_loadN tyA_43 rfl (by repeat constructor) (by repeat constructor)) ?_
      refine wd_a 1 rfl (v_move rfl) ?_
      refine wd_fr 3 rfl (fun w h => h) (v_loadN tyA_86 rfl (by repeat constructor) (by repeat constructor)) ?_
      refine wd_l 2 rfl (w_call (s_sgraffitoref13_drop (r := r1) (X := X1) (i := i) (p := p1) hB1 hp1) rfl (by repeat constructor) ?_)
      rintro ⟨r2, X2⟩ hd
      refine ⟨fun w s_ _ => Ent.sat (by refine ent_take ?_; refine ent_take ?_; exact ent_nil) s_, ?_⟩
      refine wd_l0 4 rfl (w_storeN tyN_43 rfl rfl rfl rfl (by repeat constructor) (by repeat constructor) ?_)
      refine ⟨fun w s_ _ => Ent.sat (by refine ent_take ?_; refine ent_take ?_; exact ent_nil) s_, ?_⟩
      refine wd_l0 5 rfl (w_storeN tyN_86 rfl rfl rfl rfl (by repeat constructor) (by repeat constructor) ?_)
      refine ⟨fun w s_ => Wat.gone (by decide), ?_⟩
      refine wd_a 6 rfl (v_assign rfl) ?_
      refine wd_done ?_
      refine wk_ret Tryz.func25 rfl rfl (res_cellA tyA_43 rfl (by repeat constructor) rfl (res_cellA tyA_86 rfl (by repeat constructor) rfl (res_tmp rfl res_nil))) fun W h => ?_
      exact ⟨⟨r2, X2, q, true⟩, rfl, .new hp hfr' hm hd, Ent.sat (by refine ent_take ?_; exact ent_tail) h⟩

end Go.Proofs.YtealmijbkebipaaGreatDoor

namespace Go.Proofs.YtealmijbkebipaaGreatDoor
open Go

theorem valB_numB (k : Nat) : ∀ n, valB (numB n k) = n % 256 ^ k := by
  induction k with
  | zero => intro n; simp [numB, valB, Nat.mod_one]
  | succ k ih =>
    intro n
    have h1 : n % 256 % 2 ^ 8 = n % 256 := Nat.mod_eq_of_lt (Nat.mod_lt _ (by decide))
    rw [numB, valB, ih, UInt8.toNat_ofNat', h1, Nat.pow_succ, Nat.mul_comm (256 ^ k), Nat.mod_mul]
theorem raw_cut {a b : List UInt8} {k : Nat} (h : a.length = k) : rawOf (a ++ b) k = a ∧ rawLeft (a ++ b) k = b := by
  subst h
  unfold rawOf rawLeft
  rw [if_pos (by rw [List.length_append]; omega), if_pos (by rw [List.length_append]; omega), List.take_left, List.drop_left]
  exact ⟨rfl, rfl⟩

/-- What was built is read. -/
theorem readL_bytes {x : LeafA} {n : Nat} (h : x.right n = 0) (h1 : 96 ≤ n) (h2 : n ≤ 512) (hs : x.stamp ≤ 9223372036854775807) : readL (x.bytes n) = some x := by
  obtain ⟨hnb, hle⟩ := LeafA.right_zero h
  have hpos : 1 ≤ x.kind ∧ x.kind ≤ 4 ∧ 0 ≤ x.place ∧ x.place ≤ 2147483647 ∧ 0 ≤ x.stamp := by unfold LeafA.bad at hnb; omega
  obtain ⟨kind, place, stamp, load⟩ := x
  dsimp only at hpos hs hle
  obtain ⟨k, rfl⟩ := Int.eq_ofNat_of_zero_le (a := kind) (by omega)
  obtain ⟨p, rfl⟩ := Int.eq_ofNat_of_zero_le (a := place) (by omega)
  obtain ⟨q, rfl⟩ := Int.eq_ofNat_of_zero_le (a := stamp) (by omega)
  generalize hx : (⟨(k : Int), (p : Int), (q : Int), load⟩ : LeafA) = x at *
  have hlen : (x.bytes n).length = n := LeafA.bytes_length (by rw [← hx]; exact hle) h1
  have hform : ∃ rest, x.bytes n = numB k 1 ++ (numB load.length 2 ++ (numB p 4 ++ (numB q 8 ++ (load ++ rest)))) := by
    refine ⟨List.replicate (n - 19 - load.length) 0 ++ numB (crcF (x.body n)) 4, ?_⟩
    unfold LeafA.bytes
    conv => lhs; lhs; unfold LeafA.body
    rw [← hx]
    simp only [List.nil_append, List.append_assoc, Int.toNat_natCast]
  obtain ⟨rest, hb⟩ := hform
  obtain ⟨c1, d1⟩ := raw_cut (a := numB k 1) (b := numB load.length 2 ++ (numB p 4 ++ (numB q 8 ++ (load ++ rest)))) (numB_length _ _)
  obtain ⟨c2, d2⟩ := raw_cut (a := numB load.length 2) (b := numB p 4 ++ (numB q 8 ++ (load ++ rest))) (numB_length _ _)
  obtain ⟨c3, d3⟩ := raw_cut (a := numB p 4) (b := numB q 8 ++ (load ++ rest)) (numB_length _ _)
  obtain ⟨c4, d4⟩ := raw_cut (a := numB q 8) (b := load ++ rest) (numB_length _ _)
  obtain ⟨c5, d5⟩ := raw_cut (a := load) (b := rest) rfl
  have v1 : valB (numB k 1) = k := by rw [valB_numB]; exact Nat.mod_eq_of_lt (by omega)
  have v2 : valB (numB load.length 2) = load.length := by rw [valB_numB]; exact Nat.mod_eq_of_lt (by omega)
  have v3 : valB (numB p 4) = p := by rw [valB_numB]; exact Nat.mod_eq_of_lt (by omega)
  have v4 : valB (numB q 8) = q := by rw [valB_numB]; exact Nat.mod_eq_of_lt (by omega)
  have hw : IntKind.i64.wrap (q : Int) = q := wrap_i64 (by omega) (by omega)
  have hin : leafIn (x.bytes n) = x := by
    unfold leafIn
    rw [hb, d1, c1, c2, d2, c3, d3, c4, d4, v1, v2, v3, v4, c5, hw]
    exact hx
  have hns : ¬ leafShort (x.bytes n) := by
    unfold leafShort
    rw [hb, d1, d2, d3, d4, c2, v2, List.length_append]; omega
  unfold readL
  rw [if_neg hns, hin, hlen, if_pos ⟨h, rfl⟩]

theorem lastW_snoc (l : List (Int × List UInt8)) (w : Int × List UInt8) (k : Int) : lastW (l ++ [w]) k = if w.1 = k then some w.2 else lastW l k := by
  induction l with
  | nil => rfl
  | cons a l ih =>
    rw [List.cons_append, lastW, ih, lastW]
    by_cases h : w.1 = k
    · rw [if_pos h, if_pos h]
    · rw [if_neg h, if_neg h]
theorem flush_last (l : List (Int × List UInt8)) (f : Int → List UInt8) (k : Int) : flush l f k = (lastW l k).getD (f k) := by
  have key : ∀ (l : List (Int × List UInt8)), flush l.reverse f k = (lastW l.reverse k).getD (f k) := by
    intro l
    induction l with
    | nil => rfl
    | cons w l ih =>
      rw [List.reverse_cons, flush_snoc, lastW_snoc]
      dsimp only
      rw [ih]
      by_cases h : w.1 = k
      · rw [if_pos h.symm, if_pos h]; rfl
      · rw [if_neg (fun e => h e.symm), if_neg h]
  have := key l.reverse
  rwa [List.reverse_reverse] at this

/-- A step of the device: writes to these sectors. -/
structure DStep (A : Int → Prop) (c : Nat) (st st' : DevA) : Prop where
  n : st'.n = st.n
  size : st'.size = st.size
  fast : st'.fast = st.fast
  loose : ∃ ws : List (Int × List UInt8), st'.loose = st.loose ++ ws ∧ ∀ w ∈ ws, ∃ k, A k ∧ w.1 = 12 + k
  acts : st'.acts ≤ st.acts + c
theorem DStep.refl {A : Int → Prop} {c : Nat} (st : DevA) : DStep A c st st := ⟨rfl, rfl, rfl, ⟨[], by simp, fun w h => by cases h⟩, Nat.le_add_right _ _⟩
theorem DStep.trans {A : Int → Prop} {c c' : Nat} {st st' st'' : DevA} (h : DStep A c st st') (k : DStep A c' st' st'') : DStep A (c + c') st st'' := by
  obtain ⟨ws, e1, f1⟩ := h.loose
  obtain ⟨vs, e2, f2⟩ := k.loose
  refine ⟨k.n.trans h.n, k.size.trans h.size, k.fast.trans h.fast, ⟨ws ++ vs, by rw [e2, e1, List.append_assoc], fun w hw => ?_⟩, by have := h.acts; have := k.acts; omega⟩
  rcases List.mem_append.1 hw with hw | hw
  · exact f1 w hw
  · exact f2 w hw
theorem DStep.mono {A B : Int → Prop} {c c' : Nat} {st st' : DevA} (h : DStep A c st st') (hAB : ∀ k, A k → B k) (hc : c ≤ c') : DStep B c' st st' := by
  obtain ⟨ws, e1, f1⟩ := h.loose
  exact ⟨h.n, h.size, h.fast, ⟨ws, e1, fun w hw => by obtain ⟨k, hk, e⟩ := f1 w hw; exact ⟨k, hAB k hk, e⟩⟩, by have := h.acts; omega⟩

/-- A page that is a leaf. -/
def pgLeaf (k stamp : Int) (load : List UInt8) : LeafA := ⟨2, k, stamp, load⟩
theorem pg_right {k stamp : Int} {load : List UInt8} (h0 : 0 ≤ k) (h1 : k < 48) (h2 : load.length ≤ 77) (h3 : 0 ≤ stamp) : (pgLeaf k stamp load).right 96 = 0 := by
  unfold LeafA.right
  rw [if_neg, if_neg]
  · show ¬ load.length > 96 - 19; omega
  · unfold LeafA.bad pgLeaf; dsimp only; omega

/-- A page is written out. -/
theorem put_page {st : DevA} {k stamp : Int} {load : List UInt8} (hn : st.n = 60) (hs : st.size = 96) (hd : st.down = false) (h0 : 0 ≤ k) (h1 : k < 48) (h2 : load.length ≤ 77) (h3 : 0 ≤ stamp) (h4 : stamp ≤ 9223372036854775807) :
    ∃ e st', st.put (12 + k) (pgLeaf k stamp load) = (e, st') ∧ DStep (fun j => j = k) 1 st st' ∧ (e = 0 ∧ st'.down = false ∨ e = 4) ∧
      readL (st'.read (12 + k)) = some (pgLeaf k stamp load) ∧ ∀ j, j ≠ k → st'.read (12 + j) = st.read (12 + j) := by
  have hr := pg_right h0 h1 h2 h3
  have hlen : ((pgLeaf k stamp load).bytes 96).length = 96 := LeafA.bytes_length (LeafA.right_zero hr).2 (by decide)
  have hready : st.ready (12 + k) = 0 := by
    unfold DevA.ready
    rw [hd, if_neg (by decide), if_pos ⟨by omega, by rw [hn]; omega⟩]
  have hw : st.write (12 + k) ((pgLeaf k stamp load).bytes 96) = (if st.act.down = true then 4 else 0, { st.act with loose := st.loose ++ [(12 + k, (pgLeaf k stamp load).bytes 96)] }) := by
    unfold DevA.write
    rw [if_pos hready, if_pos (by rw [hlen, hs])]
  refine ⟨if st.act.down = true then 4 else 0, { st.act with loose := st.loose ++ [(12 + k, (pgLeaf k stamp load).bytes 96)] }, by unfold DevA.put; rw [hs, if_pos hr, hw], ⟨rfl, rfl, rfl, ⟨_, rfl, fun w hwm => ⟨k, rfl, ?_⟩⟩, Nat.le_refl _⟩, ?_, ?_, fun j hj => ?_⟩
  · simp at hwm; rw [hwm]
  · by_cases h : st.act.down = true
    · right; rw [if_pos h]
    · left; rw [if_neg h]; exact ⟨rfl, by simpa using h⟩
  · unfold DevA.read
    dsimp only
    rw [lastW_snoc, if_pos rfl, Option.getD_some]
    exact readL_bytes hr (by decide) (by decide) h4
  · unfold DevA.read
    dsimp only
    rw [lastW_snoc, if_neg (by omega)]; rfl

end Go.Proofs.YtealmijbkebipaaGreatDoor

namespace Go.Proofs.YtealmijbkebipaaGreatDoor
open Go

structure PgOK (k : Int) (q : PageA) : Prop where
  k0 : 0 ≤ k
  k1 : k < 48
  load : q.load.length ≤ 77
  s0 : 0 ≤ q.stamp
  s1 : q.stamp ≤ 2199023255552
structure MInv (S : StA) (st : DevA) : Prop where
  first : S.first = 12
  pages : S.pages = 48
  room : S.room = 77
  n : st.n = 60
  size : st.size = 96
  down : st.down = false
  clean : ∀ k q, S.mem k = some q → q.dirty = false → readL (st.read (12 + k)) = some (pgLeaf k q.stamp q.load)
  dirty : ∀ k q, S.mem k = some q → q.dirty = true → S.fresh k = true
  memk : ∀ k q, S.mem k = some q → PgOK k q
/-- A page has this stamp and this load. -/
def Cont (S : StA) (st : DevA) (k stamp : Int) (load : List UInt8) : Prop := match S.mem k with
  | some q => q.stamp = stamp ∧ q.load = load
  | none => readL (st.read (12 + k)) = some (pgLeaf k stamp load)
theorem Cont.mem {S : StA} {st : DevA} {k : Int} {q : PageA} (h : S.mem k = some q) {stamp : Int} {load : List UInt8} : Cont S st k stamp load ↔ q.stamp = stamp ∧ q.load = load := by unfold Cont; rw [h]
theorem Cont.dev {S : StA} {st : DevA} {k : Int} (h : S.mem k = none) {stamp : Int} {load : List UInt8} : Cont S st k stamp load ↔ readL (st.read (12 + k)) = some (pgLeaf k stamp load) := by unfold Cont; rw [h]

theorem mset_same (m : MemA) (k : Int) (q : PageA) : mset m k q k = some q := by unfold mset; rw [if_pos rfl]
theorem mset_ne (m : MemA) {k j : Int} (q : PageA) (h : j ≠ k) : mset m k q j = m j := by unfold mset; rw [if_neg h]
theorem mout_same (m : MemA) (k : Int) : mout m k k = none := by unfold mout; rw [if_pos rfl]
theorem mout_ne (m : MemA) {k j : Int} (h : j ≠ k) : mout m k j = m j := by unfold mout; rw [if_neg h]

structure KeptIn (S : StA) (st : DevA) (k : Int) (q : PageA) (S' : StA) (st' : DevA) : Prop where
  inv : MInv S' st'
  same : S' = { S with mem := S'.mem }
  here : S'.mem k = some q
  cont : ∀ j, j ≠ k → ∀ stamp load, Cont S st j stamp load → Cont S' st' j stamp load
  sub : ∀ j, (S'.mem j).isSome = true → j = k ∨ (S.mem j).isSome = true

theorem keep_law {S S' : StA} {st st' : DevA} {k : Int} {q : PageA} {e : Nat} (h : MInv S st) (hq : PgOK k q) (hd : q.dirty = true → S.fresh k = true) (hc : q.dirty = false → readL (st.read (12 + k)) = some (pgLeaf k q.stamp q.load))
    (hk : KeepR S st k q e S' st') : DStep (fun j => S.fresh j = true) 1 st st' ∧ (e = 4 ∨ e = 0 ∧ KeptIn S st k q S' st') := by
  cases hk with
  | @mk res mem' hput =>
    cases hput with
    | stay =>
      refine ⟨DStep.refl _, .inr ⟨rfl, ?_⟩⟩
      refine ⟨⟨h.first, h.pages, h.room, h.n, h.size, h.down, fun j p hj hdj => ?_, fun j p hj hdj => ?_, fun j p hj => ?_⟩, rfl, mset_same _ _ _, fun j hj stamp load hcj => ?_, fun j hj => ?_⟩
      · have hj : mset S.mem k q j = some p := hj
        by_cases hjk : j = k
        · subst hjk; rw [mset_same] at hj; cases hj; exact hc hdj
        · rw [mset_ne _ _ hjk] at hj; exact h.clean j p hj hdj
      · have hj : mset S.mem k q j = some p := hj
        by_cases hjk : j = k
        · subst hjk; rw [mset_same] at hj; cases hj; exact hd hdj
        · rw [mset_ne _ _ hjk] at hj; exact h.dirty j p hj hdj
      · have hj : mset S.mem k q j = some p := hj
        by_cases hjk : j = k
        · subst hjk; rw [mset_same] at hj; cases hj; exact hq
        · rw [mset_ne _ _ hjk] at hj; exact h.memk j p hj
      · unfold Cont at hcj ⊢
        have : mset S.mem k q j = S.mem j := mset_ne _ _ hj
        show (match mset S.mem k q j with | some q => q.stamp = stamp ∧ q.load = load | none => _)
        rw [this]; exact hcj
      · by_cases hjk : j = k
        · exact .inl hjk
        · right
          have hj : (mset S.mem k q j).isSome = true := hj
          rwa [mset_ne _ _ hjk] at hj
    | @goes g w hmk hmg =>
      have hgk : g ≠ k := fun e => by rw [e, hmk] at hmg; cases hmg
      have hw := h.memk g w hmg
      have hmem : ∀ j, mset (mout S.mem g) k q j = if j = k then some q else if j = g then none else S.mem j := fun j => rfl

      have rest : ∀ st1 : DevA, st1.n = st.n → st1.size = st.size → st1.down = false → readL (st1.read (12 + g)) = some (pgLeaf g w.stamp w.load) → (∀ j, j ≠ g → st1.read (12 + j) = st.read (12 + j)) →
          KeptIn S st k q { S with mem := mset (mout S.mem g) k q } st1 := by
        intro st1 e1 e2 e3 e4 e5
        refine ⟨⟨h.first, h.pages, h.room, e1.trans h.n, e2.trans h.size, e3, fun j p hj hdj => ?_, fun j p hj hdj => ?_, fun j p hj => ?_⟩, rfl, ?_, fun j hj stamp load hcj => ?_, fun j hj => ?_⟩
        · have hj : mset (mout S.mem g) k q j = some p := hj
          rw [hmem] at hj
          by_cases hjk : j = k
          · rw [if_pos hjk] at hj; cases hj
            subst hjk
            rw [e5 _ (Ne.symm hgk)]; exact hc hdj
          · rw [if_neg hjk] at hj
            by_cases hjg : j = g
            · rw [if_pos hjg] at hj; cases hj
            · rw [if_neg hjg] at hj; rw [e5 j hjg]; exact h.clean j p hj hdj
        · have hj : mset (mout S.mem g) k q j = some p := hj
          rw [hmem] at hj
          by_cases hjk : j = k
          · rw [if_pos hjk] at hj; cases hj; subst hjk; exact hd hdj
          · rw [if_neg hjk] at hj
            by_cases hjg : j = g
            · rw [if_pos hjg] at hj; cases hj
            · rw [if_neg hjg] at hj; exact h.dirty j p hj hdj
        · have hj : mset (mout S.mem g) k q j = some p := hj
          rw [hmem] at hj
          by_cases hjk : j = k
          · rw [if_pos hjk] at hj; cases hj; subst hjk; exact hq
          · rw [if_neg hjk] at hj
            by_cases hjg : j = g
            · rw [if_pos hjg] at hj; cases hj
            · rw [if_neg hjg] at hj; exact h.memk j p hj
        · show mset (mout S.mem g) k q k = some q
          rw [hmem, if_pos rfl]
        · have hm' : ({ S with mem := mset (mout S.mem g) k q } : StA).mem j = if j = g then none else S.mem j := by
            show mset (mout S.mem g) k q j = _
            rw [hmem, if_neg hj]
          by_cases hjg : j = g
          · subst hjg
            rw [if_pos rfl] at hm'
            rw [Cont.mem hmg] at hcj
            rw [Cont.dev hm', e4, hcj.1, hcj.2]
          · rw [if_neg hjg] at hm'
            unfold Cont at hcj ⊢
            rw [hm', e5 j hjg]; exact hcj
        · have hj : (mset (mout S.mem g) k q j).isSome = true := hj
          rw [hmem] at hj
          by_cases hjk : j = k
          · exact .inl hjk
          · rw [if_neg hjk] at hj
            by_cases hjg : j = g
            · rw [if_pos hjg] at hj; cases hj
            · rw [if_neg hjg] at hj; exact .inr hj
      by_cases hwd : w.dirty = true
      · have hf := h.dirty g w hmg hwd
        obtain ⟨e, st1, hput, hstep, hor, hrd, hoth⟩ := put_page (st := st) (k := g) (stamp := w.stamp) (load := w.load) h.n h.size h.down hw.k0 hw.k1 hw.load hw.s0 (by have := hw.s1; omega)
        have hg1 : S.gone1 st (some (g, w)) = (e, st1) := by
          unfold StA.gone1
          dsimp only
          rw [if_pos hwd]
          show st.put (S.first + g) (StA.leaf g w) = _
          rw [h.first]; exact hput
        rw [hg1]
        refine ⟨hstep.mono (fun j hj => hj ▸ hf) (Nat.le_refl _), ?_⟩
        rcases hor with ⟨he, hdn⟩ | he
        · exact .inr ⟨he, rest st1 hstep.n hstep.size hdn hrd hoth⟩
        · exact .inl he
      · have hwd' : w.dirty = false := by simpa using hwd
        have hg1 : S.gone1 st (some (g, w)) = (0, st) := by
          unfold StA.gone1
          dsimp only
          rw [if_neg hwd]
        rw [hg1]
        exact ⟨DStep.refl _, .inr ⟨rfl, rest st rfl rfl h.down (h.clean g w hmg hwd') (fun j _ => rfl)⟩⟩

end Go.Proofs.YtealmijbkebipaaGreatDoor

namespace Go.Proofs.YtealmijbkebipaaGreatDoor
open Go

structure LvOK (r : RefS) (p : PgR) : Prop where
  p0 : 0 ≤ p.page
  p1 : p.page < 48
  load : p.load.length ≤ 77
  s0 : 0 ≤ p.stamp
  s1 : p.stamp ≤ r.gen
  has : r.T.has p.page.toNat = true
  dy : p.page ∉ r.dying
  de : p.page ∉ r.dead
structure Inv (c : Nat) (S : StA) (st : DevA) (r : RefS) : Prop where
  m : MInv S st
  T : S.taken = r.T
  B : SetB r.T
  tn : r.T.n = 48
  gen : S.gen = r.gen
  g1 : 1 ≤ r.gen
  g2 : r.gen ≤ 1099511627776
  fr : ∀ k, S.fresh k = true ↔ k ∈ r.fresh
  dy : ∀ k, S.dying k = true ↔ k ∈ r.dying
  de : ∀ k, S.dead k = true ↔ k ∈ r.dead
  sep1 : ∀ k ∈ r.fresh, k ∉ r.dying ∧ k ∉ r.dead
  sep2 : ∀ k ∈ r.dying, k ∉ r.dead
  dyT : ∀ k ∈ r.dying, 0 ≤ k ∧ k < 48 ∧ r.T.has k.toNat = true
  deT : ∀ k ∈ r.dead, 0 ≤ k ∧ k < 48 ∧ r.T.has k.toNat = true
  frL : ∀ k ∈ r.fresh, ∃ p ∈ r.live, p.page = k ∧ p.stamp = r.gen
  live : ∀ p ∈ r.live, LvOK r p
  nodup : (r.live.map PgR.page).Nodup
  cont : ∀ p ∈ r.live, Cont S st p.page p.stamp p.load
  memT : ∀ k, (S.mem k).isSome = true → r.T.has k.toNat = true
  l1 : r.live.length ≤ c
  l2 : r.fresh.length ≤ c
  l3 : r.dying.length ≤ c
  l4 : r.dead.length ≤ c
theorem Inv.up {c c' : Nat} {S : StA} {st : DevA} {r : RefS} (h : Inv c S st r) (hc : c ≤ c') : Inv c' S st r :=
  { h with l1 := Nat.le_trans h.l1 hc, l2 := Nat.le_trans h.l2 hc, l3 := Nat.le_trans h.l3 hc, l4 := Nat.le_trans h.l4 hc }
theorem Inv.refB {c : Nat} {S : StA} {st : DevA} {r : RefS} (h : Inv c S st r) (hc : c ≤ 65536) : RefB r :=
  ⟨h.B, Nat.le_trans h.l1 hc, Nat.le_trans h.l2 hc, Nat.le_trans h.l3 hc, Nat.le_trans h.l4 hc, by have := h.g1; omega, h.g2⟩

theorem nodup_page {l : List PgR} (hn : (l.map PgR.page).Nodup) {p q : PgR} (hp : p ∈ l) (hq : q ∈ l) (h : p.page = q.page) : p = q := by
  induction l with
  | nil => cases hp
  | cons a l ih =>
    rw [List.map_cons, List.nodup_cons] at hn
    rcases List.mem_cons.1 hp with rfl | hp' <;> rcases List.mem_cons.1 hq with rfl | hq'
    · rfl
    · exact absurd (List.mem_map.2 ⟨q, hq', h.symm⟩) hn.1
    · exact absurd (List.mem_map.2 ⟨p, hp', h⟩) hn.1
    · exact ih hn.2 hp' hq'

theorem SetA.took_has {T : SetA} (hB : SetB T) {n : Nat} (hp : T.pick = some n) (i : Nat) : T.took.has i = if i = n then true else T.has i := by
  have hlt : n < T.taken.length := by rw [hB.tl]; exact SetA.pick_lt hp
  have : T.took = ⟨T.n, T.taken.set n true, (n + 1) % T.n⟩ := by unfold SetA.took; rw [hp]
  rw [this]
  have h2 := SetA.has_put T n true i
  unfold SetA.put SetA.has at h2
  unfold SetA.has
  dsimp only at h2 ⊢
  rw [h2]
  by_cases hi : i = n
  · rw [if_pos ⟨hi, hlt⟩, if_pos hi]
  · rw [if_neg (fun h => hi h.1), if_neg hi]
theorem SetA.took_B {T : SetA} (hB : SetB T) : SetB T.took := by
  unfold SetA.took
  split
  · exact ⟨by simpa using hB.tl, hB.pos, hB.le, Nat.mod_lt _ hB.pos⟩
  · exact hB
theorem SetA.put_B {T : SetA} (hB : SetB T) (k : Nat) (b : Bool) : SetB (T.put k b) := ⟨by simpa [SetA.put] using hB.tl, hB.pos, hB.le, hB.hand⟩
theorem SetA.clr_has {T : SetA} (k : Int) (h0 : 0 ≤ k) (i : Nat) : (T.clr k).has i = (T.has i && !decide ((i : Int) = k)) := by
  unfold SetA.clr
  obtain ⟨j, rfl⟩ := Int.eq_ofNat_of_zero_le h0
  by_cases hj : T.has j = true
  · have hlt : j < T.taken.length := by
      rcases Nat.lt_or_ge j T.taken.length with h | h
      · exact h
      · unfold SetA.has at hj; rw [List.getElem?_eq_none h] at hj; cases hj
    rw [if_pos (by simp [hj]), SetA.has_put, Int.toNat_natCast]
    by_cases hi : i = j
    · rw [if_pos ⟨hi, hlt⟩, hi]; simp
    · rw [if_neg (fun h => hi h.1), decide_eq_false (by omega)]; simp
  · rw [if_neg (by simp [hj])]
    by_cases hi : i = j
    · rw [hi]; simp [show T.has j = false from by simpa using hj]
    · rw [decide_eq_false (by omega)]; simp
theorem SetA.clr_B {T : SetA} (hB : SetB T) (k : Int) : SetB (T.clr k) := by
  unfold SetA.clr; split
  · exact SetA.put_B hB _ _
  · exact hB

/-- What is kept anew is the document's, too. -/
theorem Inv.kept {c : Nat} {S S' : StA} {st st' : DevA} {r : RefS} {k : Int} {q : PageA} (h : Inv c S st r) (hk : KeptIn S st k q S' st') (hT : r.T.has k.toNat = true) (hp : ∀ p ∈ r.live, p.page = k → q.stamp = p.stamp ∧ q.load = p.load) : Inv c S' st' r := by
  have hs := hk.same
  have e1 : S'.taken = S.taken := (congrArg StA.taken hs).trans rfl
  have e2 : S'.gen = S.gen := (congrArg StA.gen hs).trans rfl
  have e3 : S'.fresh = S.fresh := (congrArg StA.fresh hs).trans rfl
  have e4 : S'.dying = S.dying := (congrArg StA.dying hs).trans rfl
  have e5 : S'.dead = S.dead := (congrArg StA.dead hs).trans rfl
  exact { h with
    m := hk.inv
    T := e1.trans h.T
    gen := e2.trans h.gen
    fr := fun j => by rw [e3]; exact h.fr j
    dy := fun j => by rw [e4]; exact h.dy j
    de := fun j => by rw [e5]; exact h.de j
    cont := fun p hpl => by
      by_cases hpk : p.page = k
      · obtain ⟨a, b⟩ := hp p hpl hpk
        rw [hpk, Cont.mem hk.here]; exact ⟨a, b⟩
      · exact hk.cont _ hpk _ _ (h.cont p hpl)
    memT := fun j hj => by
      rcases hk.sub j hj with rfl | hj
      · exact hT
      · exact h.memT j hj }

/-- A page is made. -/
theorem new_law {c : Nat} {S S' : StA} {st st' : DevA} {r r' : RefS} {load : List UInt8} {q : RefA} {e : Nat} {p : PgR} {ok : Bool} (h : Inv c S st r) (hl : load.length ≤ 77) (hN : NewR S st load q e S' st') (hM : MakeR r load r' p ok) :
    (ok = false ∧ e = 6 ∧ S' = S ∧ st' = st) ∨ (ok = true ∧ DStep (fun k => k ∈ r'.fresh) 1 st st' ∧ (∀ k ∈ r'.fresh, k ∈ r.fresh ∨ r.T.has k.toNat = false) ∧ (e = 4 ∨ (e = 0 ∧ q = ⟨p.page, p.stamp⟩ ∧ Inv (c + 1) S' st' r'))) := by
  have hroom := h.m.room
  cases hM with
  | full hpk =>
    left
    cases hN with
    | long hlo => omega
    | full _ _ => exact ⟨rfl, rfl, rfl, rfl⟩
    | made _ hpk2 _ => rw [h.T, hpk] at hpk2; cases hpk2
  | @made n f hpk hW =>
    right
    cases hN with
    | long hlo => omega
    | full _ hpk2 => rw [h.T, hpk] at hpk2; cases hpk2
    | @made n' e' S'' st'' _ hpk2 hK =>
      rw [h.T, hpk] at hpk2
      cases hpk2
      have hn48 : n < 48 := by have := SetA.pick_lt hpk; rw [h.tn] at this; exact this
      have hfree := SetA.pick_free hpk
      have htk := SetA.took_has h.B hpk
      have hm1 : MInv { S with taken := S.taken.took, fresh := sset S.fresh n } st :=
        { h.m with
          clean := h.m.clean
          dirty := fun k w hw hwd => by
            show sset S.fresh n k = true
            unfold sset
            split
            · rfl
            · exact h.m.dirty k w hw hwd
          memk := h.m.memk }
      have hnn : ((n : Int)).toNat = n := Int.toNat_natCast n
      have hgen := h.gen
      have hg1 := h.g1
      have hg2 := h.g2
      have hpg : PgOK (n : Int) ⟨S.gen, load, true⟩ := ⟨Int.natCast_nonneg _, by omega, hl, by show 0 ≤ S.gen; omega, by show S.gen ≤ _; omega⟩
      obtain ⟨hst, hor⟩ := keep_law hm1 hpg (fun _ => by show sset S.fresh n n = true; unfold sset; rw [if_pos rfl]) (fun hd => by cases hd) hK
      have hfr' : ∀ k, sset S.fresh n k = true ↔ k ∈ f := by
        intro k
        rw [hW.mem]
        unfold sset
        by_cases hk : k = (n : Int)
        · rw [if_pos hk]; exact ⟨fun _ => .inl hk, fun _ => rfl⟩
        · rw [if_neg hk, h.fr k]; exact ⟨fun hh => .inr hh, fun hh => hh.resolve_left hk⟩
      refine ⟨rfl, hst.mono (fun k hk => (hfr' k).1 hk) (Nat.le_refl _), fun k hk => ?_, ?_⟩
      · rcases (hW.mem k).1 hk with rfl | hk
        · right; rw [hnn]; exact hfree
        · exact .inl hk
      rcases hor with he | ⟨he, hki⟩
      · exact .inl he
      · right
        subst he
        refine ⟨rfl, ?_, ?_⟩
        · rw [if_pos rfl, hgen]
        · have hs := hki.same
          have e1 : S'.taken = S.taken.took := (congrArg StA.taken hs).trans rfl
          have e2 : S'.gen = S.gen := (congrArg StA.gen hs).trans rfl
          have e3 : S'.fresh = sset S.fresh n := (congrArg StA.fresh hs).trans rfl
          have e4 : S'.dying = S.dying := (congrArg StA.dying hs).trans rfl
          have e5 : S'.dead = S.dead := (congrArg StA.dead hs).trans rfl
          have hnew : ∀ p ∈ r.live, p.page ≠ (n : Int) := by
            intro p hp e
            have := (h.live p hp).has
            rw [e, hnn, hfree] at this; cases this
          have hT' : ∀ k : Int, r.T.has k.toNat = true → r.T.took.has k.toNat = true := by
            intro k hk
            rw [htk]; split
            · rfl
            · exact hk
          refine { m := hki.inv, T := by rw [e1, h.T], B := SetA.took_B h.B, tn := (SetA.took_n _).trans h.tn, gen := e2.trans hgen, g1 := hg1, g2 := hg2
                   fr := fun k => by rw [e3]; exact hfr' k
                   dy := fun k => by rw [e4]; exact h.dy k
                   de := fun k => by rw [e5]; exact h.de k
                   sep1 := fun k hk => ?_, sep2 := h.sep2
                   dyT := fun k hk => ⟨(h.dyT k hk).1, (h.dyT k hk).2.1, hT' k (h.dyT k hk).2.2⟩
                   deT := fun k hk => ⟨(h.deT k hk).1, (h.deT k hk).2.1, hT' k (h.deT k hk).2.2⟩
                   frL := fun k hk => ?_, live := fun p hp => ?_, nodup := ?_, cont := fun p hp => ?_, memT := fun k hk => ?_, l1 := ?_, l2 := ?_, l3 := Nat.le_succ_of_le h.l3, l4 := Nat.le_succ_of_le h.l4 }
          · rcases (hW.mem k).1 hk with rfl | hk
            · refine ⟨fun hd => ?_, fun hd => ?_⟩
              · have := (h.dyT _ hd).2.2; rw [hnn, hfree] at this; cases this
              · have := (h.deT _ hd).2.2; rw [hnn, hfree] at this; cases this
            · exact h.sep1 k hk
          · rcases (hW.mem k).1 hk with rfl | hk
            · exact ⟨⟨n, r.gen, load⟩, List.mem_append_right _ List.mem_cons_self, rfl, rfl⟩
            · obtain ⟨p, hp, a, b⟩ := h.frL k hk
              exact ⟨p, List.mem_append_left _ hp, a, b⟩
          · rcases List.mem_append.1 hp with hp | hp
            · obtain ⟨a1, a2, a3, a4, a5, a6, a7, a8⟩ := h.live p hp
              exact ⟨a1, a2, a3, a4, a5, hT' _ a6, a7, a8⟩
            · simp at hp; subst hp
              refine ⟨Int.natCast_nonneg _, by show (n : Int) < 48; omega, hl, by show 0 ≤ r.gen; omega, Int.le_refl _, by show r.T.took.has ((n : Int)).toNat = true; rw [hnn, htk, if_pos rfl], fun hd => ?_, fun hd => ?_⟩
              · have := (h.dyT _ hd).2.2; rw [hnn, hfree] at this; cases this
              · have := (h.deT _ hd).2.2; rw [hnn, hfree] at this; cases this
          · rw [List.map_append, List.nodup_append]
            refine ⟨h.nodup, by simp, fun a ha b hb => ?_⟩
            simp at hb; subst hb
            obtain ⟨p, hp, rfl⟩ := List.mem_map.1 ha
            exact hnew p hp
          · rcases List.mem_append.1 hp with hp | hp
            · exact hki.cont _ (hnew p hp) _ _ (h.cont p hp)
            · simp at hp; subst hp
              show Cont S' st' (n : Int) r.gen load
              rw [Cont.mem hki.here]; exact ⟨hgen, rfl⟩
          · rcases hki.sub k hk with rfl | hk
            · show r.T.took.has _ = true; rw [hnn, htk, if_pos rfl]
            · exact hT' k (h.memT k hk)
          · show (r.live ++ _).length ≤ _; rw [List.length_append]; have := h.l1; simp; exact this
          · show f.length ≤ _; rw [hW.len]; have := h.l2; omega

end Go.Proofs.YtealmijbkebipaaGreatDoor
