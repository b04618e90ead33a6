/- The reference 13: the store. -/
import Derived.Test.YtealmijbkebipaaGreatDoorSwAU
namespace Go.Proofs.YtealmijbkebipaaGreatDoor
open Go

structure PgR where
  page : Int
  stamp : Int
  load : List UInt8
abbrev pgC (p : PgR) : List Value := [.int .i64 p.page, .int .i64 p.stamp, str p.load]
theorem pgC_len (p : PgR) : (pgC p).length = 3 := rfl
abbrev pgRV (p : PgR) : Value := .agg (pgC p).toArray
def noPg : PgR := ⟨0, 0, []⟩
structure RefS where
  T : SetA
  gen : Int
  live : List PgR
  fresh : List Int
  dying : List Int
  dead : List Int
structure RefX where
  xt : SV
  xl : SV
  xf : SV
  xy : SV
  xd : SV
abbrev refC (r : RefS) (X : RefX) : List Value := [X.xt.v, .int .i64 r.T.hand, .int .i64 r.gen, X.xl.v, X.xf.v, X.xy.v, X.xd.v]
abbrev refSV (r : RefS) (X : RefX) : Value := .agg (refC r X).toArray
structure RefQ (r : RefS) (X : RefX) (R : PH) : Prop where
  t : (roSl X.xt (bools r.T) 1).q R
  l : (roSl X.xl (rowC pgC r.live) 3).q R
  f : (roSl X.xf (r.fresh.map keyV) 1).q R
  y : (roSl X.xy (r.dying.map keyV) 1).q R
  d : (roSl X.xd (r.dead.map keyV) 1).q R
def refP (r : RefS) (X : RefX) : Pe := ⟨RefQ r X, fun h hr => ⟨(roSl _ _ _).mono h.t hr, (roSl _ _ _).mono h.l hr, (roSl _ _ _).mono h.f hr, (roSl _ _ _).mono h.y hr, (roSl _ _ _).mono h.d hr⟩⟩

theorem ent_refOut {r : RefS} {X : RefX} {L : List HP} (h : HasPe L (refP r X)) : Ent L (pe (roSl X.xt (bools r.T) 1) :: pe (roSl X.xl (rowC pgC r.live) 3) :: pe (roSl X.xf (r.fresh.map keyV) 1) :: pe (roSl X.xy (r.dying.map keyV) 1) :: pe (roSl X.xd (r.dead.map keyV) 1) :: L) :=
  (h.sat fun _ q => q.t).trans (Ent.cons _ ((h.sat fun _ q => q.l).trans (Ent.cons _ ((h.sat fun _ q => q.f).trans (Ent.cons _ ((h.sat fun _ q => q.y).trans (Ent.cons _ (h.sat fun _ q => q.d))))))))
theorem ent_refIn {r : RefS} {X : RefX} {L M : List HP} (ht : HasPe L (roSl X.xt (bools r.T) 1)) (hl : HasPe L (roSl X.xl (rowC pgC r.live) 3)) (hf : HasPe L (roSl X.xf (r.fresh.map keyV) 1)) (hy : HasPe L (roSl X.xy (r.dying.map keyV) 1)) (hd : HasPe L (roSl X.xd (r.dead.map keyV) 1)) (h : Ent L M) : Ent L (pe (refP r X) :: M) := fun h0 R hs =>
  ⟨fun _ => none, h0, fun _ => .inr ⟨rfl, rfl⟩, ⟨ht.q hs, hl.q hs, hf.q hs, hy.q hs, hd.q hs⟩, h _ _ hs⟩

/-- Rows are short. -/
structure RefB (r : RefS) : Prop where
  B : SetB r.T
  live : r.live.length ≤ 65536
  fresh : r.fresh.length ≤ 65536
  dying : r.dying.length ≤ 65536
  dead : r.dead.length ≤ 65536
  g1 : 0 ≤ r.gen
  g2 : r.gen ≤ 1099511627776

/-- One number more, wherever. -/
def WithR (l : List Int) (n : Int) (l' : List Int) : Prop := ∃ k, k ≤ l.length ∧ l' = l.take k ++ n :: l.drop k
theorem WithR.mem {l l' : List Int} {n : Int} (h : WithR l n l') (j : Int) : j ∈ l' ↔ j = n ∨ j ∈ l := by
  obtain ⟨k, _, rfl⟩ := h
  have : j ∈ l ↔ j ∈ l.take k ∨ j ∈ l.drop k := by rw [← List.mem_append, List.take_append_drop]
  rw [List.mem_append, List.mem_cons, this]
  constructor
  · rintro (h | h | h)
    · exact .inr (.inl h)
    · exact .inl h
    · exact .inr (.inr h)
  · rintro (h | h | h)
    · exact .inr (.inl h)
    · exact .inl h
    · exact .inr (.inr h)
theorem WithR.len {l l' : List Int} {n : Int} (h : WithR l n l') : l'.length = l.length + 1 := by
  obtain ⟨k, hk, rfl⟩ := h
  rw [List.length_append, List.length_cons, List.length_take, List.length_drop]; omega

inductive MakeR (r : RefS) (load : List UInt8) : RefS → PgR → Bool → Prop
  | full : r.T.pick = none → MakeR r load r noPg false
  | made {n : Nat} {f : List Int} : r.T.pick = some n → WithR r.fresh n f → MakeR r load { r with T := r.T.took, live := r.live ++ [⟨n, r.gen, load⟩], fresh := f } ⟨n, r.gen, load⟩ true
inductive DropR (r : RefS) (i : Nat) : RefS → Prop
  | fresh {p : PgR} : r.live[i]? = some p → p.page ∈ r.fresh → DropR r i { r with live := r.live.eraseIdx i, fresh := r.fresh.filter (fun j => !decide (j = p.page)), T := r.T.clr p.page }
  | old {p : PgR} {y : List Int} : r.live[i]? = some p → p.page ∉ r.fresh → WithR r.dying p.page y → DropR r i { r with live := r.live.eraseIdx i, dying := y }
inductive WrR (r : RefS) (i : Nat) (load : List UInt8) : RefS → PgR → Bool → Prop
  | fresh {p : PgR} : r.live[i]? = some p → p.page ∈ r.fresh → WrR r i load { r with live := r.live.set i { p with load := load } } { p with load := load } true
  | full {p : PgR} : r.live[i]? = some p → p.page ∉ r.fresh → r.T.pick = none → WrR r i load r noPg false
  | new {p q : PgR} {r1 r2 : RefS} : r.live[i]? = some p → p.page ∉ r.fresh → MakeR r load r1 q true → DropR r1 i r2 → WrR r i load r2 q true
def RefS.commit (r : RefS) : RefS := { r with T := r.dead.foldl SetA.clr r.T, dead := r.dying, dying := [], fresh := [], gen := r.gen + 1 }
def RefS.new (n : Nat) : RefS := ⟨SetA.new n, 1, [], [], [], []⟩

attribute [local irreducible] own pe nf

theorem s_sgraffitoref13_New {n : Nat} (hn : n ≤ 65536) : FnSpec Tryz.prog 9 #[.int .i64 n] []
    (fun X : RefX => refSV (RefS.new n) X) (fun _ => True) (fun X R => pe (refP (RefS.new n) X) :: R) := by
  refine fn_spec Tryz.func9 rfl rfl rfl rfl fun G R => ?_
  dsimp only [List.append_eq, List.cons_append, List.nil_append]
  refine wk_seq ?_
  refine wk_region ?_
  refine wo_w (w_allocA tyZ_43 fun b1 => ?_)
  refine wo_nil ?_
  refine wk_seq ?_
  refine wk_region ?_
  refine wo_v (v_move rfl) ?_
  refine wo_w (w_call (s_sgraffitoref07_New hn) rfl (by repeat constructor) ?_)
  rintro x hx
  refine wo_v (v_buildN tyBu_43 rfl (by repeat constructor)) ?_
  refine wo_w0 (w_storeN tyN_43 rfl rfl rfl rfl (by repeat constructor) (by repeat constructor) ?_)
  refine wo_nil ?_
  refine wk_ret Tryz.func9 rfl rfl (res_cellA tyA_43 rfl (by repeat constructor) rfl res_nil) fun W h => ?_
  have h1 := Ent.sat (ent_roNil (x := nilSV) (size := 3) rfl (ent_roNil (x := nilSV) (size := 1) rfl (Ent.refl _))) h
  exact ⟨⟨x, nilSV, nilSV, nilSV, nilSV⟩, rfl, trivial, Ent.sat (ent_refIn (r := RefS.new n) (X := ⟨x, nilSV, nilSV, nilSV, nilSV⟩) (.there (.there (.there .here))) .here (.there .here) (.there .here) (.there .here) (Tail.ent (.drop (.drop (.drop (.drop .refl)))))) h1⟩

theorem s_sgraffitoref13_without {x : SV} {l : List Int} {n : Int} (hl : l.length ≤ 65536) : FnSpec Tryz.prog 83 #[x.v, .int .i64 n] [pe (roSl x (l.map keyV) 1)]
    (fun y : SV => y.v) (fun _ => True) (fun y R => pe (roSl y ((l.filter fun j => !decide (j = n)).map keyV) 1) :: R) := by
  refine fn_spec Tryz.func83 rfl rfl rfl rfl fun G R => ?_
  dsimp only [List.append_eq, List.cons_append, List.nil_append]
  refine wk_ro (x := x) (cells := l.map keyV) (size := 1) (by repeat constructor) fun hx => ?_
  have hxn : x.n = l.length := by have := hx.1; simpa using this.symm
  refine wk_ent (M := osl nilSV (((l.take 0).filter fun j => !decide (j = n)).map keyV) 1 3 :: pe (roSl x (l.map keyV) 1) :: R) (ent_oslNil (Ent.refl _)) ?_
  refine wk_seq ?_
  refine wk_region ?_
  refine wo_v (v_assign rfl) ?_
  refine wo_nil ?_
  refine wk_seq ?_
  refine wk_region ?_
  refine wo_v (v_assign rfl) ?_
  refine wo_nil ?_
  refine wk_seq ?_
  refine wk_seq ?_
  refine wk_region ?_
  refine wo_v (v_assign rfl) ?_
  refine wo_nil ?_
  refine wk_block ?_
  refine wk_loop (fun a : Nat × SV => a.1 ≤ l.length ∧ a.2.n ≤ a.1) (fun a => [(0, x.v), (1, .int .i64 n), (5, a.2.v), (6, .int .i64 a.1)]) (fun a => osl a.2 (((l.take a.1).filter fun j => !decide (j = n)).map keyV) 1 3 :: pe (roSl x (l.map keyV) 1) :: R) (fun a => l.length - a.1) (0, nilSV) ⟨Nat.zero_le _, Nat.le_refl _⟩ ⟨rfl, rfl, rfl, rfl, trivial⟩ (Ent.refl _) fun a0 hI next => ?_
  obtain ⟨i, z⟩ := a0
  obtain ⟨hi, hz⟩ := hI
  dsimp only at hi hz next ⊢
  refine wk_seq ?_
  refine wk_seq ?_
  refine wk_region ?_
  refine wo_v (v_move rfl) ?_
  refine wo_v (v_move rfl) ?_
  refine wo_v (v_len tyU_23 rfl) ?_
  refine wo_v (v_lss rfl rfl) ?_
  refine wo_nil ?_
  refine wk_if rfl (fun hb => ?_) (fun hb => ?_)
  · have hil : i < l.length := by omega
    have hg : l[i]? = some l[i] := List.getElem?_eq_getElem hil
    have htk : l.take (i + 1) = l.take i ++ [l[i]] := List.take_succ_eq_append_getElem hil
    generalize l[i] = q at hg htk
    refine wk_block' (x := x) (cells := l.map keyV) (size := 1) (by repeat constructor) (by omega) fun b5 o5 vs5 T5 fz5 ha5 hv5 hle5 => ?_
    refine wk_skip ?_
    refine wk_seq ?_
    refine wk_block ?_
    refine wk_seq ?_
    refine wk_region ?_
    refine wo_v (v_move rfl) ?_
    refine wo_v (v_move rfl) ?_
    refine wo_v (v_indexAddrS tyU_23 tyN_3 rfl rfl ha5 (by omega)) ?_
    refine wo_v (v_load tyS_3 rfl (ro_get hv5 (keyV_at hg))) ?_
    refine wo_v (v_move rfl) ?_
    refine wo_v (v_neq rfl rfl) ?_
    refine wo_nil ?_
    refine wk_if rfl (fun hq => ?_) (fun hq => ?_)
    · refine wk_region ?_
      refine wo_v (v_move rfl) ?_
      refine wo_v (v_move rfl) ?_
      refine wo_v (v_move rfl) ?_
      refine wo_v (v_indexAddrS tyU_23 tyN_3 rfl rfl ha5 (by omega)) ?_
      refine wo_v (v_load tyS_3 rfl (ro_get hv5 (keyV_at hg))) ?_
      refine wo_w (w_buildSlice1 tyU_23 tyN_3 tyZ_3 rfl rfl rfl rfl fun b1 => ?_)
      refine wo_w (w_append (x := z) tyU_23 tyU_23 (.inl ⟨_, rfl⟩) tyB_3 tyN_3 tyZ_3 rfl (by decide) rfl rfl ((src_blk (vs := [keyV q]) (new := [keyV q]) rfl (Nat.le_refl _))) rfl (by repeat constructor) (by (try dsimp only); omega) (by (try dsimp only); omega) rfl fun b2 hb2 => ?_)
      refine wo_v (v_assign rfl) ?_
      refine wo_nil ?_
      refine wk_inBlock ?_
      refine wk_region ?_
      refine wo_v (v_move rfl) ?_
      refine wo_v (v_addI rfl rfl) ?_
      refine wo_v (v_assign rfl) ?_
      refine wo_nil ?_
      refine (next (i + 1, b2) ⟨by dsimp only; omega, by dsimp only; rw [hb2]; omega⟩ (by dsimp only; omega)).use ⟨rfl, rfl, rfl, rfl, trivial⟩ ?_
      dsimp only
      rw [htk, List.filter_append, List.map_append, show ([q].filter fun j => !decide (j = n)).map keyV = [keyV q] from by simp [hq]]
      exact (by refine ent_take ?_; refine ent_take ?_; exact ent_tail)
    · refine wk_skip ?_
      refine wk_inBlock ?_
      refine wk_region ?_
      refine wo_v (v_move rfl) ?_
      refine wo_v (v_addI rfl rfl) ?_
      refine wo_v (v_assign rfl) ?_
      refine wo_nil ?_
      have hq' : q = n := by omega
      refine (next (i + 1, z) ⟨by dsimp only; omega, by dsimp only; omega⟩ (by dsimp only; omega)).use ⟨rfl, rfl, rfl, rfl, trivial⟩ ?_
      dsimp only
      rw [htk, List.filter_append, List.map_append, show ([q].filter fun j => !decide (j = n)).map keyV = [] from by simp [hq'], List.append_nil]
      exact (by refine ent_take ?_; refine ent_take ?_; exact ent_tail)
  · refine wk_exit rfl ?_
    refine wk_seq ?_
    refine wk_region ?_
    refine wo_v (v_move rfl) ?_
    refine wo_v (v_assign rfl) ?_
    refine wo_nil ?_
    refine wk_ret Tryz.func83 rfl rfl (res_tmp rfl res_nil) fun W h => ?_
    have hil : i = l.length := by omega
    rw [hil, List.take_length] at h
    exact ⟨z, rfl, trivial, Ent.sat (by refine ent_take ?_; exact ent_tail) (up_freeze _ _ h)⟩

theorem allOne_pg (l : List PgR) : allOne (rowC pgC l) = true := by
  induction l with
  | nil => rfl
  | cons p l ih =>
    show allOne (_ :: _ :: _ :: rowC pgC l) = true
    simp [allOne, ih, Value.oneCell']

structure MakX where
  r : RefS
  X : RefX
  p : PgR
  ok : Bool
theorem s_sgraffitoref13_Make {r : RefS} {X : RefX} {load : List UInt8} (hB : RefB r) : FnSpec Tryz.prog 33 #[refSV r X, str load] [pe (refP r X)]
    (fun y : MakX => .tuple #[refSV y.r y.X, pgRV y.p, .bool y.ok]) (fun y => MakeR r load y.r y.p y.ok) (fun y R => pe (refP y.r y.X) :: R) := by
  refine fn_spec Tryz.func33 rfl rfl rfl rfl fun G R => ?_
  dsimp only [List.append_eq, List.cons_append, List.nil_append]
  refine wk_ent (ent_refOut (by repeat constructor)) ?_
  refine wk_ro (x := X.xl) (cells := rowC pgC r.live) (size := 3) (by repeat constructor) fun hl => ?_
  have hln : X.xl.n = r.live.length := by have := hl.1; rw [rowC_len pgC_len] at this; omega
  have hlive := hB.live
  have hgen1 := hB.g1
  have hgen2 := hB.g2
  rcases hpk : r.T.pick with _ | n
  · skip
    refine wk_seq ?_
    refine wk_region ?_
    refine wo_w (w_boxA rfl fun b1 => ?_)
    refine wo_w (w_allocA tyZ_43 fun b2 => ?_)
    refine wo_w (w_allocA tyZ_86 fun b3 => ?_)
    refine wo_v (v_assign rfl) ?_
    refine wo_nil ?_
    refine wk_seq ?_
    refine wk_region ?_
    refine wo_v (v_fieldAddr tyF_43_0 rfl) ?_
    refine wo_v (v_loadN tyA_40 rfl (by repeat constructor) (by repeat constructor)) ?_
    refine wo_w (w_call (s_sgraffitoref07_Take (T := r.T) (x := X.xt) hB.B) rfl (by repeat constructor) ?_)
    rintro y hy
    rw [hpk]
    refine wo_v (v_move rfl) ?_
    refine wo_v (v_extract rfl rfl) ?_
    refine wo_v (v_extract rfl rfl) ?_
    refine wo_w (w_allocA tyZ_40 fun b4 => ?_)
    refine wo_w0 (w_storeN tyN_40 rfl rfl rfl rfl (by repeat constructor) (by repeat constructor) ?_)
    refine wo_v (v_assign rfl) ?_
    refine wo_nil ?_
    refine wk_seq ?_
    refine wk_seq ?_
    refine wk_region ?_
    refine wo_v (v_move rfl) ?_
    refine wo_v (v_lss rfl rfl) ?_
    refine wo_nil ?_
    refine wk_if rfl (fun hneg => ?_) (fun hneg => ?_)
    · refine wk_seq ?_
      refine wk_region ?_
      refine wo_v (v_loadN tyA_43 rfl (by repeat constructor) (by repeat constructor)) ?_
      refine wo_v (v_buildN tyBu_86 rfl (by repeat constructor)) ?_
      refine wo_w0 (w_storeN tyN_43 rfl rfl rfl rfl (by repeat constructor) (by repeat constructor) ?_)
      refine wo_w0 (w_storeN tyN_86 rfl rfl rfl rfl (by repeat constructor) (by repeat constructor) ?_)
      refine wo_v (v_assign rfl) ?_
      refine wo_nil ?_
      refine wk_ret Tryz.func33 rfl rfl (res_cellA tyA_43 rfl (by repeat constructor) rfl (res_cellA tyA_86 rfl (by repeat constructor) rfl (res_tmp rfl res_nil))) fun W h => ?_
      refine ⟨⟨r, X, noPg, false⟩, rfl, .full hpk, Ent.sat ?_ h⟩
      refine (ent_refIn (by repeat constructor) (by repeat constructor) (by repeat constructor) (by repeat constructor) (by repeat constructor) ?_)
      exact ent_tail
    · exact absurd (by decide) hneg
  · skip
    refine wk_seq ?_
    refine wk_region ?_
    refine wo_w (w_boxA rfl fun b1 => ?_)
    refine wo_w (w_allocA tyZ_43 fun b2 => ?_)
    refine wo_w (w_allocA tyZ_86 fun b3 => ?_)
    refine wo_v (v_assign rfl) ?_
    refine wo_nil ?_
    refine wk_seq ?_
    refine wk_region ?_
    refine wo_v (v_fieldAddr tyF_43_0 rfl) ?_
    refine wo_v (v_loadN tyA_40 rfl (by repeat constructor) (by repeat constructor)) ?_
    refine wo_w (w_call (s_sgraffitoref07_Take (T := r.T) (x := X.xt) hB.B) rfl (by repeat constructor) ?_)
    rintro y hy
    rw [hpk]
    refine wo_v (v_move rfl) ?_
    refine wo_v (v_extract rfl rfl) ?_
    refine wo_v (v_extract rfl rfl) ?_
    refine wo_w (w_allocA tyZ_40 fun b4 => ?_)
    refine wo_w0 (w_storeN tyN_40 rfl rfl rfl rfl (by repeat constructor) (by repeat constructor) ?_)
    refine wo_v (v_assign rfl) ?_
    refine wo_nil ?_
    refine wk_seq ?_
    refine wk_seq ?_
    refine wk_region ?_
    refine wo_v (v_move rfl) ?_
    refine wo_v (v_lss rfl rfl) ?_
    refine wo_nil ?_
    refine wk_if rfl (fun hneg => ?_) (fun hneg => ?_)
    · exact absurd hneg (by show ¬ (n : Int) < 0; omega)
    · refine wk_skip ?_
      refine wk_seq ?_
      refine wk_region ?_
      refine wo_v (v_loadN tyA_40 rfl (by repeat constructor) (by repeat constructor)) ?_
      refine wo_v (v_fieldAddr tyF_43_0 rfl) ?_
      refine wo_w0 (w_storeN tyN_40 rfl rfl rfl rfl (by repeat constructor) (by repeat constructor) ?_)
      refine wo_nil ?_
      refine wk_seq ?_
      refine wk_region ?_
      refine wo_v (v_move rfl) ?_
      refine wo_v (v_fieldAddr tyF_43_1 rfl) ?_
      refine wo_v (v_load tyS_3 rfl rfl) ?_
      refine wo_v (v_move rfl) ?_
      refine wo_v (v_buildN tyBu_86 rfl (by repeat constructor)) ?_
      refine wo_w (w_allocA tyZ_86 fun b5 => ?_)
      refine wo_w0 (w_storeN tyN_86 rfl rfl rfl rfl (by repeat constructor) (by repeat constructor) ?_)
      refine wo_nil ?_
      refine wk_seq ?_
      refine wk_draw (n := 9) (pend := 511) ⟨8, fun w => Sat G w [blk b1 [y.v, .int .i64 r.T.took.hand, .int .i64 r.gen, X.xl.v, X.xf.v, X.xy.v, X.xd.v] 43, blk b5 (pgC ⟨n, r.gen, load⟩) 86]⟩ mixed (by kernel_rfl) rfl (fun w s_ => Ent.sat (by refine ent_take ?_; refine ent_take ?_; exact ent_nil) s_) rfl ?_
      refine wd_p 1 rfl (v_fieldAddr tyF_43_2 rfl) ?_
      refine wd_fr 2 rfl (fun w h => h) (v_load tyS_41 rfl rfl) ?_
      refine wd_fr 4 rfl (fun w h => h) (v_loadN tyA_86 rfl (by repeat constructor) (by repeat constructor)) ?_
      refine wd_alt [0, 5] (by kernel_rfl) ⟨0, by simp, by kernel_rfl⟩ ?_
      intro i hi
      simp only [List.mem_cons, List.not_mem_nil, or_false] at hi
      rcases hi with rfl | rfl
      · refine alt_l rfl (w_buildSlice0 tyU_41 tyN_86 fun e0 => ?_)
        refine ⟨fun w s_ _ => Ent.sat (by refine ent_take ?_; refine ent_take ?_; exact ent_nil) s_, ?_⟩
        refine wd_ent ((ent_take (p := blk e0 [] 86) (t := by repeat constructor) (Ent.refl _)).trans (ent_oslEmpty (size := 3))) ?_
        refine wd_alt [3, 5] (by kernel_rfl) ⟨3, by simp, by kernel_rfl⟩ ?_
        intro i hi
        simp only [List.mem_cons, List.not_mem_nil, or_false] at hi
        rcases hi with rfl | rfl
        · refine alt_l rfl (w_append (x := ⟨some ⟨e0, 0, none⟩, 0, 0⟩) tyU_41 tyU_41 (.inl ⟨_, rfl⟩) tyB_86 tyN_86 tyZ_86 rfl (by decide) rfl rfl (src_ro (x := X.xl)) (allOne_pg _) (by repeat constructor) (by (try dsimp only); omega) (by (try dsimp only); omega) hl.1 fun e1 he1 => ?_)
          refine ⟨fun w s_ _ => Ent.sat (by refine ent_take ?_; refine ent_take ?_; exact ent_nil) s_, ?_⟩
          have he1n : e1.n = r.live.length := by rw [he1]; show 0 + X.xl.n = _; omega
          refine wd_l 5 rfl (w_buildSlice1 tyU_41 tyN_86 tyZ_86 rfl rfl rfl rfl fun e2 => ?_)
          refine ⟨fun w s_ _ => Ent.sat (by refine ent_take ?_; refine ent_take ?_; exact ent_nil) s_, ?_⟩
          refine wd_l 6 rfl (w_append (x := e1) tyU_41 tyU_41 (.inl ⟨_, rfl⟩) tyB_86 tyN_86 tyZ_86 rfl (by decide) rfl rfl (src_blk (vs := pgC ⟨n, r.gen, load⟩) (new := pgC ⟨n, r.gen, load⟩) rfl (Nat.le_refl _)) rfl (by repeat constructor) (by (try dsimp only); omega) (by (try dsimp only); omega) rfl fun e3 he3 => ?_)
          refine ⟨fun w s_ _ => Ent.sat (by refine ent_take ?_; refine ent_take ?_; exact ent_nil) s_, ?_⟩
          refine wd_a 7 rfl (v_fieldAddr tyF_43_2 rfl) ?_
          refine wd_l0 8 rfl (w_storeN1 tyN_41 rfl rfl rfl (by repeat constructor) (by repeat constructor) ?_)
          refine ⟨fun w s_ => Wat.gone (by decide), ?_⟩
          refine wd_done ?_
          refine wk_seq ?_
          refine wk_region ?_
          refine wo_v (v_fieldAddr tyF_43_3 rfl) ?_
          refine wo_v (v_load tyS_23 rfl rfl) ?_
          refine wo_v (v_move rfl) ?_
          refine wo_w (w_call (s_sgraffitoref13_with (x := X.xf) (l := r.fresh) (n := (n : Int)) hB.fresh) rfl (by repeat constructor) ?_)
          rintro ⟨z, k⟩ ⟨hk, hz⟩
          refine wo_v (v_fieldAddr tyF_43_3 rfl) ?_
          refine wo_w0 (w_storeN1 tyN_23 rfl rfl rfl (by repeat constructor) (by repeat constructor) ?_)
          refine wo_nil ?_
          refine wk_seq ?_
          refine wk_draw (n := 5) (pend := 31) ⟨3, fun w => Sat G w [blk b1 [y.v, .int .i64 r.T.took.hand, .int .i64 r.gen, e3.v, z.v, X.xy.v, X.xd.v] 43, blk b5 (pgC ⟨n, r.gen, load⟩) 86]⟩ mixed (by kernel_rfl) rfl (fun w s_ => Ent.sat (by refine ent_take ?_; refine ent_take ?_; exact ent_nil) s_) rfl ?_
          refine wd_a 0 rfl (v_loadN tyA_43 rfl (by repeat constructor) (by repeat constructor)) ?_
          refine wd_fr 1 rfl (fun w h => h) (v_loadN tyA_86 rfl (by repeat constructor) (by repeat constructor)) ?_
          refine wd_l0 2 rfl (w_storeN tyN_43 rfl rfl rfl rfl (by repeat constructor) (by repeat constructor) ?_)
          refine ⟨fun w s_ _ => Ent.sat (by refine ent_take ?_; refine ent_take ?_; exact ent_nil) s_, ?_⟩
          refine wd_l0 3 rfl (w_storeN tyN_86 rfl rfl rfl rfl (by repeat constructor) (by repeat constructor) ?_)
          refine ⟨fun w s_ => Wat.gone (by decide), ?_⟩
          refine wd_a 4 rfl (v_assign rfl) ?_
          refine wd_done ?_
          refine wk_ret Tryz.func33 rfl rfl (res_cellA tyA_43 rfl (by repeat constructor) rfl (res_cellA tyA_86 rfl (by repeat constructor) rfl (res_tmp rfl res_nil))) fun W h => ?_
          have hcells : ([] ++ rowC pgC r.live) ++ pgC ⟨n, r.gen, load⟩ = rowC pgC (r.live ++ [⟨n, r.gen, load⟩]) := by rw [rowC_append, List.nil_append]; simp [rowC]
          have hA := Ent.sat (ent_take (p := osl e3 (([] ++ rowC pgC r.live) ++ pgC ⟨n, r.gen, load⟩) 3 86) (t := by repeat constructor) (Ent.refl _)) h
          rw [hcells] at hA
          have hC := up_freeze _ _ hA
          refine ⟨⟨{ r with T := r.T.took, live := r.live ++ [⟨n, r.gen, load⟩], fresh := r.fresh.take k ++ (n : Int) :: r.fresh.drop k }, ⟨y, e3, z, X.xy, X.xd⟩, ⟨n, r.gen, load⟩, true⟩, rfl, .made hpk ⟨k, hk, rfl⟩, Ent.sat ?_ hC⟩
          refine (ent_refIn (by repeat constructor) (by repeat constructor) (by repeat constructor) (by repeat constructor) (by repeat constructor) ?_)
          exact ent_tail
        · refine alt_l rfl (w_buildSlice1 tyU_41 tyN_86 tyZ_86 rfl rfl rfl rfl fun e2 => ?_)
          refine ⟨fun w s_ _ => Ent.sat (by refine ent_take ?_; refine ent_take ?_; exact ent_nil) s_, ?_⟩
          refine wd_l 3 rfl (w_append (x := ⟨some ⟨e0, 0, none⟩, 0, 0⟩) tyU_41 tyU_41 (.inl ⟨_, rfl⟩) tyB_86 tyN_86 tyZ_86 rfl (by decide) rfl rfl (src_ro (x := X.xl)) (allOne_pg _) (by repeat constructor) (by (try dsimp only); omega) (by (try dsimp only); omega) hl.1 fun e1 he1 => ?_)
          refine ⟨fun w s_ _ => Ent.sat (by refine ent_take ?_; refine ent_take ?_; exact ent_nil) s_, ?_⟩
          have he1n : e1.n = r.live.length := by rw [he1]; show 0 + X.xl.n = _; omega
          refine wd_l 6 rfl (w_append (x := e1) tyU_41 tyU_41 (.inl ⟨_, rfl⟩) tyB_86 tyN_86 tyZ_86 rfl (by decide) rfl rfl (src_blk (vs := pgC ⟨n, r.gen, load⟩) (new := pgC ⟨n, r.gen, load⟩) rfl (Nat.le_refl _)) rfl (by repeat constructor) (by (try dsimp only); omega) (by (try dsimp only); omega) rfl fun e3 he3 => ?_)
          refine ⟨fun w s_ _ => Ent.sat (by refine ent_take ?_; refine ent_take ?_; exact ent_nil) s_, ?_⟩
          refine wd_a 7 rfl (v_fieldAddr tyF_43_2 rfl) ?_
          refine wd_l0 8 rfl (w_storeN1 tyN_41 rfl rfl rfl (by repeat constructor) (by repeat constructor) ?_)
          refine ⟨fun w s_ => Wat.gone (by decide), ?_⟩
          refine wd_done ?_
          refine wk_seq ?_
          refine wk_region ?_
          refine wo_v (v_fieldAddr tyF_43_3 rfl) ?_
          refine wo_v (v_load tyS_23 rfl rfl) ?_
          refine wo_v (v_move rfl) ?_
          refine wo_w (w_call (s_sgraffitoref13_with (x := X.xf) (l := r.fresh) (n := (n : Int)) hB.fresh) rfl (by repeat constructor) ?_)
          rintro ⟨z, k⟩ ⟨hk, hz⟩
          refine wo_v (v_fieldAddr tyF_43_3 rfl) ?_
          refine wo_w0 (w_storeN1 tyN_23 rfl rfl rfl (by repeat constructor) (by repeat constructor) ?_)
          refine wo_nil ?_
          refine wk_seq ?_
          refine wk_draw (n := 5) (pend := 31) ⟨3, fun w => Sat G w [blk b1 [y.v, .int .i64 r.T.took.hand, .int .i64 r.gen, e3.v, z.v, X.xy.v, X.xd.v] 43, blk b5 (pgC ⟨n, r.gen, load⟩) 86]⟩ mixed (by kernel_rfl) rfl (fun w s_ => Ent.sat (by refine ent_take ?_; refine ent_take ?_; exact ent_nil) s_) rfl ?_
          refine wd_a 0 rfl (v_loadN tyA_43 rfl (by repeat constructor) (by repeat constructor)) ?_
          refine wd_fr 1 rfl (fun w h => h) (v_loadN tyA_86 rfl (by repeat constructor) (by repeat constructor)) ?_
          refine wd_l0 2 rfl (w_storeN tyN_43 rfl rfl rfl rfl (by repeat constructor) (by repeat constructor) ?_)
          refine ⟨fun w s_ _ => Ent.sat (by refine ent_take ?_; refine ent_take ?_; exact ent_nil) s_, ?_⟩
          refine wd_l0 3 rfl (w_storeN tyN_86 rfl rfl rfl rfl (by repeat constructor) (by repeat constructor) ?_)
          refine ⟨fun w s_ => Wat.gone (by decide), ?_⟩
          refine wd_a 4 rfl (v_assign rfl) ?_
          refine wd_done ?_
          refine wk_ret Tryz.func33 rfl rfl (res_cellA tyA_43 rfl (by repeat constructor) rfl (res_cellA tyA_86 rfl (by repeat constructor) rfl (res_tmp rfl res_nil))) fun W h => ?_
          have hcells : ([] ++ rowC pgC r.live) ++ pgC ⟨n, r.gen, load⟩ = rowC pgC (r.live ++ [⟨n, r.gen, load⟩]) := by rw [rowC_append, List.nil_append]; simp [rowC]
          have hA := Ent.sat (ent_take (p := osl e3 (([] ++ rowC pgC r.live) ++ pgC ⟨n, r.gen, load⟩) 3 86) (t := by repeat constructor) (Ent.refl _)) h
          rw [hcells] at hA
          have hC := up_freeze _ _ hA
          refine ⟨⟨{ r with T := r.T.took, live := r.live ++ [⟨n, r.gen, load⟩], fresh := r.fresh.take k ++ (n : Int) :: r.fresh.drop k }, ⟨y, e3, z, X.xy, X.xd⟩, ⟨n, r.gen, load⟩, true⟩, rfl, .made hpk ⟨k, hk, rfl⟩, Ent.sat ?_ hC⟩
          refine (ent_refIn (by repeat constructor) (by repeat constructor) (by repeat constructor) (by repeat constructor) (by repeat constructor) ?_)
          exact ent_tail
      · refine alt_l rfl (w_buildSlice1 tyU_41 tyN_86 tyZ_86 rfl rfl rfl rfl fun e2 => ?_)
        refine ⟨fun w s_ _ => Ent.sat (by refine ent_take ?_; refine ent_take ?_; exact ent_nil) s_, ?_⟩
        refine wd_l 0 rfl (w_buildSlice0 tyU_41 tyN_86 fun e0 => ?_)
        refine ⟨fun w s_ _ => Ent.sat (by refine ent_take ?_; refine ent_take ?_; exact ent_nil) s_, ?_⟩
        refine wd_ent ((ent_take (p := blk e0 [] 86) (t := by repeat constructor) (Ent.refl _)).trans (ent_oslEmpty (size := 3))) ?_
        refine wd_l 3 rfl (w_append (x := ⟨some ⟨e0, 0, none⟩, 0, 0⟩) tyU_41 tyU_41 (.inl ⟨_, rfl⟩) tyB_86 tyN_86 tyZ_86 rfl (by decide) rfl rfl (src_ro (x := X.xl)) (allOne_pg _) (by repeat constructor) (by (try dsimp only); omega) (by (try dsimp only); omega) hl.1 fun e1 he1 => ?_)
        refine ⟨fun w s_ _ => Ent.sat (by refine ent_take ?_; refine ent_take ?_; exact ent_nil) s_, ?_⟩
        have he1n : e1.n = r.live.length := by rw [he1]; show 0 + X.xl.n = _; omega
        refine wd_l 6 rfl (w_append (x := e1) tyU_41 tyU_41 (.inl ⟨_, rfl⟩) tyB_86 tyN_86 tyZ_86 rfl (by decide) rfl rfl (src_blk (vs := pgC ⟨n, r.gen, load⟩) (new := pgC ⟨n, r.gen, load⟩) rfl (Nat.le_refl _)) rfl (by repeat constructor) (by (try dsimp only); omega) (by (try dsimp only); omega) rfl fun e3 he3 => ?_)
        refine ⟨fun w s_ _ => Ent.sat (by refine ent_take ?_; refine ent_take ?_; exact ent_nil) s_, ?_⟩
        refine wd_a 7 rfl (v_fieldAddr tyF_43_2 rfl) ?_
        refine wd_l0 8 rfl (w_storeN1 tyN_41 rfl rfl rfl (by repeat constructor) (by repeat constructor) ?_)
        refine ⟨fun w s_ => Wat.gone (by decide), ?_⟩
        refine wd_done ?_
        refine wk_seq ?_
        refine wk_region ?_
        refine wo_v (v_fieldAddr tyF_43_3 rfl) ?_
        refine wo_v (v_load tyS_23 rfl rfl) ?_
        refine wo_v (v_move rfl) ?_
        refine wo_w (w_call (s_sgraffitoref13_with (x := X.xf) (l := r.fresh) (n := (n : Int)) hB.fresh) rfl (by repeat constructor) ?_)
        rintro ⟨z, k⟩ ⟨hk, hz⟩
        refine wo_v (v_fieldAddr tyF_43_3 rfl) ?_
        refine wo_w0 (w_storeN1 tyN_23 rfl rfl rfl (by repeat constructor) (by repeat constructor) ?_)
        refine wo_nil ?_
        refine wk_seq ?_
        refine wk_draw (n := 5) (pend := 31) ⟨3, fun w => Sat G w [blk b1 [y.v, .int .i64 r.T.took.hand, .int .i64 r.gen, e3.v, z.v, X.xy.v, X.xd.v] 43, blk b5 (pgC ⟨n, r.gen, load⟩) 86]⟩ mixed (by kernel_rfl) rfl (fun w s_ => Ent.sat (by refine ent_take ?_; refine ent_take ?_; exact ent_nil) s_) rfl ?_
        refine wd_a 0 rfl (v_loadN tyA_43 rfl (by repeat constructor) (by repeat constructor)) ?_
        refine wd_fr 1 rfl (fun w h => h) (v_loadN tyA_86 rfl (by repeat constructor) (by repeat constructor)) ?_
        refine wd_l0 2 rfl (w_storeN tyN_43 rfl rfl rfl rfl (by repeat constructor) (by repeat constructor) ?_)
        refine ⟨fun w s_ _ => Ent.sat (by refine ent_take ?_; refine ent_take ?_; exact ent_nil) s_, ?_⟩
        refine wd_l0 3 rfl (w_storeN tyN_86 rfl rfl rfl rfl (by repeat constructor) (by repeat constructor) ?_)
        refine ⟨fun w s_ => Wat.gone (by decide), ?_⟩
        refine wd_a 4 rfl (v_assign rfl) ?_
        refine wd_done ?_
        refine wk_ret Tryz.func33 rfl rfl (res_cellA tyA_43 rfl (by repeat constructor) rfl (res_cellA tyA_86 rfl (by repeat constructor) rfl (res_tmp rfl res_nil))) fun W h => ?_
        have hcells : ([] ++ rowC pgC r.live) ++ pgC ⟨n, r.gen, load⟩ = rowC pgC (r.live ++ [⟨n, r.gen, load⟩]) := by rw [rowC_append, List.nil_append]; simp [rowC]
        have hA := Ent.sat (ent_take (p := osl e3 (([] ++ rowC pgC r.live) ++ pgC ⟨n, r.gen, load⟩) 3 86) (t := by repeat constructor) (Ent.refl _)) h
        rw [hcells] at hA
        have hC := up_freeze _ _ hA
        refine ⟨⟨{ r with T := r.T.took, live := r.live ++ [⟨n, r.gen, load⟩], fresh := r.fresh.take k ++ (n : Int) :: r.fresh.drop k }, ⟨y, e3, z, X.xy, X.xd⟩, ⟨n, r.gen, load⟩, true⟩, rfl, .made hpk ⟨k, hk, rfl⟩, Ent.sat ?_ hC⟩
        refine (ent_refIn (by repeat constructor) (by repeat constructor) (by repeat constructor) (by repeat constructor) (by repeat constructor) ?_)
        exact ent_tail

end Go.Proofs.YtealmijbkebipaaGreatDoor
