/- Layer 13 (store): New. Layer 13 (store): a page that goes; Free; Mark. -/
import Derived.Test.YtealmijbkebipaaGreatDoorSwAN
namespace Go.Proofs.YtealmijbkebipaaGreatDoor
open Go
attribute [local irreducible] own pe nf

theorem SetA.took_n (st : SetA) : st.took.n = st.n := by unfold SetA.took; split <;> rfl
theorem SetA.pick_lt {st : SetA} {n : Nat} (h : st.pick = some n) : n < st.n := by
  unfold SetA.pick at h
  split at h
  · rename_i i hi; cases h; exact (SetA.first_get hi).1
  · exact (SetA.first_get h).1
theorem SetA.pick_free {st : SetA} {n : Nat} (h : st.pick = some n) : st.has n = false := by
  unfold SetA.pick at h
  split at h
  · rename_i i hi; cases h; exact (SetA.first_get hi).2
  · exact (SetA.first_get h).2

theorem StOK.take {p : PlanA} {S : StA} {X : StX} (h : StOK p S X) (n : Nat) {l : List Int} (hl : ∀ j, j ∈ l ↔ j = (n : Int) ∨ j ∈ X.LF) : StOK p { S with taken := S.taken.took, fresh := sset S.fresh n } { X with LF := l } :=
  { h with
    fr := fun k => by
      show sset S.fresh n k = decide (k ∈ l)
      unfold sset
      rw [h.fr k]
      by_cases hk : k = (n : Int)
      · rw [if_pos hk]; exact (decide_eq_true ((hl k).2 (.inl hk))).symm
      · rw [if_neg hk, decide_eq_decide, hl k]; simp [hk]
    tn := (SetA.took_n _).trans h.tn }

theorem KeepR.same {S : StA} {st : DevA} {k : Int} {p : PageA} {e : Nat} {S' : StA} {st' : DevA} (h : KeepR S st k p e S' st') : S' = { S with mem := S'.mem } := by cases h; rfl

structure NewX where
  r : RefA
  e : Nat
  S : StA
  st : DevA
theorem s_store_Store_New {s d : Nat} {p : PlanA} {S : StA} {st : DevA} {x : SV} {load : List UInt8} (hd : DevB st) (hl : load.length ≤ 1048576) : FnSpec Tryz.prog 24 #[.pointer (some ⟨s, 0, none⟩), x.v] [StH s d p S, DevH d st, pe (bsl x load)]
    (fun y : NewX => .tuple #[refV y.r, .int .i64 y.e]) (fun y => NewR S st load y.r y.e y.S y.st) (fun y R => StH s d p y.S :: DevH d y.st :: R) := by
  refine fn_spec Tryz.func24 rfl rfl rfl rfl fun G R => ?_
  refine wk_nf fun X hw => ?_
  dsimp only [List.append_eq, List.cons_append, List.nil_append, stL, stB]
  refine wk_ro (x := x) (cells := u8s load) (size := 1) (by repeat constructor) fun hx => ?_
  have hxn : x.n = load.length := by have := hx.1; simpa using this.symm
  have hroom := hw.room
  have hps := hw.plan.s2
  have hpr : p.room = p.size - 19 := rfl
  refine wk_seq ?_
  refine wk_region ?_
  refine wo_w (w_allocA tyZ_82 fun b1 => ?_)
  refine wo_v (v_assign rfl) ?_
  refine wo_nil ?_
  refine wk_seq ?_
  refine wk_block ?_
  refine wk_seq ?_
  refine wk_region ?_
  refine wo_v (v_move rfl) ?_
  refine wo_v (v_eqSome tyU_29 rfl rfl) ?_
  refine wo_v (v_assign rfl) ?_
  refine wo_nil ?_
  refine wk_condF rfl ?_
  refine wk_seq ?_
  refine wk_region ?_
  refine wo_v (v_move rfl) ?_
  refine wo_v (v_len tyU_45 rfl) ?_
  refine wo_v (v_move rfl) ?_
  refine wo_v (v_nilCheck rfl) ?_
  refine wo_v (v_fieldAddr tyF_74_4 rfl) ?_
  refine wo_v (v_load tyS_3 rfl rfl) ?_
  refine wo_v (v_gtr rfl rfl) ?_
  refine wo_v (v_assign rfl) ?_
  refine wo_nil ?_
  refine wk_if rfl (fun h1 => ?_) (fun h1 => ?_)
  · refine wk_seq ?_
    refine wk_region ?_
    refine wo_v (v_buildN tyBu_82 rfl (by repeat constructor)) ?_
    refine wo_w0 (w_storeN tyN_82 rfl rfl rfl rfl (by repeat constructor) (by repeat constructor) ?_)
    refine wo_v (v_assign rfl) ?_
    refine wo_nil ?_
    refine wk_ret Tryz.func24 rfl rfl (res_cellA tyA_82 rfl (by repeat constructor) rfl (res_tmp rfl res_nil)) fun W h => ?_
    exact ⟨⟨noRef, 9, S, st⟩, rfl, .long (by omega), Ent.sat (by refine ent_nf X hw ?_; refine ent_take (p := DevH d st) ?_; exact ent_tail) h⟩
  · have hnl : ¬ S.room < load.length := by omega
    refine wk_skip ?_
    refine wk_inBlock ?_
    refine wk_seq ?_
    refine wk_region ?_
    refine wo_v (v_move rfl) ?_
    refine wo_v (v_nilCheck rfl) ?_
    refine wo_v (v_fieldAddr tyF_74_6 rfl) ?_
    refine wo_v (v_load tyS_70 rfl rfl) ?_
    refine wo_w (w_call (s_bits_Set_Take (st := S.taken)) rfl (by repeat constructor) ?_)
    rintro ⟨⟩ -
    refine wo_v (v_move rfl) ?_
    refine wo_v (v_extract rfl rfl) ?_
    refine wo_v (v_extract rfl rfl) ?_
    refine wo_v (v_assign rfl) ?_
    refine wo_v (v_assign rfl) ?_
    refine wo_nil ?_
    refine wk_seq ?_
    refine wk_seq ?_
    refine wk_region ?_
    refine wo_v (v_move rfl) ?_
    refine wo_v (v_not rfl) ?_
    refine wo_nil ?_
    refine wk_if rfl (fun hi => ?_) (fun hi => ?_)
    · refine wk_seq ?_
      refine wk_region ?_
      refine wo_v (v_buildN tyBu_82 rfl (by repeat constructor)) ?_
      refine wo_w0 (w_storeN tyN_82 rfl rfl rfl rfl (by repeat constructor) (by repeat constructor) ?_)
      refine wo_v (v_assign rfl) ?_
      refine wo_nil ?_
      refine wk_ret Tryz.func24 rfl rfl (res_cellA tyA_82 rfl (by repeat constructor) rfl (res_tmp rfl res_nil)) fun W h => ?_
      have hn : S.taken.pick = none := by simpa using hi
      have ht : S.taken.took = S.taken := by unfold SetA.took; rw [hn]
      rw [ht] at h
      exact ⟨⟨noRef, 6, S, st⟩, rfl, .full hnl hn, Ent.sat (by refine ent_nf X hw ?_; refine ent_take (p := DevH d st) ?_; exact ent_tail) h⟩
    · obtain ⟨n, hn⟩ := Option.isSome_iff_exists.1 (by simpa using hi)
      have hnlt := SetA.pick_lt hn
      have htn := hw.tn
      obtain ⟨LF', e1, hLF⟩ := onM_put X.LF (n : Int)
      have hw2 := hw.take n hLF
      refine wk_skip ?_
      refine wk_seq ?_
      refine wk_region ?_
      refine wo_v (v_move rfl) ?_
      refine wo_v (v_nilCheck rfl) ?_
      refine wo_v (v_fieldAddr tyF_74_7 rfl) ?_
      refine wo_v (v_load tyS_71 rfl rfl) ?_
      rw [hn]; dsimp only [optN]
      refine wo_v (v_move rfl) ?_
      refine wo_w0 (w_mapUpdate tyM_71 rfl rfl rfl (by repeat constructor) ?_)
      rw [e1]
      refine wo_nil ?_
      refine wk_seq ?_
      refine wk_seq ?_
      refine wk_draw (n := 11) (pend := 2047) ⟨9, fun w => w.cell? ⟨s, 12, none⟩ = some (.int .i64 S.gen)⟩ mixed (by kernel_rfl) rfl (fun w s_ => HasC.cell (b := s) (by repeat constructor) s_ 12) rfl ?_
      refine wd_a 6 rfl (v_move rfl) ?_
      refine wd_p 0 rfl (v_move rfl) ?_
      refine wd_p 1 rfl (v_move rfl) ?_
      refine wd_p 2 rfl (v_move rfl) ?_
      refine wd_p 3 rfl (v_nilCheck rfl) ?_
      refine wd_p 4 rfl (v_fieldAddr tyF_74_5 rfl) ?_
      refine wd_ld 5 rfl tyS_3 rfl (fun w h => h) ?_
      refine wd_l 7 rfl (w_call (s_bytes_Clone (bs := load) (by omega)) rfl (by repeat constructor) ?_)
      rintro y hyn
      refine ⟨fun w s_ _ => HasC.cell (b := s) (by repeat constructor) s_ 12, ?_⟩
      refine wd_a 8 rfl (v_buildN tyBu_67 rfl (by repeat constructor)) ?_
      refine wd_ent (M := StH s d p { S with taken := S.taken.took, fresh := sset S.fresh n } :: _) (ent_nf { X with LF := LF' } hw2 (Ent.refl _)) ?_
      have hq : PgB ⟨S.gen, load, true⟩ := ⟨show load.length ≤ 512 by omega, show 0 ≤ S.gen by have := hw.g1; omega, show S.gen ≤ 9223372036854775807 by have := hw.g2; omega⟩
      refine wd_l 9 rfl (w_call (s_store_Store_keep (S := { S with taken := S.taken.took, fresh := sset S.fresh n }) (st := st) (n := n) (q := ⟨S.gen, load, true⟩) (sv := y) hd hq (by omega) (by dsimp only; omega)) rfl (by repeat constructor) ?_)
      rintro ⟨e, S', st'⟩ hk
      refine ⟨fun w s_ => Wat.gone (by decide), ?_⟩
      dsimp only at hk ⊢
      refine wd_a 10 rfl (v_assign rfl) ?_
      refine wd_done ?_
      refine wk_seq ?_
      refine wk_region ?_
      refine wo_v (v_move rfl) ?_
      refine wo_v (v_neq rfl rfl) ?_
      refine wo_nil ?_
      refine wk_if rfl (fun he => ?_) (fun he => ?_)
      · refine wk_seq ?_
        refine wk_region ?_
        refine wo_v (v_buildN tyBu_82 rfl (by repeat constructor)) ?_
        refine wo_v (v_move rfl) ?_
        refine wo_w0 (w_storeN tyN_82 rfl rfl rfl rfl (by repeat constructor) (by repeat constructor) ?_)
        refine wo_v (v_assign rfl) ?_
        refine wo_nil ?_
        refine wk_ret Tryz.func24 rfl rfl (res_cellA tyA_82 rfl (by repeat constructor) rfl (res_tmp rfl res_nil)) fun W h => ?_
        have hn2 := NewR.made hnl hn hk
        rw [if_neg (by omega)] at hn2
        exact ⟨⟨noRef, e, S', st'⟩, rfl, hn2, Ent.sat (by refine ent_take ?_; refine ent_take ?_; exact ent_tail) h⟩
      · refine wk_nf fun X2 hw3 => ?_
        dsimp only [List.append_eq, List.cons_append, List.nil_append, stL, stB] at hw3 ⊢
        have hS := hk.same
        have hgen : S'.gen = S.gen := by rw [hS]
        rw [hgen]
        refine wk_skip ?_
        refine wk_seq ?_
        refine wk_region ?_
        refine wo_v (v_move rfl) ?_
        refine wo_v (v_move rfl) ?_
        refine wo_v (v_nilCheck rfl) ?_
        refine wo_v (v_fieldAddr tyF_74_5 rfl) ?_
        refine wo_v (v_load tyS_3 rfl rfl) ?_
        refine wo_v (v_buildN tyBu_82 rfl (by repeat constructor)) ?_
        refine wo_w0 (w_storeN tyN_82 rfl rfl rfl rfl (by repeat constructor) (by repeat constructor) ?_)
        refine wo_v (v_assign rfl) ?_
        refine wo_nil ?_
        refine wk_ret Tryz.func24 rfl rfl (res_cellA tyA_82 rfl (by repeat constructor) rfl (res_tmp rfl res_nil)) fun W h => ?_
        have he0 : e = 0 := by omega
        have hn2 := NewR.made hnl hn hk
        rw [if_pos he0] at hn2
        rw [← hgen] at h
        subst he0
        exact ⟨⟨⟨n, S.gen⟩, 0, S', st'⟩, rfl, hn2, Ent.sat (by refine ent_nf X2 hw3 ?_; refine ent_take (p := DevH d st') ?_; exact ent_tail) h⟩

end Go.Proofs.YtealmijbkebipaaGreatDoor

namespace Go.Proofs.YtealmijbkebipaaGreatDoor
open Go
attribute [local irreducible] own pe nf

theorem v_lookupOn {P : Program} {C : Cx} {e : Env} {L M : List HP} {ty t : TypeId} {x y : Operand} {r : Nat} {l : List Int} {k : Int} {b : Bool} (hu : tyMapB P t (.bool false)) (hx : ev e x = some (.map (some r))) (hy : ev e y = some (.int .i64 k)) (hb : b = decide (k ∈ l)) (ht : Take (mapH r (onM l)) L M := by repeat constructor) :
    OpV P C (.lookup t x y false) ty e L (.bool b) := by
  have h := v_lookup (C := C) (ty := ty) hu hx hy ht
  rw [onM_getD, ← hb] at h; exact h

theorem SetA.put_no {st : SetA} {k : Nat} (h : st.has k = false) : st.put k false = st := by
  unfold SetA.put
  have : st.taken.set k false = st.taken := by
    unfold SetA.has at h
    apply List.ext_getElem?
    intro i
    rw [List.getElem?_set]
    by_cases hi : k = i
    · subst hi
      rw [if_pos rfl]
      by_cases hk : k < st.taken.length
      · rw [if_pos hk]
        rw [List.getElem?_eq_getElem hk] at h ⊢
        exact congrArg some h.symm
      · rw [if_neg hk, List.getElem?_eq_none (by omega)]
    · rw [if_neg hi]
  rw [this]
theorem SetA.clear_eq (st : SetA) {i : Int} (hi : 0 ≤ i) : (if (decide (0 ≤ i) && st.has i.toNat) = true then st.put i.toNat false else st) = st.put i.toNat false := by
  by_cases h : st.has i.toNat = true
  · rw [if_pos (by simp [hi, h])]
  · rw [if_neg (by simp [h]), SetA.put_no (by simpa using h)]

theorem StOK.toDying {p : PlanA} {S : StA} {X : StX} (h : StOK p S X) (n : Int) {l : List Int} (hl : ∀ j, j ∈ l ↔ j = n ∨ j ∈ X.LY) : StOK p { S with dying := sset S.dying n } { X with LY := l } :=
  { h with
    dy := fun k => by
      show sset S.dying n k = decide (k ∈ l)
      unfold sset
      rw [h.dy k]
      by_cases hk : k = n
      · rw [if_pos hk]; exact (decide_eq_true ((hl k).2 (.inl hk))).symm
      · rw [if_neg hk, decide_eq_decide, hl k]; simp [hk] }
theorem mout_some {m : MemA} {n k : Int} {q : PageA} (h : mout m n k = some q) : k ≠ n ∧ m k = some q := by
  unfold mout at h
  split at h
  · cases h
  · rename_i hk; exact ⟨hk, h⟩
theorem StOK.outFresh {p : PlanA} {S : StA} {X : StX} (h : StOK p S X) (n : Int) {l : List Int} (hl : ∀ j, j ∈ l ↔ j ≠ n ∧ j ∈ X.LF) : StOK p { S with fresh := sout S.fresh n, taken := S.taken.put n.toNat false, mem := mout S.mem n } { X with LF := l } :=
  { h with
    fr := fun k => by
      show sout S.fresh n k = decide (k ∈ l)
      unfold sout
      rw [h.fr k]
      by_cases hk : k = n
      · rw [if_pos hk, eq_comm, decide_eq_false_iff_not, hl k]; exact fun hh => hh.1 hk
      · rw [if_neg hk, decide_eq_decide, hl k]; simp [hk]
    tn := h.tn
    mem := fun k q hq => h.mem k q (mout_some hq).2 }

theorem s_store_Store_gone {s d : Nat} {p : PlanA} {S : StA} {n : Int} (h0 : 0 ≤ n) : FnSpec Tryz.prog 59 #[.pointer (some ⟨s, 0, none⟩), .int .i64 n] [StH s d p S]
    (fun _ : Unit => .tuple #[]) (fun _ => True) (fun _ R => StH s d p (S.goneS n) :: R) := by
  refine fn_spec Tryz.func59 rfl rfl rfl rfl fun G R => ?_
  refine wk_nf fun X hw => ?_
  dsimp only [List.append_eq, List.cons_append, List.nil_append, stL, stB]
  refine wk_mapN (r := X.mf) (l := onM X.LF) (by repeat constructor) fun hn => ?_
  rw [onM_keys] at hn
  obtain ⟨LY', e1, hLY⟩ := onM_put X.LY n
  obtain ⟨LF', e2, hLF⟩ := onM_del hn n
  refine wk_seq ?_
  refine wk_seq ?_
  refine wk_region ?_
  refine wo_v (v_move rfl) ?_
  refine wo_v (v_nilCheck rfl) ?_
  refine wo_v (v_fieldAddr tyF_74_7 rfl) ?_
  refine wo_v (v_load tyS_71 rfl rfl) ?_
  refine wo_v (v_move rfl) ?_
  refine wo_v (v_lookupOn tyM_71 rfl rfl (hw.fr n)) ?_
  refine wo_v (v_not rfl) ?_
  refine wo_nil ?_
  refine wk_if rfl (fun hb => ?_) (fun hb => ?_)
  · refine wk_seq ?_
    refine wk_region ?_
    refine wo_v (v_move rfl) ?_
    refine wo_v (v_nilCheck rfl) ?_
    refine wo_v (v_fieldAddr tyF_74_8 rfl) ?_
    refine wo_v (v_load tyS_71 rfl rfl) ?_
    refine wo_v (v_move rfl) ?_
    refine wo_w0 (w_mapUpdate tyM_71 rfl rfl rfl (by repeat constructor) ?_)
    refine wo_nil ?_
    refine wk_ret Tryz.func59 rfl rfl res_nil fun W h => ?_
    rw [e1] at h
    have hS : S.goneS n = { S with dying := sset S.dying n } := if_neg (by rw [hb]; decide)
    rw [hS]
    exact ⟨(), rfl, trivial, Ent.sat (by refine ent_nf { X with LY := LY' } (hw.toDying n hLY) ?_; exact ent_tail) h⟩
  · refine wk_skip ?_
    refine wk_seq ?_
    refine wk_region ?_
    refine wo_v (v_move rfl) ?_
    refine wo_v (v_nilCheck rfl) ?_
    refine wo_v (v_fieldAddr tyF_74_7 rfl) ?_
    refine wo_v (v_load tyS_71 rfl rfl) ?_
    refine wo_v (v_move rfl) ?_
    refine wo_w0 (w_delete tyM_71 rfl rfl (by repeat constructor) ?_)
    rw [e2]
    refine wo_nil ?_
    refine wk_seq ?_
    refine wk_region ?_
    refine wo_v (v_move rfl) ?_
    refine wo_v (v_nilCheck rfl) ?_
    refine wo_v (v_fieldAddr tyF_74_6 rfl) ?_
    refine wo_v (v_load tyS_70 rfl rfl) ?_
    refine wo_v (v_move rfl) ?_
    refine wo_w (w_call (s_bits_Set_Clear (st := S.taken) (i := n)) rfl (by repeat constructor) ?_)
    rintro ⟨⟩ -
    rw [SetA.clear_eq _ h0]
    refine wo_nil ?_
    refine wk_region ?_
    refine wo_v (v_move rfl) ?_
    refine wo_v (v_nilCheck rfl) ?_
    refine wo_v (v_fieldAddr tyF_74_10 rfl) ?_
    refine wo_v (v_load tyS_72 rfl rfl) ?_
    refine wo_v (v_move rfl) ?_
    refine wo_w (w_call (s_clock_Clock_Drop (mem := S.mem) (k := n)) rfl (by repeat constructor) ?_)
    rintro sv -
    refine wo_nil ?_
    refine wk_end Tryz.func59 rfl rfl res_nil fun W h => ?_
    have hS : S.goneS n = { S with fresh := sout S.fresh n, taken := S.taken.put n.toNat false, mem := mout S.mem n } := if_pos hb
    rw [hS]
    exact ⟨(), rfl, trivial, Ent.sat (by refine ent_nf { X with LF := LF' } (hw.outFresh n hLF) ?_; exact ent_tail) h⟩

theorem s_store_Store_Free {s d : Nat} {p : PlanA} {S : StA} {r : RefA} : FnSpec Tryz.prog 28 #[.pointer (some ⟨s, 0, none⟩), refV r] [StH s d p S]
    (fun _ : Unit => .int .i64 (S.freeE r)) (fun _ => True) (fun _ R => StH s d p (if S.freeE r = 0 then S.goneS r.page else S) :: R) := by
  refine fn_spec Tryz.func28 rfl rfl rfl rfl fun G R => ?_
  dsimp only [List.append_eq, List.cons_append, List.nil_append]
  refine wk_seq ?_
  refine wk_region ?_
  refine wo_w (w_boxA rfl fun b1 => ?_)
  refine wo_v (v_assign rfl) ?_
  refine wo_nil ?_
  refine wk_seq ?_
  refine wk_seq ?_
  refine wk_region ?_
  refine wo_v (v_move rfl) ?_
  refine wo_v (v_loadN tyA_82 rfl (by repeat constructor) (by repeat constructor)) ?_
  refine wo_w (w_call (s_store_Store_in (S := S) (r := r)) rfl (by repeat constructor) ?_)
  rintro ⟨⟩ -
  refine wo_v (v_assign rfl) ?_
  refine wo_nil ?_
  refine wk_seq ?_
  refine wk_region ?_
  refine wo_v (v_move rfl) ?_
  refine wo_v (v_neq rfl rfl) ?_
  refine wo_nil ?_
  refine wk_if rfl (fun hi => ?_) (fun hi => ?_)
  · refine wk_seq ?_
    refine wk_region ?_
    refine wo_v (v_move rfl) ?_
    refine wo_v (v_assign rfl) ?_
    refine wo_nil ?_
    refine wk_ret Tryz.func28 rfl rfl (res_tmp rfl res_nil) fun W h => ?_
    have hi' : S.inE r.page ≠ 0 := by omega
    have hf : S.freeE r = S.inE r.page := if_pos hi'
    rw [hf, if_neg hi']
    exact ⟨(), rfl, trivial, Ent.sat (by refine ent_take ?_; exact ent_tail) h⟩
  · have hi' : ¬ S.inE r.page ≠ 0 := by omega
    have hpg : 0 ≤ r.page := by unfold StA.inE at hi'; split at hi' <;> omega
    refine wk_ent (ent_take (p := StH s d p S) (t := by repeat constructor) (Ent.refl _)) ?_
    refine wk_nf fun X hw => ?_
    dsimp only [List.append_eq, List.cons_append, List.nil_append, stL, stB] at hw ⊢
    refine wk_skip ?_
    refine wk_seq ?_
    refine wk_seq ?_
    refine wk_draw (n := 26) (pend := 67108863) ⟨26, fun _ => True⟩ mixed (by kernel_rfl) rfl (fun _ _ => trivial) rfl ?_
    refine wd_a 0 rfl (v_move rfl) ?_
    refine wd_a 1 rfl (v_nilCheck rfl) ?_
    refine wd_a 2 rfl (v_fieldAddr tyF_74_6 rfl) ?_
    refine wd_a 3 rfl (v_load tyS_70 rfl rfl) ?_
    refine wd_a 4 rfl (v_fieldAddr tyF_82_0 rfl) ?_
    refine wd_a 5 rfl (v_load tyS_3 rfl rfl) ?_
    refine wd_l 6 rfl (w_call (s_bits_Set_Has (st := S.taken) (i := r.page)) rfl (by repeat constructor) ?_)
    rintro ⟨⟩ -
    refine ⟨fun _ _ _ => trivial, ?_⟩
    refine wd_a 7 rfl (v_not rfl) ?_
    refine wd_a 8 rfl (v_move rfl) ?_
    refine wd_if (t := 20) rfl (fun h1 => ?_) (fun h1 => ?_)
    · refine wd_gF 9 rfl rfl rfl rfl ?_
      refine wd_gF 10 rfl rfl rfl rfl ?_
      refine wd_gF 11 rfl rfl rfl rfl ?_
      refine wd_gF 12 rfl rfl rfl rfl ?_
      refine wd_gF 13 rfl rfl rfl rfl ?_
      refine wd_gF 14 rfl rfl rfl rfl ?_
      refine wd_gF 15 rfl rfl rfl rfl ?_
      refine wd_a 16 rfl (v_pickT rfl rfl) ?_
      refine wd_a 17 rfl (v_move rfl) ?_
      refine wd_gF 18 rfl rfl rfl rfl ?_
      refine wd_gF 19 rfl rfl rfl rfl ?_
      refine wd_gF 20 rfl rfl rfl rfl ?_
      refine wd_gF 21 rfl rfl rfl rfl ?_
      refine wd_gF 22 rfl rfl rfl rfl ?_
      refine wd_gF 23 rfl rfl rfl rfl ?_
      refine wd_gF 24 rfl rfl rfl rfl ?_
      refine wd_a 25 rfl (v_pickT rfl rfl) ?_
      refine wd_done ?_
      refine wk_condT rfl ?_
      refine wk_seq ?_
      refine wk_region ?_
      refine wo_v (v_assign rfl) ?_
      refine wo_nil ?_
      refine wk_ret Tryz.func28 rfl rfl (res_tmp rfl res_nil) fun W h => ?_
      have hx : S.freeE r = 7 := by
        have h1' : S.taken.has r.page.toNat = false := by
          rcases h1 with h1 | h1
          · omega
          · exact h1
        rw [StA.freeE, if_neg hi', if_pos (.inl h1')]
      rw [hx, if_neg (by decide)]
      exact ⟨(), rfl, trivial, Ent.sat (by refine ent_nf X hw ?_; exact ent_tail) h⟩
    · have h1t : S.taken.has r.page.toNat = true := by
        have := h1.2; simpa using this
      refine wd_ag 9 rfl rfl rfl (v_move rfl) ?_
      refine wd_ag 10 rfl rfl rfl (v_nilCheck rfl) ?_
      refine wd_ag 11 rfl rfl rfl (v_fieldAddr tyF_74_8 rfl) ?_
      refine wd_ag 12 rfl rfl rfl (v_load tyS_71 rfl rfl) ?_
      refine wd_ag 13 rfl rfl rfl (v_fieldAddr tyF_82_0 rfl) ?_
      refine wd_ag 14 rfl rfl rfl (v_load tyS_3 rfl rfl) ?_
      refine wd_ag 15 rfl rfl rfl (v_lookupOn tyM_71 rfl rfl (hw.dy r.page)) ?_
      refine wd_a 16 rfl (v_pickF rfl rfl) ?_
      refine wd_a 17 rfl (v_move rfl) ?_
      refine wd_if (t := 29) rfl (fun h2 => ?_) (fun h2 => ?_)
      · refine wd_gF 18 rfl rfl rfl rfl ?_
        refine wd_gF 19 rfl rfl rfl rfl ?_
        refine wd_gF 20 rfl rfl rfl rfl ?_
        refine wd_gF 21 rfl rfl rfl rfl ?_
        refine wd_gF 22 rfl rfl rfl rfl ?_
        refine wd_gF 23 rfl rfl rfl rfl ?_
        refine wd_gF 24 rfl rfl rfl rfl ?_
        refine wd_a 25 rfl (v_pickT rfl rfl) ?_
        refine wd_done ?_
        refine wk_condT rfl ?_
        refine wk_seq ?_
        refine wk_region ?_
        refine wo_v (v_assign rfl) ?_
        refine wo_nil ?_
        refine wk_ret Tryz.func28 rfl rfl (res_tmp rfl res_nil) fun W h => ?_
        have hx : S.freeE r = 7 := by rw [StA.freeE, if_neg hi', if_pos (.inr (.inl h2))]
        rw [hx, if_neg (by decide)]
        exact ⟨(), rfl, trivial, Ent.sat (by refine ent_nf X hw ?_; exact ent_tail) h⟩
      · refine wd_ag 18 rfl rfl rfl (v_move rfl) ?_
        refine wd_ag 19 rfl rfl rfl (v_nilCheck rfl) ?_
        refine wd_ag 20 rfl rfl rfl (v_fieldAddr tyF_74_9 rfl) ?_
        refine wd_ag 21 rfl rfl rfl (v_load tyS_71 rfl rfl) ?_
        refine wd_ag 22 rfl rfl rfl (v_fieldAddr tyF_82_0 rfl) ?_
        refine wd_ag 23 rfl rfl rfl (v_load tyS_3 rfl rfl) ?_
        refine wd_ag 24 rfl rfl rfl (v_lookupOn tyM_71 rfl rfl (hw.de r.page)) ?_
        refine wd_a 25 rfl (v_pickF rfl rfl) ?_
        refine wd_done ?_
        refine wk_if rfl (fun h3 => ?_) (fun h3 => ?_)
        · refine wk_seq ?_
          refine wk_region ?_
          refine wo_v (v_assign rfl) ?_
          refine wo_nil ?_
          refine wk_ret Tryz.func28 rfl rfl (res_tmp rfl res_nil) fun W h => ?_
          have hx : S.freeE r = 7 := by rw [StA.freeE, if_neg hi', if_pos (.inr (.inr h3))]
          rw [hx, if_neg (by decide)]
          exact ⟨(), rfl, trivial, Ent.sat (by refine ent_nf X hw ?_; exact ent_tail) h⟩
        · refine wk_ent (M := StH s d p S :: _) (ent_nf X hw (Ent.refl _)) ?_
          refine wk_skip ?_
          refine wk_seq ?_
          refine wk_region ?_
          refine wo_v (v_move rfl) ?_
          refine wo_v (v_fieldAddr tyF_82_0 rfl) ?_
          refine wo_v (v_load tyS_3 rfl rfl) ?_
          refine wo_w (w_call (s_store_Store_gone (S := S) (n := r.page) hpg) rfl (by repeat constructor) ?_)
          rintro ⟨⟩ -
          refine wo_nil ?_
          refine wk_seq ?_
          refine wk_region ?_
          refine wo_v (v_assign rfl) ?_
          refine wo_nil ?_
          refine wk_ret Tryz.func28 rfl rfl (res_tmp rfl res_nil) fun W h => ?_
          have hx : S.freeE r = 0 := by
            rw [StA.freeE, if_neg hi', if_neg]
            rintro (h | h | h)
            · rw [h1t] at h; cases h
            · rw [h2] at h; cases h
            · rw [h3] at h; cases h
          rw [hx, if_pos rfl]
          exact ⟨(), rfl, trivial, Ent.sat (by refine ent_take ?_; exact ent_tail) h⟩

end Go.Proofs.YtealmijbkebipaaGreatDoor
