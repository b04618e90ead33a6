/- Layer 13 (store): Mark and Read. Layer 13 (store): Write. -/
import Derived.Test.YtealmijbkebipaaGreatDoorSwAO
namespace Go.Proofs.YtealmijbkebipaaGreatDoor
open Go
attribute [local irreducible] own pe nf

def StA.markE (S : StA) (r : RefA) : Nat := if S.inE r.page ≠ 0 then S.inE r.page else if S.taken.isFree r.page = true then 0 else 8
theorem StOK.put {p : PlanA} {S : StA} {X : StX} (h : StOK p S X) (k : Nat) (b : Bool) : StOK p { S with taken := S.taken.put k b } X := { h with tn := h.tn }

theorem s_store_Store_Mark {s d : Nat} {p : PlanA} {S : StA} {r : RefA} : FnSpec Tryz.prog 40 #[.pointer (some ⟨s, 0, none⟩), refV r] [StH s d p S]
    (fun _ : Unit => .int .i64 (S.markE r)) (fun _ => True) (fun _ R => StH s d p (if S.markE r = 0 then { S with taken := S.taken.put r.page.toNat true } else S) :: R) := by
  refine fn_spec Tryz.func40 rfl rfl rfl rfl fun G R => ?_
  dsimp only [List.append_eq, List.cons_append, List.nil_append]
  refine wk_seq ?_
  refine wk_region ?_
  refine wo_w (w_boxA rfl fun b1 => ?_)
  refine wo_v (v_assign rfl) ?_
  refine wo_nil ?_
  refine wk_seq ?_
  refine wk_seq ?_
  refine wk_region ?_
  refine wo_v (v_move rfl) ?_
  refine wo_v (v_loadN tyA_82 rfl (by repeat constructor) (by repeat constructor)) ?_
  refine wo_w (w_call (s_store_Store_in (S := S) (r := r)) rfl (by repeat constructor) ?_)
  rintro ⟨⟩ -
  refine wo_v (v_assign rfl) ?_
  refine wo_nil ?_
  refine wk_seq ?_
  refine wk_region ?_
  refine wo_v (v_move rfl) ?_
  refine wo_v (v_neq rfl rfl) ?_
  refine wo_nil ?_
  refine wk_if rfl (fun hi => ?_) (fun hi => ?_)
  · refine wk_seq ?_
    refine wk_region ?_
    refine wo_v (v_move rfl) ?_
    refine wo_v (v_assign rfl) ?_
    refine wo_nil ?_
    refine wk_ret Tryz.func40 rfl rfl (res_tmp rfl res_nil) fun W h => ?_
    have hi' : S.inE r.page ≠ 0 := by omega
    have hf : S.markE r = S.inE r.page := if_pos hi'
    rw [hf, if_neg hi']
    exact ⟨(), rfl, trivial, Ent.sat (by refine ent_take ?_; exact ent_tail) h⟩
  · have hi' : ¬ S.inE r.page ≠ 0 := by omega
    refine wk_ent (ent_take (p := StH s d p S) (t := by repeat constructor) (Ent.refl _)) ?_
    refine wk_nf fun X hw => ?_
    dsimp only [List.append_eq, List.cons_append, List.nil_append, stL, stB] at hw ⊢
    refine wk_skip ?_
    refine wk_seq ?_
    refine wk_seq ?_
    refine wk_draw (n := 8) (pend := 255) ⟨8, fun _ => True⟩ mixed (by kernel_rfl) rfl (fun _ _ => trivial) rfl ?_
    refine wd_a 0 rfl (v_move rfl) ?_
    refine wd_a 1 rfl (v_nilCheck rfl) ?_
    refine wd_a 2 rfl (v_fieldAddr tyF_74_6 rfl) ?_
    refine wd_a 3 rfl (v_load tyS_70 rfl rfl) ?_
    refine wd_a 4 rfl (v_fieldAddr tyF_82_0 rfl) ?_
    refine wd_a 5 rfl (v_load tyS_3 rfl rfl) ?_
    refine wd_l 6 rfl (w_call (s_bits_Set_Mark (st := S.taken) (i := r.page)) rfl (by repeat constructor) ?_)
    rintro ⟨⟩ -
    refine ⟨fun _ _ _ => trivial, ?_⟩
    refine wd_a 7 rfl (v_not rfl) ?_
    refine wd_done ?_
    refine wk_if rfl (fun h1 => ?_) (fun h1 => ?_)
    · refine wk_seq ?_
      refine wk_region ?_
      refine wo_v (v_assign rfl) ?_
      refine wo_nil ?_
      refine wk_ret Tryz.func40 rfl rfl (res_tmp rfl res_nil) fun W h => ?_
      have hx : S.markE r = 8 := by rw [StA.markE, if_neg hi', if_neg (by rw [h1]; decide)]
      rw [if_neg (show ¬ S.taken.isFree r.page = true by rw [h1]; decide)] at h
      rw [hx, if_neg (by decide)]
      exact ⟨(), rfl, trivial, Ent.sat (by refine ent_nf X hw ?_; exact ent_tail) h⟩
    · refine wk_skip ?_
      refine wk_seq ?_
      refine wk_region ?_
      refine wo_v (v_assign rfl) ?_
      refine wo_nil ?_
      refine wk_ret Tryz.func40 rfl rfl (res_tmp rfl res_nil) fun W h => ?_
      have hx : S.markE r = 0 := by rw [StA.markE, if_neg hi', if_pos h1]
      rw [if_pos h1] at h
      rw [hx, if_pos rfl]
      exact ⟨(), rfl, trivial, Ent.sat (by refine ent_nf X (hw.put r.page.toNat true) ?_; exact ent_tail) h⟩

theorem get_none {st : DevA} {k kind place : Int} (h : (st.get k kind place).1 = none) : (st.get k kind place).2 ≠ 0 := by
  unfold DevA.get at h ⊢
  split
  · rename_i h1
    rw [if_pos h1] at h
    split at h
    · split at h
      · cases h
      · rename_i x hx hc
        simp [hc]
    · rename_i hx
      simp
  · rename_i h1; exact h1
theorem get_some {st : DevA} {k kind place : Int} {x : LeafA} (h : st.get k kind place = (some x, 0)) : 0 ≤ x.stamp ∧ x.stamp ≤ 9223372036854775807 := by
  unfold DevA.get at h
  split at h
  · split at h
    · rename_i y hy
      split at h
      · have : y = x := by simpa using h
        subst this
        obtain ⟨h1, _, h3, _⟩ := readL_some hy
        refine ⟨?_, h3⟩
        unfold LeafA.bad at h1; omega
      · simp at h
    · simp at h
  · simp at h

structure ReadX where
  y : SV
  load : List UInt8
  e : Nat
  S : StA
  st : DevA
theorem s_store_Store_Read {s d : Nat} {p : PlanA} {S : StA} {st : DevA} {r : RefA} (hd : DevB st) : FnSpec Tryz.prog 30 #[.pointer (some ⟨s, 0, none⟩), refV r] [StH s d p S, DevH d st]
    (fun x : ReadX => .tuple #[x.y.v, .int .i64 x.e]) (fun x => x.y.n = x.load.length ∧ ReadR S st r x.load x.e x.S x.st) (fun x R => pe (bsl x.y x.load) :: StH s d p x.S :: DevH d x.st :: R) := by
  refine fn_spec Tryz.func30 rfl rfl rfl rfl fun G R => ?_
  dsimp only [List.append_eq, List.cons_append, List.nil_append]
  refine wk_seq ?_
  refine wk_region ?_
  refine wo_w (w_boxA rfl fun b1 => ?_)
  refine wo_v (v_assign rfl) ?_
  refine wo_v (v_assign rfl) ?_
  refine wo_nil ?_
  refine wk_seq ?_
  refine wk_seq ?_
  refine wk_region ?_
  refine wo_v (v_move rfl) ?_
  refine wo_v (v_loadN tyA_82 rfl (by repeat constructor) (by repeat constructor)) ?_
  refine wo_w (w_call (s_store_Store_in (S := S) (r := r)) rfl (by repeat constructor) ?_)
  rintro ⟨⟩ -
  refine wo_v (v_assign rfl) ?_
  refine wo_nil ?_
  refine wk_seq ?_
  refine wk_region ?_
  refine wo_v (v_move rfl) ?_
  refine wo_v (v_neq rfl rfl) ?_
  refine wo_nil ?_
  refine wk_if rfl (fun hin => ?_) (fun hin => ?_)
  · refine wk_seq ?_
    refine wk_region ?_
    refine wo_v (v_move rfl) ?_
    refine wo_v (v_assign rfl) ?_
    refine wo_v (v_assign rfl) ?_
    refine wo_nil ?_
    refine wk_ret Tryz.func30 rfl rfl (res_tmp rfl (res_tmp rfl res_nil)) fun W h => ?_
    have hin' : S.inE r.page ≠ 0 := by omega
    exact ⟨⟨nilSV, [], S.inE r.page, S, st⟩, rfl, ⟨rfl, .range hin'⟩, Ent.sat (ent_roNil rfl (by refine ent_take (p := StH s d p S) ?_; refine ent_take (p := DevH d st) ?_; exact ent_tail)) h⟩
  · have hin' : S.inE r.page = 0 := by omega
    have hpg : 0 ≤ r.page ∧ r.page < S.pages := by have h := hin'; unfold StA.inE at h; split at h <;> omega
    refine wk_ent (ent_take (p := StH s d p S) (t := by repeat constructor) (Ent.refl _)) ?_
    refine wk_nf fun X hw => ?_
    dsimp only [List.append_eq, List.cons_append, List.nil_append, stL, stB] at hw ⊢
    have hbd := hw.bounds
    refine wk_skip ?_
    refine wk_seq ?_
    refine wk_draw (n := 13) (pend := 8191) ⟨13, fun _ => True⟩ mixed (by kernel_rfl) rfl (fun _ _ => trivial) rfl ?_
    refine wd_x 0 rfl (v_move rfl) ?_
    refine wd_x 1 rfl (v_nilCheck rfl) ?_
    refine wd_x 2 rfl (v_fieldAddr tyF_74_10 rfl) ?_
    refine wd_x 3 rfl (v_load tyS_72 rfl rfl) ?_
    refine wd_x 4 rfl (v_fieldAddr tyF_82_0 rfl) ?_
    refine wd_x 5 rfl (v_load tyS_3 rfl rfl) ?_
    refine wd_alt [6, 10] (by kernel_rfl) ⟨6, by simp, by kernel_rfl⟩ ?_
    intro i hi
    simp only [List.mem_cons, List.not_mem_nil, or_false] at hi
    rcases hi with rfl | rfl
    · refine alt_l rfl (w_call (s_clock_Clock_Get (mem := S.mem) (k := r.page)) rfl (by repeat constructor) ?_)
      rintro sv -
      refine ⟨fun _ _ _ => trivial, ?_⟩
      refine wd_x 7 rfl (v_move rfl) ?_
      refine wd_x 8 rfl (v_extract rfl rfl) ?_
      refine wd_p 9 rfl (v_extract rfl rfl) ?_
      refine wd_l 10 rfl (w_allocA tyZ_67 fun b2 => ?_)
      refine ⟨fun _ _ _ => trivial, ?_⟩
      refine wd_l0 11 rfl (w_storeN tyN_67 rfl rfl rfl rfl (by repeat constructor) (by repeat constructor) ?_)
      refine ⟨fun _ _ _ => trivial, ?_⟩
      refine wd_a 12 rfl (v_assign rfl) ?_
      refine wd_done ?_
      refine wk_seq ?_
      refine wk_seq ?_
      refine wk_region ?_
      refine wo_v (v_move rfl) ?_
      refine wo_v (v_not rfl) ?_
      refine wo_nil ?_
      refine wk_if rfl (fun hm => ?_) (fun hm => ?_)
      · have hmn : S.mem r.page = none := by simpa using hm
        refine wk_seq ?_
        refine wk_draw (n := 20) (pend := 1048575) ⟨20, fun _ => True⟩ mixed (by kernel_rfl) rfl (fun _ _ => trivial) rfl ?_
        refine wd_x 0 rfl (v_move rfl) ?_
        refine wd_x 1 rfl (v_nilCheck rfl) ?_
        refine wd_x 2 rfl (v_fieldAddr tyF_74_0 rfl) ?_
        refine wd_x 3 rfl (v_load tyS_27 rfl rfl) ?_
        refine wd_x 4 rfl (v_move rfl) ?_
        refine wd_x 5 rfl (v_nilCheck rfl) ?_
        refine wd_x 6 rfl (v_fieldAddr tyF_74_2 rfl) ?_
        refine wd_x 7 rfl (v_load tyS_3 rfl rfl) ?_
        refine wd_x 8 rfl (v_fieldAddr tyF_82_0 rfl) ?_
        refine wd_x 9 rfl (v_load tyS_3 rfl rfl) ?_
        refine wd_x 10 rfl (v_addI rfl rfl) ?_
        refine wd_x 11 rfl (v_fieldAddr tyF_82_0 rfl) ?_
        refine wd_x 12 rfl (v_load tyS_3 rfl rfl) ?_
        refine wd_alt [13, 17] (by kernel_rfl) ⟨13, by simp, by kernel_rfl⟩ ?_
        intro i hi
        simp only [List.mem_cons, List.not_mem_nil, or_false] at hi
        rcases hi with rfl | rfl
        · refine alt_l rfl (w_call (s_leaf_Get (st := st) (k := S.first + r.page) (kind := 2) (place := r.page) hd.s1 hd.s2) rfl (by repeat constructor) ?_)
          rintro sv3 ⟨g1, g2⟩
          refine ⟨fun _ _ _ => trivial, ?_⟩
          obtain ⟨Y, sY, hV, hY⟩ := readV_any (st.get (S.first + r.page) 2 r.page).1 sv3
          rw [hV]
          refine wd_x 14 rfl (v_move rfl) ?_
          refine wd_x 15 rfl (v_extract rfl rfl) ?_
          refine wd_p 16 rfl (v_extract rfl rfl) ?_
          refine wd_l 17 rfl (w_allocA tyZ_122 fun b3 => ?_)
          refine ⟨fun _ _ _ => trivial, ?_⟩
          refine wd_l0 18 rfl (w_storeN tyN_122 rfl rfl rfl rfl (by repeat constructor) (by repeat constructor) ?_)
          refine ⟨fun _ _ _ => trivial, ?_⟩
          refine wd_a 19 rfl (v_assign rfl) ?_
          refine wd_done ?_
          refine wk_seq ?_
          refine wk_seq ?_
          refine wk_region ?_
          refine wo_v (v_move rfl) ?_
          refine wo_v (v_neq rfl rfl) ?_
          refine wo_nil ?_
          refine wk_if rfl (fun he => ?_) (fun he => ?_)
          · refine wk_seq ?_
            refine wk_region ?_
            refine wo_v (v_move rfl) ?_
            refine wo_v (v_assign rfl) ?_
            refine wo_v (v_assign rfl) ?_
            refine wo_nil ?_
            refine wk_ret Tryz.func30 rfl rfl (res_tmp rfl (res_tmp rfl res_nil)) fun W h => ?_
            have he' : (st.get (S.first + r.page) 2 r.page).2 ≠ 0 := by omega
            exact ⟨⟨nilSV, [], _, S, st⟩, rfl, ⟨rfl, .bad hin' hmn he'⟩, Ent.sat (ent_roNil rfl (by refine ent_nf X hw ?_; refine ent_take (p := DevH d st) ?_;  exact ent_tail)) h⟩
          · have he' : (st.get (S.first + r.page) 2 r.page).2 = 0 := by omega
            obtain ⟨hgx, rfl⟩ : (st.get (S.first + r.page) 2 r.page).1 = some Y ∧ sY = sv3 := by
              rcases hY with h | ⟨h, _⟩
              · exact h
              · exact absurd he' (get_none h)
            have hget : st.get (S.first + r.page) 2 r.page = (some Y, 0) := Prod.ext hgx he'
            obtain ⟨y1, y2⟩ := get_some hget
            rw [hgx] at g1 g2 ⊢
            dsimp only [readB] at g1 g2 ⊢
            refine wk_ent (M := StH s d p S :: _) (ent_nf X hw (Ent.refl _)) ?_
            refine wk_skip ?_
            refine wk_seq ?_
            refine wk_region ?_
            refine wo_v (v_fieldAddr tyF_122_2 rfl) ?_
            refine wo_v (v_load tyS_3 rfl rfl) ?_
            refine wo_v (v_fieldAddr tyF_122_3 rfl) ?_
            refine wo_v (v_load tyS_45 rfl rfl) ?_
            refine wo_v (v_buildN tyBu_67 rfl (by repeat constructor)) ?_
            refine wo_w0 (w_storeN tyN_67 rfl rfl rfl rfl (by repeat constructor) (by repeat constructor) ?_)
            refine wo_nil ?_
            refine wk_seq ?_
            refine wk_region ?_
            refine wo_v (v_move rfl) ?_
            refine wo_v (v_fieldAddr tyF_82_0 rfl) ?_
            refine wo_v (v_load tyS_3 rfl rfl) ?_
            refine wo_v (v_loadN tyA_67 rfl (by repeat constructor) (by repeat constructor)) ?_
            refine wo_w (w_call (s_store_Store_keep (S := S) (st := st) (n := r.page) (q := ⟨Y.stamp, Y.load, false⟩) (sv := sY) hd ⟨g2, y1, y2⟩ hpg.1 hpg.2) rfl (by repeat constructor) ?_)
            rintro ⟨e, S', st'⟩ hk
            dsimp only at hk ⊢
            refine wo_v (v_assign rfl) ?_
            refine wo_nil ?_
            refine wk_seq ?_
            refine wk_region ?_
            refine wo_v (v_move rfl) ?_
            refine wo_v (v_neq rfl rfl) ?_
            refine wo_nil ?_
            refine wk_if rfl (fun hk0 => ?_) (fun hk0 => ?_)
            · refine wk_seq ?_
              refine wk_region ?_
              refine wo_v (v_move rfl) ?_
              refine wo_v (v_assign rfl) ?_
              refine wo_v (v_assign rfl) ?_
              refine wo_nil ?_
              refine wk_ret Tryz.func30 rfl rfl (res_tmp rfl (res_tmp rfl res_nil)) fun W h => ?_
              have hk1 : e ≠ 0 := by omega
              exact ⟨⟨nilSV, [], e, S', st'⟩, rfl, ⟨rfl, .out hin' hmn hget hk hk1⟩, Ent.sat (ent_roNil rfl (by refine ent_take (p := StH s d p S') ?_; refine ent_take (p := DevH d st') ?_;  exact ent_tail)) h⟩
            · have hk0' : e = 0 := by omega
              subst hk0'
              refine wk_skip ?_
              refine wk_seq ?_
              refine wk_seq ?_
              refine wk_region ?_
              refine wo_v (v_fieldAddr tyF_67_0 rfl) ?_
              refine wo_v (v_load tyS_3 rfl rfl) ?_
              refine wo_v (v_fieldAddr tyF_82_1 rfl) ?_
              refine wo_v (v_load tyS_3 rfl rfl) ?_
              refine wo_v (v_neq rfl rfl) ?_
              refine wo_nil ?_
              refine wk_if rfl (fun hst => ?_) (fun hst => ?_)
              · refine wk_seq ?_
                refine wk_region ?_
                refine wo_v (v_assign rfl) ?_
                refine wo_v (v_assign rfl) ?_
                refine wo_nil ?_
                refine wk_ret Tryz.func30 rfl rfl (res_tmp rfl (res_tmp rfl res_nil)) fun W h => ?_
                have hr := ReadR.dev hin' hmn hget hk
                rw [if_neg hst, if_neg hst] at hr
                exact ⟨⟨nilSV, [], 5, S', st'⟩, rfl, ⟨rfl, hr⟩, Ent.sat (ent_roNil rfl (by refine ent_take (p := StH s d p S') ?_; refine ent_take (p := DevH d st') ?_; exact ent_tail)) h⟩
              · refine wk_skip ?_
                refine wk_seq ?_
                refine wk_region ?_
                refine wo_v (v_fieldAddr tyF_67_1 rfl) ?_
                refine wo_v (v_load tyS_45 rfl rfl) ?_
                refine wo_w (w_call (s_bytes_Clone (bs := Y.load) (by omega)) rfl (by repeat constructor) ?_)
                rintro y hyn
                refine wo_v (v_assign rfl) ?_
                refine wo_v (v_assign rfl) ?_
                refine wo_nil ?_
                refine wk_ret Tryz.func30 rfl rfl (res_tmp rfl (res_tmp rfl res_nil)) fun W h => ?_
                have hr := ReadR.dev hin' hmn hget hk
                rw [if_pos hst, if_pos hst] at hr
                exact ⟨⟨y, Y.load, 0, S', st'⟩, rfl, ⟨hyn, hr⟩, Ent.sat (by refine ent_take (p := pe (bsl y Y.load)) ?_; refine ent_take (p := StH s d p S') ?_; refine ent_take (p := DevH d st') ?_; exact ent_tail) h⟩
        · refine alt_l rfl (w_allocA tyZ_122 fun b4 => ?_)
          refine ⟨fun _ _ _ => trivial, ?_⟩
          refine wd_l 13 rfl (w_call (s_leaf_Get (st := st) (k := S.first + r.page) (kind := 2) (place := r.page) hd.s1 hd.s2) rfl (by repeat constructor) ?_)
          rintro sv3 ⟨g1, g2⟩
          refine ⟨fun _ _ _ => trivial, ?_⟩
          obtain ⟨Y, sY, hV, hY⟩ := readV_any (st.get (S.first + r.page) 2 r.page).1 sv3
          rw [hV]
          refine wd_a 14 rfl (v_move rfl) ?_
          refine wd_a 15 rfl (v_extract rfl rfl) ?_
          refine wd_p 16 rfl (v_extract rfl rfl) ?_
          refine wd_l0 18 rfl (w_storeN tyN_122 rfl rfl rfl rfl (by repeat constructor) (by repeat constructor) ?_)
          refine ⟨fun _ _ _ => trivial, ?_⟩
          refine wd_a 19 rfl (v_assign rfl) ?_
          refine wd_done ?_
          refine wk_seq ?_
          refine wk_seq ?_
          refine wk_region ?_
          refine wo_v (v_move rfl) ?_
          refine wo_v (v_neq rfl rfl) ?_
          refine wo_nil ?_
          refine wk_if rfl (fun he => ?_) (fun he => ?_)
          · refine wk_seq ?_
            refine wk_region ?_
            refine wo_v (v_move rfl) ?_
            refine wo_v (v_assign rfl) ?_
            refine wo_v (v_assign rfl) ?_
            refine wo_nil ?_
            refine wk_ret Tryz.func30 rfl rfl (res_tmp rfl (res_tmp rfl res_nil)) fun W h => ?_
            have he' : (st.get (S.first + r.page) 2 r.page).2 ≠ 0 := by omega
            exact ⟨⟨nilSV, [], _, S, st⟩, rfl, ⟨rfl, .bad hin' hmn he'⟩, Ent.sat (ent_roNil rfl (by refine ent_nf X hw ?_; refine ent_take (p := DevH d st) ?_;  exact ent_tail)) h⟩
          · have he' : (st.get (S.first + r.page) 2 r.page).2 = 0 := by omega
            obtain ⟨hgx, rfl⟩ : (st.get (S.first + r.page) 2 r.page).1 = some Y ∧ sY = sv3 := by
              rcases hY with h | ⟨h, _⟩
              · exact h
              · exact absurd he' (get_none h)
            have hget : st.get (S.first + r.page) 2 r.page = (some Y, 0) := Prod.ext hgx he'
            obtain ⟨y1, y2⟩ := get_some hget
            rw [hgx] at g1 g2 ⊢
            dsimp only [readB] at g1 g2 ⊢
            refine wk_ent (M := StH s d p S :: _) (ent_nf X hw (Ent.refl _)) ?_
            refine wk_skip ?_
            refine wk_seq ?_
            refine wk_region ?_
            refine wo_v (v_fieldAddr tyF_122_2 rfl) ?_
            refine wo_v (v_load tyS_3 rfl rfl) ?_
            refine wo_v (v_fieldAddr tyF_122_3 rfl) ?_
            refine wo_v (v_load tyS_45 rfl rfl) ?_
            refine wo_v (v_buildN tyBu_67 rfl (by repeat constructor)) ?_
            refine wo_w0 (w_storeN tyN_67 rfl rfl rfl rfl (by repeat constructor) (by repeat constructor) ?_)
            refine wo_nil ?_
            refine wk_seq ?_
            refine wk_region ?_
            refine wo_v (v_move rfl) ?_
            refine wo_v (v_fieldAddr tyF_82_0 rfl) ?_
            refine wo_v (v_load tyS_3 rfl rfl) ?_
            refine wo_v (v_loadN tyA_67 rfl (by repeat constructor) (by repeat constructor)) ?_
            refine wo_w (w_call (s_store_Store_keep (S := S) (st := st) (n := r.page) (q := ⟨Y.stamp, Y.load, false⟩) (sv := sY) hd ⟨g2, y1, y2⟩ hpg.1 hpg.2) rfl (by repeat constructor) ?_)
            rintro ⟨e, S', st'⟩ hk
            dsimp only at hk ⊢
            refine wo_v (v_assign rfl) ?_
            refine wo_nil ?_
            refine wk_seq ?_
            refine wk_region ?_
            refine wo_v (v_move rfl) ?_
            refine wo_v (v_neq rfl rfl) ?_
            refine wo_nil ?_
            refine wk_if rfl (fun hk0 => ?_) (fun hk0 => ?_)
            · refine wk_seq ?_
              refine wk_region ?_
              refine wo_v (v_move rfl) ?_
              refine wo_v (v_assign rfl) ?_
              refine wo_v (v_assign rfl) ?_
              refine wo_nil ?_
              refine wk_ret Tryz.func30 rfl rfl (res_tmp rfl (res_tmp rfl res_nil)) fun W h => ?_
              have hk1 : e ≠ 0 := by omega
              exact ⟨⟨nilSV, [], e, S', st'⟩, rfl, ⟨rfl, .out hin' hmn hget hk hk1⟩, Ent.sat (ent_roNil rfl (by refine ent_take (p := StH s d p S') ?_; refine ent_take (p := DevH d st') ?_;  exact ent_tail)) h⟩
            · have hk0' : e = 0 := by omega
              subst hk0'
              refine wk_skip ?_
              refine wk_seq ?_
              refine wk_seq ?_
              refine wk_region ?_
              refine wo_v (v_fieldAddr tyF_67_0 rfl) ?_
              refine wo_v (v_load tyS_3 rfl rfl) ?_
              refine wo_v (v_fieldAddr tyF_82_1 rfl) ?_
              refine wo_v (v_load tyS_3 rfl rfl) ?_
              refine wo_v (v_neq rfl rfl) ?_
              refine wo_nil ?_
              refine wk_if rfl (fun hst => ?_) (fun hst => ?_)
              · refine wk_seq ?_
                refine wk_region ?_
                refine wo_v (v_assign rfl) ?_
                refine wo_v (v_assign rfl) ?_
                refine wo_nil ?_
                refine wk_ret Tryz.func30 rfl rfl (res_tmp rfl (res_tmp rfl res_nil)) fun W h => ?_
                have hr := ReadR.dev hin' hmn hget hk
                rw [if_neg hst, if_neg hst] at hr
                exact ⟨⟨nilSV, [], 5, S', st'⟩, rfl, ⟨rfl, hr⟩, Ent.sat (ent_roNil rfl (by refine ent_take (p := StH s d p S') ?_; refine ent_take (p := DevH d st') ?_; exact ent_tail)) h⟩
              · refine wk_skip ?_
                refine wk_seq ?_
                refine wk_region ?_
                refine wo_v (v_fieldAddr tyF_67_1 rfl) ?_
                refine wo_v (v_load tyS_45 rfl rfl) ?_
                refine wo_w (w_call (s_bytes_Clone (bs := Y.load) (by omega)) rfl (by repeat constructor) ?_)
                rintro y hyn
                refine wo_v (v_assign rfl) ?_
                refine wo_v (v_assign rfl) ?_
                refine wo_nil ?_
                refine wk_ret Tryz.func30 rfl rfl (res_tmp rfl (res_tmp rfl res_nil)) fun W h => ?_
                have hr := ReadR.dev hin' hmn hget hk
                rw [if_pos hst, if_pos hst] at hr
                exact ⟨⟨y, Y.load, 0, S', st'⟩, rfl, ⟨hyn, hr⟩, Ent.sat (by refine ent_take (p := pe (bsl y Y.load)) ?_; refine ent_take (p := StH s d p S') ?_; refine ent_take (p := DevH d st') ?_; exact ent_tail) h⟩
      · obtain ⟨q, hq⟩ := Option.isSome_iff_exists.1 (show (S.mem r.page).isSome = true by simpa using hm)
        have hpq : pageO (S.mem r.page) = q := by rw [hq]; rfl
        have hql := (hw.mem r.page q hq).2.2.1
        rw [hpq]
        refine wk_skip ?_
        refine wk_seq ?_
        refine wk_seq ?_
        refine wk_region ?_
        refine wo_v (v_fieldAddr tyF_67_0 rfl) ?_
        refine wo_v (v_load tyS_3 rfl rfl) ?_
        refine wo_v (v_fieldAddr tyF_82_1 rfl) ?_
        refine wo_v (v_load tyS_3 rfl rfl) ?_
        refine wo_v (v_neq rfl rfl) ?_
        refine wo_nil ?_
        refine wk_if rfl (fun hst => ?_) (fun hst => ?_)
        · refine wk_seq ?_
          refine wk_region ?_
          refine wo_v (v_assign rfl) ?_
          refine wo_v (v_assign rfl) ?_
          refine wo_nil ?_
          refine wk_ret Tryz.func30 rfl rfl (res_tmp rfl (res_tmp rfl res_nil)) fun W h => ?_
          have hr := ReadR.mem (st := st) (r := r) hin' hq
          rw [if_neg hst, if_neg hst] at hr
          exact ⟨⟨nilSV, [], 5, S, st⟩, rfl, ⟨rfl, hr⟩, Ent.sat (ent_roNil rfl (by refine ent_nf X hw ?_; refine ent_take (p := DevH d st) ?_; exact ent_tail)) h⟩
        · refine wk_skip ?_
          refine wk_seq ?_
          refine wk_region ?_
          refine wo_v (v_fieldAddr tyF_67_1 rfl) ?_
          refine wo_v (v_load tyS_45 rfl rfl) ?_
          refine wo_w (w_call (s_bytes_Clone (bs := q.load) (by omega)) rfl (by repeat constructor) ?_)
          rintro y hyn
          refine wo_v (v_assign rfl) ?_
          refine wo_v (v_assign rfl) ?_
          refine wo_nil ?_
          refine wk_ret Tryz.func30 rfl rfl (res_tmp rfl (res_tmp rfl res_nil)) fun W h => ?_
          have hr := ReadR.mem (st := st) (r := r) hin' hq
          rw [if_pos hst, if_pos hst] at hr
          exact ⟨⟨y, q.load, 0, S, st⟩, rfl, ⟨hyn, hr⟩, Ent.sat (by refine ent_take (p := pe (bsl y q.load)) ?_; refine ent_nf X hw ?_; refine ent_take (p := DevH d st) ?_; exact ent_tail) h⟩
    · refine alt_l rfl (w_allocA tyZ_67 fun b5 => ?_)
      refine ⟨fun _ _ _ => trivial, ?_⟩
      refine wd_l 6 rfl (w_call (s_clock_Clock_Get (mem := S.mem) (k := r.page)) rfl (by repeat constructor) ?_)
      rintro sv -
      refine ⟨fun _ _ _ => trivial, ?_⟩
      refine wd_a 7 rfl (v_move rfl) ?_
      refine wd_a 8 rfl (v_extract rfl rfl) ?_
      refine wd_p 9 rfl (v_extract rfl rfl) ?_
      refine wd_l0 11 rfl (w_storeN tyN_67 rfl rfl rfl rfl (by repeat constructor) (by repeat constructor) ?_)
      refine ⟨fun _ _ _ => trivial, ?_⟩
      refine wd_a 12 rfl (v_assign rfl) ?_
      refine wd_done ?_
      refine wk_seq ?_
      refine wk_seq ?_
      refine wk_region ?_
      refine wo_v (v_move rfl) ?_
      refine wo_v (v_not rfl) ?_
      refine wo_nil ?_
      refine wk_if rfl (fun hm => ?_) (fun hm => ?_)
      · have hmn : S.mem r.page = none := by simpa using hm
        refine wk_seq ?_
        refine wk_draw (n := 20) (pend := 1048575) ⟨20, fun _ => True⟩ mixed (by kernel_rfl) rfl (fun _ _ => trivial) rfl ?_
        refine wd_x 0 rfl (v_move rfl) ?_
        refine wd_x 1 rfl (v_nilCheck rfl) ?_
        refine wd_x 2 rfl (v_fieldAddr tyF_74_0 rfl) ?_
        refine wd_x 3 rfl (v_load tyS_27 rfl rfl) ?_
        refine wd_x 4 rfl (v_move rfl) ?_
        refine wd_x 5 rfl (v_nilCheck rfl) ?_
        refine wd_x 6 rfl (v_fieldAddr tyF_74_2 rfl) ?_
        refine wd_x 7 rfl (v_load tyS_3 rfl rfl) ?_
        refine wd_x 8 rfl (v_fieldAddr tyF_82_0 rfl) ?_
        refine wd_x 9 rfl (v_load tyS_3 rfl rfl) ?_
        refine wd_x 10 rfl (v_addI rfl rfl) ?_
        refine wd_x 11 rfl (v_fieldAddr tyF_82_0 rfl) ?_
        refine wd_x 12 rfl (v_load tyS_3 rfl rfl) ?_
        refine wd_alt [13, 17] (by kernel_rfl) ⟨13, by simp, by kernel_rfl⟩ ?_
        intro i hi
        simp only [List.mem_cons, List.not_mem_nil, or_false] at hi
        rcases hi with rfl | rfl
        · refine alt_l rfl (w_call (s_leaf_Get (st := st) (k := S.first + r.page) (kind := 2) (place := r.page) hd.s1 hd.s2) rfl (by repeat constructor) ?_)
          rintro sv3 ⟨g1, g2⟩
          refine ⟨fun _ _ _ => trivial, ?_⟩
          obtain ⟨Y, sY, hV, hY⟩ := readV_any (st.get (S.first + r.page) 2 r.page).1 sv3
          rw [hV]
          refine wd_x 14 rfl (v_move rfl) ?_
          refine wd_x 15 rfl (v_extract rfl rfl) ?_
          refine wd_p 16 rfl (v_extract rfl rfl) ?_
          refine wd_l 17 rfl (w_allocA tyZ_122 fun b6 => ?_)
          refine ⟨fun _ _ _ => trivial, ?_⟩
          refine wd_l0 18 rfl (w_storeN tyN_122 rfl rfl rfl rfl (by repeat constructor) (by repeat constructor) ?_)
          refine ⟨fun _ _ _ => trivial, ?_⟩
          refine wd_a 19 rfl (v_assign rfl) ?_
          refine wd_done ?_
          refine wk_seq ?_
          refine wk_seq ?_
          refine wk_region ?_
          refine wo_v (v_move rfl) ?_
          refine wo_v (v_neq rfl rfl) ?_
          refine wo_nil ?_
          refine wk_if rfl (fun he => ?_) (fun he => ?_)
          · refine wk_seq ?_
            refine wk_region ?_
            refine wo_v (v_move rfl) ?_
            refine wo_v (v_assign rfl) ?_
            refine wo_v (v_assign rfl) ?_
            refine wo_nil ?_
            refine wk_ret Tryz.func30 rfl rfl (res_tmp rfl (res_tmp rfl res_nil)) fun W h => ?_
            have he' : (st.get (S.first + r.page) 2 r.page).2 ≠ 0 := by omega
            exact ⟨⟨nilSV, [], _, S, st⟩, rfl, ⟨rfl, .bad hin' hmn he'⟩, Ent.sat (ent_roNil rfl (by refine ent_nf X hw ?_; refine ent_take (p := DevH d st) ?_;  exact ent_tail)) h⟩
          · have he' : (st.get (S.first + r.page) 2 r.page).2 = 0 := by omega
            obtain ⟨hgx, rfl⟩ : (st.get (S.first + r.page) 2 r.page).1 = some Y ∧ sY = sv3 := by
              rcases hY with h | ⟨h, _⟩
              · exact h
              · exact absurd he' (get_none h)
            have hget : st.get (S.first + r.page) 2 r.page = (some Y, 0) := Prod.ext hgx he'
            obtain ⟨y1, y2⟩ := get_some hget
            rw [hgx] at g1 g2 ⊢
            dsimp only [readB] at g1 g2 ⊢
            refine wk_ent (M := StH s d p S :: _) (ent_nf X hw (Ent.refl _)) ?_
            refine wk_skip ?_
            refine wk_seq ?_
            refine wk_region ?_
            refine wo_v (v_fieldAddr tyF_122_2 rfl) ?_
            refine wo_v (v_load tyS_3 rfl rfl) ?_
            refine wo_v (v_fieldAddr tyF_122_3 rfl) ?_
            refine wo_v (v_load tyS_45 rfl rfl) ?_
            refine wo_v (v_buildN tyBu_67 rfl (by repeat constructor)) ?_
            refine wo_w0 (w_storeN tyN_67 rfl rfl rfl rfl (by repeat constructor) (by repeat constructor) ?_)
            refine wo_nil ?_
            refine wk_seq ?_
            refine wk_region ?_
            refine wo_v (v_move rfl) ?_
            refine wo_v (v_fieldAddr tyF_82_0 rfl) ?_
            refine wo_v (v_load tyS_3 rfl rfl) ?_
            refine wo_v (v_loadN tyA_67 rfl (by repeat constructor) (by repeat constructor)) ?_
            refine wo_w (w_call (s_store_Store_keep (S := S) (st := st) (n := r.page) (q := ⟨Y.stamp, Y.load, false⟩) (sv := sY) hd ⟨g2, y1, y2⟩ hpg.1 hpg.2) rfl (by repeat constructor) ?_)
            rintro ⟨e, S', st'⟩ hk
            dsimp only at hk ⊢
            refine wo_v (v_assign rfl) ?_
            refine wo_nil ?_
            refine wk_seq ?_
            refine wk_region ?_
            refine wo_v (v_move rfl) ?_
            refine wo_v (v_neq rfl rfl) ?_
            refine wo_nil ?_
            refine wk_if rfl (fun hk0 => ?_) (fun hk0 => ?_)
            · refine wk_seq ?_
              refine wk_region ?_
              refine wo_v (v_move rfl) ?_
              refine wo_v (v_assign rfl) ?_
              refine wo_v (v_assign rfl) ?_
              refine wo_nil ?_
              refine wk_ret Tryz.func30 rfl rfl (res_tmp rfl (res_tmp rfl res_nil)) fun W h => ?_
              have hk1 : e ≠ 0 := by omega
              exact ⟨⟨nilSV, [], e, S', st'⟩, rfl, ⟨rfl, .out hin' hmn hget hk hk1⟩, Ent.sat (ent_roNil rfl (by refine ent_take (p := StH s d p S') ?_; refine ent_take (p := DevH d st') ?_;  exact ent_tail)) h⟩
            · have hk0' : e = 0 := by omega
              subst hk0'
              refine wk_skip ?_
              refine wk_seq ?_
              refine wk_seq ?_
              refine wk_region ?_
              refine wo_v (v_fieldAddr tyF_67_0 rfl) ?_
              refine wo_v (v_load tyS_3 rfl rfl) ?_
              refine wo_v (v_fieldAddr tyF_82_1 rfl) ?_
              refine wo_v (v_load tyS_3 rfl rfl) ?_
              refine wo_v (v_neq rfl rfl) ?_
              refine wo_nil ?_
              refine wk_if rfl (fun hst => ?_) (fun hst => ?_)
              · refine wk_seq ?_
                refine wk_region ?_
                refine wo_v (v_assign rfl) ?_
                refine wo_v (v_assign rfl) ?_
                refine wo_nil ?_
                refine wk_ret Tryz.func30 rfl rfl (res_tmp rfl (res_tmp rfl res_nil)) fun W h => ?_
                have hr := ReadR.dev hin' hmn hget hk
                rw [if_neg hst, if_neg hst] at hr
                exact ⟨⟨nilSV, [], 5, S', st'⟩, rfl, ⟨rfl, hr⟩, Ent.sat (ent_roNil rfl (by refine ent_take (p := StH s d p S') ?_; refine ent_take (p := DevH d st') ?_; exact ent_tail)) h⟩
              · refine wk_skip ?_
                refine wk_seq ?_
                refine wk_region ?_
                refine wo_v (v_fieldAddr tyF_67_1 rfl) ?_
                refine wo_v (v_load tyS_45 rfl rfl) ?_
                refine wo_w (w_call (s_bytes_Clone (bs := Y.load) (by omega)) rfl (by repeat constructor) ?_)
                rintro y hyn
                refine wo_v (v_assign rfl) ?_
                refine wo_v (v_assign rfl) ?_
                refine wo_nil ?_
                refine wk_ret Tryz.func30 rfl rfl (res_tmp rfl (res_tmp rfl res_nil)) fun W h => ?_
                have hr := ReadR.dev hin' hmn hget hk
                rw [if_pos hst, if_pos hst] at hr
                exact ⟨⟨y, Y.load, 0, S', st'⟩, rfl, ⟨hyn, hr⟩, Ent.sat (by refine ent_take (p := pe (bsl y Y.load)) ?_; refine ent_take (p := StH s d p S') ?_; refine ent_take (p := DevH d st') ?_; exact ent_tail) h⟩
        · refine alt_l rfl (w_allocA tyZ_122 fun b7 => ?_)
          refine ⟨fun _ _ _ => trivial, ?_⟩
          refine wd_l 13 rfl (w_call (s_leaf_Get (st := st) (k := S.first + r.page) (kind := 2) (place := r.page) hd.s1 hd.s2) rfl (by repeat constructor) ?_)
          rintro sv3 ⟨g1, g2⟩
          refine ⟨fun _ _ _ => trivial, ?_⟩
          obtain ⟨Y, sY, hV, hY⟩ := readV_any (st.get (S.first + r.page) 2 r.page).1 sv3
          rw [hV]
          refine wd_a 14 rfl (v_move rfl) ?_
          refine wd_a 15 rfl (v_extract rfl rfl) ?_
          refine wd_p 16 rfl (v_extract rfl rfl) ?_
          refine wd_l0 18 rfl (w_storeN tyN_122 rfl rfl rfl rfl (by repeat constructor) (by repeat constructor) ?_)
          refine ⟨fun _ _ _ => trivial, ?_⟩
          refine wd_a 19 rfl (v_assign rfl) ?_
          refine wd_done ?_
          refine wk_seq ?_
          refine wk_seq ?_
          refine wk_region ?_
          refine wo_v (v_move rfl) ?_
          refine wo_v (v_neq rfl rfl) ?_
          refine wo_nil ?_
          refine wk_if rfl (fun he => ?_) (fun he => ?_)
          · refine wk_seq ?_
            refine wk_region ?_
            refine wo_v (v_move rfl) ?_
            refine wo_v (v_assign rfl) ?_
            refine wo_v (v_assign rfl) ?_
            refine wo_nil ?_
            refine wk_ret Tryz.func30 rfl rfl (res_tmp rfl (res_tmp rfl res_nil)) fun W h => ?_
            have he' : (st.get (S.first + r.page) 2 r.page).2 ≠ 0 := by omega
            exact ⟨⟨nilSV, [], _, S, st⟩, rfl, ⟨rfl, .bad hin' hmn he'⟩, Ent.sat (ent_roNil rfl (by refine ent_nf X hw ?_; refine ent_take (p := DevH d st) ?_;  exact ent_tail)) h⟩
          · have he' : (st.get (S.first + r.page) 2 r.page).2 = 0 := by omega
            obtain ⟨hgx, rfl⟩ : (st.get (S.first + r.page) 2 r.page).1 = some Y ∧ sY = sv3 := by
              rcases hY with h | ⟨h, _⟩
              · exact h
              · exact absurd he' (get_none h)
            have hget : st.get (S.first + r.page) 2 r.page = (some Y, 0) := Prod.ext hgx he'
            obtain ⟨y1, y2⟩ := get_some hget
            rw [hgx] at g1 g2 ⊢
            dsimp only [readB] at g1 g2 ⊢
            refine wk_ent (M := StH s d p S :: _) (ent_nf X hw (Ent.refl _)) ?_
            refine wk_skip ?_
            refine wk_seq ?_
            refine wk_region ?_
            refine wo_v (v_fieldAddr tyF_122_2 rfl) ?_
            refine wo_v (v_load tyS_3 rfl rfl) ?_
            refine wo_v (v_fieldAddr tyF_122_3 rfl) ?_
            refine wo_v (v_load tyS_45 rfl rfl) ?_
            refine wo_v (v_buildN tyBu_67 rfl (by repeat constructor)) ?_
            refine wo_w0 (w_storeN tyN_67 rfl rfl rfl rfl (by repeat constructor) (by repeat constructor) ?_)
            refine wo_nil ?_
            refine wk_seq ?_
            refine wk_region ?_
            refine wo_v (v_move rfl) ?_
            refine wo_v (v_fieldAddr tyF_82_0 rfl) ?_
            refine wo_v (v_load tyS_3 rfl rfl) ?_
            refine wo_v (v_loadN tyA_67 rfl (by repeat constructor) (by repeat constructor)) ?_
            refine wo_w (w_call (s_store_Store_keep (S := S) (st := st) (n := r.page) (q := ⟨Y.stamp, Y.load, false⟩) (sv := sY) hd ⟨g2, y1, y2⟩ hpg.1 hpg.2) rfl (by repeat constructor) ?_)
            rintro ⟨e, S', st'⟩ hk
            dsimp only at hk ⊢
            refine wo_v (v_assign rfl) ?_
            refine wo_nil ?_
            refine wk_seq ?_
            refine wk_region ?_
            refine wo_v (v_move rfl) ?_
            refine wo_v (v_neq rfl rfl) ?_
            refine wo_nil ?_
            refine wk_if rfl (fun hk0 => ?_) (fun hk0 => ?_)
            · refine wk_seq ?_
              refine wk_region ?_
              refine wo_v (v_move rfl) ?_
              refine wo_v (v_assign rfl) ?_
              refine wo_v (v_assign rfl) ?_
              refine wo_nil ?_
              refine wk_ret Tryz.func30 rfl rfl (res_tmp rfl (res_tmp rfl res_nil)) fun W h => ?_
              have hk1 : e ≠ 0 := by omega
              exact ⟨⟨nilSV, [], e, S', st'⟩, rfl, ⟨rfl, .out hin' hmn hget hk hk1⟩, Ent.sat (ent_roNil rfl (by refine ent_take (p := StH s d p S') ?_; refine ent_take (p := DevH d st') ?_;  exact ent_tail)) h⟩
            · have hk0' : e = 0 := by omega
              subst hk0'
              refine wk_skip ?_
              refine wk_seq ?_
              refine wk_seq ?_
              refine wk_region ?_
              refine wo_v (v_fieldAddr tyF_67_0 rfl) ?_
              refine wo_v (v_load tyS_3 rfl rfl) ?_
              refine wo_v (v_fieldAddr tyF_82_1 rfl) ?_
              refine wo_v (v_load tyS_3 rfl rfl) ?_
              refine wo_v (v_neq rfl rfl) ?_
              refine wo_nil ?_
              refine wk_if rfl (fun hst => ?_) (fun hst => ?_)
              · refine wk_seq ?_
                refine wk_region ?_
                refine wo_v (v_assign rfl) ?_
                refine wo_v (v_assign rfl) ?_
                refine wo_nil ?_
                refine wk_ret Tryz.func30 rfl rfl (res_tmp rfl (res_tmp rfl res_nil)) fun W h => ?_
                have hr := ReadR.dev hin' hmn hget hk
                rw [if_neg hst, if_neg hst] at hr
                exact ⟨⟨nilSV, [], 5, S', st'⟩, rfl, ⟨rfl, hr⟩, Ent.sat (ent_roNil rfl (by refine ent_take (p := StH s d p S') ?_; refine ent_take (p := DevH d st') ?_; exact ent_tail)) h⟩
              · refine wk_skip ?_
                refine wk_seq ?_
                refine wk_region ?_
                refine wo_v (v_fieldAddr tyF_67_1 rfl) ?_
                refine wo_v (v_load tyS_45 rfl rfl) ?_
                refine wo_w (w_call (s_bytes_Clone (bs := Y.load) (by omega)) rfl (by repeat constructor) ?_)
                rintro y hyn
                refine wo_v (v_assign rfl) ?_
                refine wo_v (v_assign rfl) ?_
                refine wo_nil ?_
                refine wk_ret Tryz.func30 rfl rfl (res_tmp rfl (res_tmp rfl res_nil)) fun W h => ?_
                have hr := ReadR.dev hin' hmn hget hk
                rw [if_pos hst, if_pos hst] at hr
                exact ⟨⟨y, Y.load, 0, S', st'⟩, rfl, ⟨hyn, hr⟩, Ent.sat (by refine ent_take (p := pe (bsl y Y.load)) ?_; refine ent_take (p := StH s d p S') ?_; refine ent_take (p := DevH d st') ?_; exact ent_tail) h⟩
      · obtain ⟨q, hq⟩ := Option.isSome_iff_exists.1 (show (S.mem r.page).isSome = true by simpa using hm)
        have hpq : pageO (S.mem r.page) = q := by rw [hq]; rfl
        have hql := (hw.mem r.page q hq).2.2.1
        rw [hpq]
        refine wk_skip ?_
        refine wk_seq ?_
        refine wk_seq ?_
        refine wk_region ?_
        refine wo_v (v_fieldAddr tyF_67_0 rfl) ?_
        refine wo_v (v_load tyS_3 rfl rfl) ?_
        refine wo_v (v_fieldAddr tyF_82_1 rfl) ?_
        refine wo_v (v_load tyS_3 rfl rfl) ?_
        refine wo_v (v_neq rfl rfl) ?_
        refine wo_nil ?_
        refine wk_if rfl (fun hst => ?_) (fun hst => ?_)
        · refine wk_seq ?_
          refine wk_region ?_
          refine wo_v (v_assign rfl) ?_
          refine wo_v (v_assign rfl) ?_
          refine wo_nil ?_
          refine wk_ret Tryz.func30 rfl rfl (res_tmp rfl (res_tmp rfl res_nil)) fun W h => ?_
          have hr := ReadR.mem (st := st) (r := r) hin' hq
          rw [if_neg hst, if_neg hst] at hr
          exact ⟨⟨nilSV, [], 5, S, st⟩, rfl, ⟨rfl, hr⟩, Ent.sat (ent_roNil rfl (by refine ent_nf X hw ?_; refine ent_take (p := DevH d st) ?_; exact ent_tail)) h⟩
        · refine wk_skip ?_
          refine wk_seq ?_
          refine wk_region ?_
          refine wo_v (v_fieldAddr tyF_67_1 rfl) ?_
          refine wo_v (v_load tyS_45 rfl rfl) ?_
          refine wo_w (w_call (s_bytes_Clone (bs := q.load) (by omega)) rfl (by repeat constructor) ?_)
          rintro y hyn
          refine wo_v (v_assign rfl) ?_
          refine wo_v (v_assign rfl) ?_
          refine wo_nil ?_
          refine wk_ret Tryz.func30 rfl rfl (res_tmp rfl (res_tmp rfl res_nil)) fun W h => ?_
          have hr := ReadR.mem (st := st) (r := r) hin' hq
          rw [if_pos hst, if_pos hst] at hr
          exact ⟨⟨y, q.load, 0, S, st⟩, rfl, ⟨hyn, hr⟩, Ent.sat (by refine ent_take (p := pe (bsl y q.load)) ?_; refine ent_nf X hw ?_; refine ent_take (p := DevH d st) ?_; exact ent_tail) h⟩

end Go.Proofs.YtealmijbkebipaaGreatDoor

namespace Go.Proofs.YtealmijbkebipaaGreatDoor
open Go
theorem StH_gen {s d : Nat} {p : PlanA} {S : StA} {G : Gl} {w : World} {L : List HP} (h : Sat G w (StH s d p S :: L)) : w.cell? ⟨s, 12, none⟩ = some (.int .i64 S.gen) := by
  have h2 : Sat G w (nf (fun X : StX => StOK p S X) (stL s d p S) :: L) := h
  obtain ⟨h0, r, H, h1, h2, hs, ⟨X, hw, k1⟩, k2⟩ := h2
  have s1 : Sat G w (stL s d p S X ++ L) := ⟨h0, r, H, starL_append.2 ⟨h1, h2, hs, k1, k2⟩⟩
  exact HasC.cell (b := s) (by unfold stL stB; repeat constructor) s1 12

attribute [local irreducible] own pe nf

theorem s_store_Store_Write {s d : Nat} {p : PlanA} {S : StA} {st : DevA} {r : RefA} {x : SV} {load : List UInt8} (hd : DevB st) (hl : load.length ≤ 1048576) : FnSpec Tryz.prog 26 #[.pointer (some ⟨s, 0, none⟩), refV r, x.v] [StH s d p S, DevH d st, pe (bsl x load)]
    (fun y : NewX => .tuple #[refV y.r, .int .i64 y.e]) (fun y => WriteR S st r load y.r y.e y.S y.st) (fun y R => StH s d p y.S :: DevH d y.st :: R) := by
  refine fn_spec Tryz.func26 rfl rfl rfl rfl fun G R => ?_
  refine wk_nf fun X hw => ?_
  dsimp only [List.append_eq, List.cons_append, List.nil_append, stL, stB]
  refine wk_ro (x := x) (cells := u8s load) (size := 1) (by repeat constructor) fun hx => ?_
  have hxn : x.n = load.length := by have := hx.1; simpa using this.symm
  have hroom := hw.room
  have hps := hw.plan.s2
  have hpr : p.room = p.size - 19 := rfl
  refine wk_seq ?_
  refine wk_region ?_
  refine wo_w (w_boxA rfl fun b1 => ?_)
  refine wo_w (w_allocA tyZ_82 fun b2 => ?_)
  refine wo_v (v_assign rfl) ?_
  refine wo_nil ?_
  refine wk_seq ?_
  refine wk_seq ?_
  refine wk_region ?_
  refine wo_v (v_move rfl) ?_
  refine wo_v (v_neSome tyU_29 rfl rfl) ?_
  refine wo_v (v_move rfl) ?_
  refine wo_gv (v_move rfl) ?_
  refine wo_gv (v_len tyU_45 rfl) ?_
  refine wo_gv (v_move rfl) ?_
  refine wo_gv (v_nilCheck rfl) ?_
  refine wo_gv (v_fieldAddr tyF_74_4 rfl) ?_
  refine wo_gv (v_load tyS_3 rfl rfl) ?_
  refine wo_gv (v_gtr rfl rfl) ?_
  refine wo_v (v_pickT rfl rfl) ?_
  refine wo_nil ?_
  refine wk_if rfl (fun h1 => ?_) (fun h1 => ?_)
  · refine wk_seq ?_
    refine wk_region ?_
    refine wo_v (v_buildN tyBu_82 rfl (by repeat constructor)) ?_
    refine wo_w0 (w_storeN tyN_82 rfl rfl rfl rfl (by repeat constructor) (by repeat constructor) ?_)
    refine wo_v (v_assign rfl) ?_
    refine wo_nil ?_
    refine wk_ret Tryz.func26 rfl rfl (res_cellA tyA_82 rfl (by repeat constructor) rfl (res_tmp rfl res_nil)) fun W h => ?_
    exact ⟨⟨noRef, 9, S, st⟩, rfl, .long (by omega), Ent.sat (by refine ent_nf X hw ?_; refine ent_take (p := DevH d st) ?_; exact ent_tail) h⟩
  · refine wk_ent (M := StH s d p S :: _) (ent_nf X hw (Ent.refl _)) ?_
    have hnl : ¬ S.room < load.length := by omega
    refine wk_skip ?_
    refine wk_seq ?_
    refine wk_seq ?_
    refine wk_region ?_
    refine wo_v (v_move rfl) ?_
    refine wo_v (v_loadN tyA_82 rfl (by repeat constructor) (by repeat constructor)) ?_
    refine wo_w (w_call (s_store_Store_in (S := S) (r := r)) rfl (by repeat constructor) ?_)
    rintro ⟨⟩ -
    refine wo_v (v_assign rfl) ?_
    refine wo_nil ?_
    refine wk_seq ?_
    refine wk_region ?_
    refine wo_v (v_move rfl) ?_
    refine wo_v (v_neq rfl rfl) ?_
    refine wo_nil ?_
    refine wk_if rfl (fun hin => ?_) (fun hin => ?_)
    · refine wk_seq ?_
      refine wk_region ?_
      refine wo_v (v_buildN tyBu_82 rfl (by repeat constructor)) ?_
      refine wo_v (v_move rfl) ?_
      refine wo_w0 (w_storeN tyN_82 rfl rfl rfl rfl (by repeat constructor) (by repeat constructor) ?_)
      refine wo_v (v_assign rfl) ?_
      refine wo_nil ?_
      refine wk_ret Tryz.func26 rfl rfl (res_cellA tyA_82 rfl (by repeat constructor) rfl (res_tmp rfl res_nil)) fun W h => ?_
      have hin' : S.inE r.page ≠ 0 := by omega
      exact ⟨⟨noRef, S.inE r.page, S, st⟩, rfl, .range hnl hin', Ent.sat (by refine ent_take (p := StH s d p S) ?_; refine ent_take (p := DevH d st) ?_; exact ent_tail) h⟩
    · have hin' : S.inE r.page = 0 := by omega
      have hpg : 0 ≤ r.page ∧ r.page < S.pages := by have h := hin'; unfold StA.inE at h; split at h <;> omega
      clear hw
      refine wk_nf fun X hw => ?_
      dsimp only [List.append_eq, List.cons_append, List.nil_append, stL, stB] at hw ⊢
      refine wk_skip ?_
      refine wk_seq ?_
      refine wk_seq ?_
      refine wk_draw (n := 8) (pend := 255) ⟨8, fun _ => True⟩ mixed (by kernel_rfl) rfl (fun _ _ => trivial) rfl ?_
      refine wd_a 0 rfl (v_move rfl) ?_
      refine wd_a 1 rfl (v_nilCheck rfl) ?_
      refine wd_a 2 rfl (v_fieldAddr tyF_74_6 rfl) ?_
      refine wd_a 3 rfl (v_load tyS_70 rfl rfl) ?_
      refine wd_a 4 rfl (v_fieldAddr tyF_82_0 rfl) ?_
      refine wd_a 5 rfl (v_load tyS_3 rfl rfl) ?_
      refine wd_l 6 rfl (w_call (s_bits_Set_Has (st := S.taken) (i := r.page)) rfl (by repeat constructor) ?_)
      rintro ⟨⟩ -
      refine ⟨fun _ _ _ => trivial, ?_⟩
      refine wd_a 7 rfl (v_not rfl) ?_
      refine wd_done ?_
      refine wk_if rfl (fun h2 => ?_) (fun h2 => ?_)
      · refine wk_seq ?_
        refine wk_region ?_
        refine wo_v (v_buildN tyBu_82 rfl (by repeat constructor)) ?_
        refine wo_w0 (w_storeN tyN_82 rfl rfl rfl rfl (by repeat constructor) (by repeat constructor) ?_)
        refine wo_v (v_assign rfl) ?_
        refine wo_nil ?_
        refine wk_ret Tryz.func26 rfl rfl (res_cellA tyA_82 rfl (by repeat constructor) rfl (res_tmp rfl res_nil)) fun W h => ?_
        have h2' : S.taken.has r.page.toNat = false := by
          rcases h2 with h2 | h2
          · omega
          · exact h2
        exact ⟨⟨noRef, 7, S, st⟩, rfl, .none hnl hin' h2', Ent.sat (by refine ent_nf X hw ?_; refine ent_take (p := DevH d st) ?_; exact ent_tail) h⟩
      · have h2' : S.taken.has r.page.toNat = true := h2.2
        refine wk_skip ?_
        refine wk_seq ?_
        refine wk_seq ?_
        refine wk_draw (n := 7) (pend := 127) ⟨7, fun _ => True⟩ mixed (by kernel_rfl) rfl (fun _ _ => trivial) rfl ?_
        refine wd_a 0 rfl (v_move rfl) ?_
        refine wd_a 1 rfl (v_nilCheck rfl) ?_
        refine wd_a 2 rfl (v_fieldAddr tyF_74_7 rfl) ?_
        refine wd_a 3 rfl (v_load tyS_71 rfl rfl) ?_
        refine wd_a 4 rfl (v_fieldAddr tyF_82_0 rfl) ?_
        refine wd_a 5 rfl (v_load tyS_3 rfl rfl) ?_
        refine wd_a 6 rfl (v_lookupOn tyM_71 rfl rfl (hw.fr r.page)) ?_
        refine wd_done ?_
        refine wk_if rfl (fun h3 => ?_) (fun h3 => ?_)
        · refine wk_seq ?_
          refine wk_draw (n := 20) (pend := 1048575) ⟨18, fun w => w.cell? ⟨b1, 0, none⟩ = some (.int .i64 r.page) ∧ w.cell? ⟨s, 12, none⟩ = some (.int .i64 S.gen)⟩ mixed (by kernel_rfl) rfl (fun w s_ => ⟨HasC.cell (b := b1) (by repeat constructor) s_ 0, HasC.cell (b := s) (by repeat constructor) s_ 12⟩) rfl ?_
          refine wd_a 14 rfl (v_move rfl) ?_
          refine wd_p 0 rfl (v_fieldAddr tyF_82_0 rfl) ?_
          refine wd_p 2 rfl (v_move rfl) ?_
          refine wd_p 3 rfl (v_nilCheck rfl) ?_
          refine wd_p 4 rfl (v_fieldAddr tyF_74_5 rfl) ?_
          refine wd_p 7 rfl (v_move rfl) ?_
          refine wd_p 8 rfl (v_fieldAddr tyF_82_0 rfl) ?_
          refine wd_p 10 rfl (v_move rfl) ?_
          refine wd_p 11 rfl (v_nilCheck rfl) ?_
          refine wd_p 12 rfl (v_fieldAddr tyF_74_5 rfl) ?_
          refine wd_ld 1 rfl tyS_3 rfl (fun w h => h.1) ?_
          refine wd_ld 5 rfl tyS_3 rfl (fun w h => h.2) ?_
          refine wd_p 6 rfl (v_buildN tyBu_82 rfl (by repeat constructor)) ?_
          refine wd_ld 9 rfl tyS_3 rfl (fun w h => h.1) ?_
          refine wd_ld 13 rfl tyS_3 rfl (fun w h => h.2) ?_
          refine wd_l 15 rfl (w_call (s_bytes_Clone (bs := load) (by omega)) rfl (by repeat constructor) ?_)
          rintro y hyn
          refine ⟨fun w s_ _ => ⟨HasC.cell (b := b1) (by repeat constructor) s_ 0, HasC.cell (b := s) (by repeat constructor) s_ 12⟩, ?_⟩
          refine wd_a 16 rfl (v_buildN tyBu_67 rfl (by repeat constructor)) ?_
          refine wd_ent (M := StH s d p S :: _) (ent_nf X hw (Ent.refl _)) ?_
          have hq : PgB ⟨S.gen, load, true⟩ := ⟨show load.length ≤ 512 by omega, show 0 ≤ S.gen by have := hw.g1; omega, show S.gen ≤ 9223372036854775807 by have := hw.g2; omega⟩
          refine wd_l 17 rfl (w_call (s_store_Store_keep (S := S) (st := st) (n := r.page) (q := ⟨S.gen, load, true⟩) (sv := y) hd hq hpg.1 hpg.2) rfl (by repeat constructor) ?_)
          rintro ⟨e, S', st'⟩ hk
          refine ⟨fun w s_ _ => ⟨HasC.cell (b := b1) (by repeat constructor) s_ 0, by rw [show S.gen = S'.gen from (congrArg StA.gen (KeepR.same hk)).symm]; exact StH_gen (Ent.sat (Ent.take (p := StH s d p S') (by repeat constructor)) s_)⟩, ?_⟩
          refine wd_l0 18 rfl (w_storeN tyN_82 rfl rfl rfl rfl (by repeat constructor) (by repeat constructor) ?_)
          refine ⟨fun w s_ => Wat.gone (by decide), ?_⟩
          refine wd_a 19 rfl (v_assign rfl) ?_
          refine wd_done ?_
          refine wk_ret Tryz.func26 rfl rfl (res_cellA tyA_82 rfl (by repeat constructor) rfl (res_tmp rfl res_nil)) fun W h => ?_
          dsimp only at hk h ⊢
          exact ⟨⟨⟨r.page, S.gen⟩, e, S', st'⟩, rfl, .fresh hnl hin' h2' h3 hk, Ent.sat (by refine ent_take ?_; refine ent_take ?_; exact ent_tail) h⟩
        · refine wk_ent (M := StH s d p S :: _) (ent_nf X hw (Ent.refl _)) ?_
          refine wk_skip ?_
          refine wk_seq ?_
          refine wk_region ?_
          refine wo_v (v_move rfl) ?_
          refine wo_v (v_move rfl) ?_
          refine wo_w (w_call (s_store_Store_New (S := S) (st := st) (x := x) (load := load) hd hl) rfl (by repeat constructor) ?_)
          rintro ⟨q, e, S', st'⟩ hk
          dsimp only at hk ⊢
          refine wo_v (v_move rfl) ?_
          refine wo_v (v_extract rfl rfl) ?_
          refine wo_v (v_extract rfl rfl) ?_
          refine wo_w (w_allocA tyZ_82 fun b3 => ?_)
          refine wo_w0 (w_storeN tyN_82 rfl rfl rfl rfl (by repeat constructor) (by repeat constructor) ?_)
          refine wo_v (v_assign rfl) ?_
          refine wo_nil ?_
          refine wk_seq ?_
          refine wk_seq ?_
          refine wk_region ?_
          refine wo_v (v_move rfl) ?_
          refine wo_v (v_eql rfl rfl) ?_
          refine wo_nil ?_
          refine wk_if rfl (fun he => ?_) (fun he => ?_)
          · refine wk_region ?_
            refine wo_v (v_move rfl) ?_
            refine wo_v (v_fieldAddr tyF_82_0 rfl) ?_
            refine wo_v (v_load tyS_3 rfl rfl) ?_
            refine wo_w (w_call (s_store_Store_gone (S := S') (n := r.page) hpg.1) rfl (by repeat constructor) ?_)
            rintro ⟨⟩ -
            refine wo_nil ?_
            refine wk_seq ?_
            refine wk_region ?_
            refine wo_v (v_loadN tyA_82 rfl (by repeat constructor) (by repeat constructor)) ?_
            refine wo_v (v_move rfl) ?_
            refine wo_w0 (w_storeN tyN_82 rfl rfl rfl rfl (by repeat constructor) (by repeat constructor) ?_)
            refine wo_v (v_assign rfl) ?_
            refine wo_nil ?_
            refine wk_ret Tryz.func26 rfl rfl (res_cellA tyA_82 rfl (by repeat constructor) rfl (res_tmp rfl res_nil)) fun W h => ?_
            have he0 : e = 0 := by omega
            have hr := WriteR.new hnl hin' h2' h3 hk
            rw [if_pos he0] at hr
            exact ⟨⟨q, e, S'.goneS r.page, st'⟩, rfl, hr, Ent.sat (by refine ent_take ?_; refine ent_take ?_; exact ent_tail) h⟩
          · refine wk_skip ?_
            refine wk_seq ?_
            refine wk_region ?_
            refine wo_v (v_loadN tyA_82 rfl (by repeat constructor) (by repeat constructor)) ?_
            refine wo_v (v_move rfl) ?_
            refine wo_w0 (w_storeN tyN_82 rfl rfl rfl rfl (by repeat constructor) (by repeat constructor) ?_)
            refine wo_v (v_assign rfl) ?_
            refine wo_nil ?_
            refine wk_ret Tryz.func26 rfl rfl (res_cellA tyA_82 rfl (by repeat constructor) rfl (res_tmp rfl res_nil)) fun W h => ?_
            have he0 : e ≠ 0 := by omega
            have hr := WriteR.new hnl hin' h2' h3 hk
            rw [if_neg he0] at hr
            exact ⟨⟨q, e, S', st'⟩, rfl, hr, Ent.sat (by refine ent_take ?_; refine ent_take ?_; exact ent_tail) h⟩

end Go.Proofs.YtealmijbkebipaaGreatDoor
