/- The reference 07: a row of yes and no. The reference 13: rows of numbers. -/
import Derived.Test.YtealmijbkebipaaGreatDoorSwAT
namespace Go.Proofs.YtealmijbkebipaaGreatDoor
open Go
attribute [local irreducible] own pe nf

def boolV (b : Bool) : Value := .bool b
abbrev bools (T : SetA) : List Value := T.taken.map boolV
abbrev set7V (T : SetA) (x : SV) : Value := .agg (List.toArray [x.v, .int .i64 T.hand])
structure SetB (T : SetA) : Prop where
  tl : T.taken.length = T.n
  pos : 1 ≤ T.n
  le : T.n ≤ 65536
  hand : T.hand < T.n
theorem bools_len (T : SetA) : (bools T).length = T.taken.length := by simp
theorem bools_at {T : SetA} {i : Nat} (hi : i < T.taken.length) : (bools T)[i]? = some (.bool (T.has i)) := by
  rw [List.getElem?_map, List.getElem?_eq_getElem hi]
  unfold SetA.has
  rw [List.getElem?_eq_getElem hi]; rfl
theorem bool_set {l : List Bool} {i : Nat} {b : Bool} {sp : List Value} (hi : i < l.length) : (l.map boolV ++ sp).set (0 + i * 1) (.bool b) = (l.set i b).map boolV ++ sp := by
  rw [Nat.zero_add, Nat.mul_one, List.set_append_left _ _ (by simpa using hi), List.map_set]; rfl
theorem allOne_bools (l : List Bool) : allOne (l.map boolV) = true := by
  induction l with
  | nil => rfl
  | cons b l ih => simp [allOne, ih, boolV, Value.oneCell']

theorem s_sgraffitoref07_New {n : Nat} (hn : n ≤ 65536) : FnSpec Tryz.prog 18 #[.int .i64 n] []
    (fun x : SV => set7V (SetA.new n) x) (fun x => x.n = n) (fun x R => pe (roSl x (bools (SetA.new n)) 1) :: R) := by
  refine fn_spec Tryz.func18 rfl rfl rfl rfl fun G R => ?_
  dsimp only [List.append_eq, List.cons_append, List.nil_append]
  refine wk_seq ?_
  refine wk_region ?_
  refine wo_w (w_allocA tyZ_40 fun b1 => ?_)
  refine wo_nil ?_
  refine wk_seq ?_
  refine wk_region ?_
  refine wo_v (v_move rfl) ?_
  refine wo_w (w_makeSliceN tyU_38 tyB_4 tyN_4 tyZ_4 rfl rfl rfl rfl rfl (by omega) fun b2 => ?_)
  refine wo_v (v_buildN tyBu_40 rfl (by repeat constructor)) ?_
  refine wo_w0 (w_storeN tyN_40 rfl rfl rfl rfl (by repeat constructor) (by repeat constructor) ?_)
  refine wo_nil ?_
  refine wk_ret Tryz.func18 rfl rfl (res_cellA tyA_40 rfl (by repeat constructor) rfl res_nil) fun W h => ?_
  have hb : bools (SetA.new n) = List.replicate n (Value.bool false) := by simp [bools, SetA.new, boolV]
  have hs := up_freezeB _ _ (Ent.sat (ent_take (p := blk b2 (List.replicate n (Value.bool false)) 4) (t := by repeat constructor) (Ent.refl _)) h)
  refine ⟨⟨some ⟨b2, 0, none⟩, n, n⟩, rfl, rfl, ?_⟩
  rw [hb]
  exact Ent.sat (by refine ent_take ?_; exact ent_tail) ((roSl_of_blk (size := 1) (by simp) (Nat.le_refl _) (by rw [List.drop_zero]; exact List.take_of_length_le (by simp)) (by simp)).sat hs)

theorem s_sgraffitoref07_with {T : SetA} {x : SV} {i : Nat} {b : Bool} (hi : i < T.taken.length) (hl : T.taken.length ≤ 65536) : FnSpec Tryz.prog 87 #[set7V T x, .int .i64 i, .bool b] [pe (roSl x (bools T) 1)]
    (fun y : SV => set7V (T.put i b) y) (fun y => y.n = T.taken.length) (fun y R => pe (roSl y (bools (T.put i b)) 1) :: R) := by
  refine fn_spec Tryz.func87 rfl rfl rfl rfl fun G R => ?_
  dsimp only [List.append_eq, List.cons_append, List.nil_append]
  refine wk_ro (x := x) (cells := bools T) (size := 1) (by repeat constructor) fun hx => ?_
  have hxn : x.n = T.taken.length := by have := hx.1; simpa using this.symm
  refine wk_seq ?_
  refine wk_region ?_
  refine wo_w (w_boxA rfl fun b1 => ?_)
  refine wo_w (w_allocA tyZ_40 fun b2 => ?_)
  refine wo_nil ?_
  refine wk_seq ?_
  refine wk_region ?_
  refine wo_w (w_buildSlice0 tyU_38 tyN_4 fun b3 => ?_)
  refine wo_v (v_fieldAddr tyF_40_0 rfl) ?_
  refine wo_ent ((ent_take (p := blk b3 [] 4) (t := by repeat constructor) (Ent.refl _)).trans (ent_oslEmpty (size := 1))) ?_
  refine wo_v (v_load tyS_38 rfl rfl) ?_
  refine wo_w (w_append (x := ⟨some ⟨b3, 0, none⟩, 0, 0⟩) tyU_38 tyU_38 (.inl ⟨_, rfl⟩) tyB_4 tyN_4 tyZ_4 rfl (by decide) rfl rfl ((src_ro (x := x))) (allOne_bools _) (by repeat constructor) (by (try dsimp only); omega) (by (try dsimp only); omega) hx.1 fun b4 hb4 => ?_)
  refine wo_v (v_fieldAddr tyF_40_0 rfl) ?_
  refine wo_w0 (w_storeN1 tyN_38 rfl rfl rfl (by repeat constructor) (by repeat constructor) ?_)
  refine wo_nil ?_
  have hbn : b4.n = T.taken.length := by rw [hb4]; show 0 + x.n = _; omega
  refine wk_ent (ent_take (p := osl b4 ([] ++ bools T) 1 4) (t := by repeat constructor) (Ent.refl _)) ?_
  rw [List.nil_append]
  refine wk_oslOpen (by omega) fun bb sp ha q1 q2 q3 q4 => ?_
  refine wk_seq ?_
  refine wk_region ?_
  refine wo_v (v_fieldAddr tyF_40_0 rfl) ?_
  refine wo_v (v_load tyS_38 rfl rfl) ?_
  refine wo_v (v_move rfl) ?_
  refine wo_v (v_move rfl) ?_
  refine wo_v (v_indexAddrS tyU_38 tyN_4 rfl rfl ha (by omega)) ?_
  refine wo_w0 (w_store1 tyN_4 rfl rfl rfl (blt_of (by rw [q4]; omega)) (by repeat constructor) ?_)
  rw [bool_set hi]
  refine wo_nil ?_
  refine wk_seq ?_
  refine wk_region ?_
  refine wo_v (v_loadN tyA_40 rfl (by repeat constructor) (by repeat constructor)) ?_
  refine wo_w0 (w_storeN tyN_40 rfl rfl rfl rfl (by repeat constructor) (by repeat constructor) ?_)
  refine wo_nil ?_
  refine wk_ret Tryz.func87 rfl rfl (res_cellA tyA_40 rfl (by repeat constructor) rfl res_nil) fun W h => ?_
  have hcl : (T.taken.set i b).map boolV = bools (T.put i b) := rfl
  rw [hcl] at h
  have h1 : (bools (T.put i b)).length = b4.n * 1 := by rw [bools_len]; show (T.taken.set i b).length = _; rw [List.length_set]; omega
  have h2 : (bools (T.put i b) ++ sp).length = b4.c * 1 := by rw [List.length_append] at q4 ⊢; rw [h1, ← q1]; exact q4
  have hA := Ent.sat (ent_take (p := blk bb (bools (T.put i b) ++ sp) 4) (t := by repeat constructor) (Ent.refl _)) h
  have hB := up_freeze _ _ (Ent.sat (ent_oslClose ha h1 q2 q3 h2) hA)
  exact ⟨b4, rfl, hbn, Ent.sat (by refine ent_take ?_; exact ent_tail) hB⟩

theorem s_sgraffitoref07_Has {T : SetA} {x : SV} {i : Int} : FnSpec Tryz.prog 86 #[set7V T x, .int .i64 i] [pe (roSl x (bools T) 1)]
    (fun _ : Unit => .bool (decide (0 ≤ i) && T.has i.toNat)) (fun _ => True) (fun _ R => R) := by
  refine fn_spec Tryz.func86 rfl rfl rfl rfl fun G R => ?_
  dsimp only [List.append_eq, List.cons_append, List.nil_append]
  refine wk_ro (x := x) (cells := bools T) (size := 1) (by repeat constructor) fun hx => ?_
  have hxn : x.n = T.taken.length := by have := hx.1; simpa using this.symm
  refine wk_seq ?_
  refine wk_region ?_
  refine wo_w (w_boxA rfl fun b1 => ?_)
  refine wo_v (v_assign rfl) ?_
  refine wo_nil ?_
  refine wk_seq ?_
  refine wk_region ?_
  refine wo_v (v_move rfl) ?_
  refine wo_v (v_geq rfl rfl) ?_
  refine wo_v (v_move rfl) ?_
  refine wo_if (t := 7) rfl (fun h1 => ?_) (fun h1 => ?_)
  · refine wo_gv (v_move rfl) ?_
    refine wo_gv (v_fieldAddr tyF_40_0 rfl) ?_
    refine wo_gv (v_load tyS_38 rfl rfl) ?_
    refine wo_gv (v_len tyU_38 rfl) ?_
    refine wo_gv (v_lss rfl rfl) ?_
    refine wo_v (v_pickT rfl rfl) ?_
    refine wo_v (v_move rfl) ?_
    refine wo_if (t := 14) rfl (fun h2 => ?_) (fun h2 => ?_)
    · obtain ⟨k, rfl⟩ := Int.eq_ofNat_of_zero_le (a := i) (by omega)
      refine wo_block' (x := x) (cells := bools T) (size := 1) (by repeat constructor) (by omega) fun b5 o5 vs5 T5 fz5 ha5 hv5 hle5 => ?_
      refine wo_gv (v_fieldAddr tyF_40_0 rfl) ?_
      refine wo_gv (v_load tyS_38 rfl rfl) ?_
      refine wo_gv (v_move rfl) ?_
      refine wo_gv (v_indexAddrS tyU_38 tyN_4 rfl rfl ha5 (by omega)) ?_
      refine wo_gv (v_load tyS_4 rfl (ro_get hv5 (bools_at (T := T) (i := k) (by omega)))) ?_
      refine wo_v (v_pickT rfl rfl) ?_
      refine wo_v (v_assign rfl) ?_
      refine wo_nil ?_
      refine wk_ret Tryz.func86 rfl rfl (res_tmp rfl res_nil) fun W h => ?_
      have e1 : (decide (0 ≤ (k : Int)) && T.has ((k : Int)).toNat) = T.has k := by simp
      rw [e1]
      exact ⟨(), rfl, trivial, Ent.sat ent_tail h⟩
    · refine wo_gF ?_
      refine wo_gF ?_
      refine wo_gF ?_
      refine wo_gF ?_
      refine wo_gF ?_
      refine wo_v (v_pickF rfl rfl) ?_
      refine wo_v (v_assign rfl) ?_
      refine wo_nil ?_
      refine wk_ret Tryz.func86 rfl rfl (res_tmp rfl res_nil) fun W h => ?_
      have e1 : (decide (0 ≤ i) && T.has i.toNat) = false := by
        have : T.has i.toNat = false := by
          unfold SetA.has; rw [List.getElem?_eq_none (by omega)]; rfl
        rw [this, Bool.and_false]
      rw [e1]
      exact ⟨(), rfl, trivial, Ent.sat ent_tail h⟩
  · refine wo_gF ?_
    refine wo_gF ?_
    refine wo_gF ?_
    refine wo_gF ?_
    refine wo_gF ?_
    refine wo_v (v_pickF rfl rfl) ?_
    refine wo_v (v_move rfl) ?_
    refine wo_gF ?_
    refine wo_gF ?_
    refine wo_gF ?_
    refine wo_gF ?_
    refine wo_gF ?_
    refine wo_v (v_pickF rfl rfl) ?_
    refine wo_v (v_assign rfl) ?_
    refine wo_nil ?_
    refine wk_ret Tryz.func86 rfl rfl (res_tmp rfl res_nil) fun W h => ?_
    have e1 : (decide (0 ≤ i) && T.has i.toNat) = false := by
      rw [decide_eq_false (by omega)]; rfl
    rw [e1]
    exact ⟨(), rfl, trivial, Ent.sat ent_tail h⟩

def SetA.clr (T : SetA) (i : Int) : SetA := if (decide (0 ≤ i) && T.has i.toNat) = true then T.put i.toNat false else T
theorem s_sgraffitoref07_Clear {T : SetA} {x : SV} {i : Int} (hl : T.taken.length ≤ 65536) : FnSpec Tryz.prog 64 #[set7V T x, .int .i64 i] [pe (roSl x (bools T) 1)]
    (fun y : SV => .tuple #[set7V (T.clr i) y, .bool (decide (0 ≤ i) && T.has i.toNat)]) (fun y => y.n = T.taken.length) (fun y R => pe (roSl y (bools (T.clr i)) 1) :: R) := by
  refine fn_spec Tryz.func64 rfl rfl rfl rfl fun G R => ?_
  dsimp only [List.append_eq, List.cons_append, List.nil_append]
  refine wk_ro (x := x) (cells := bools T) (size := 1) (by repeat constructor) fun hx => ?_
  have hxn : x.n = T.taken.length := by have := hx.1; simpa using this.symm
  refine wk_seq ?_
  refine wk_region ?_
  refine wo_w (w_boxA rfl fun b1 => ?_)
  refine wo_w (w_allocA tyZ_40 fun b2 => ?_)
  refine wo_v (v_assign rfl) ?_
  refine wo_nil ?_
  refine wk_seq ?_
  refine wk_seq ?_
  refine wk_region ?_
  refine wo_v (v_loadN tyA_40 rfl (by repeat constructor) (by repeat constructor)) ?_
  refine wo_v (v_move rfl) ?_
  refine wo_w (w_call (s_sgraffitoref07_Has (T := T) (x := x) (i := i)) rfl (by repeat constructor) ?_)
  rintro ⟨⟩ -
  refine wo_v (v_not rfl) ?_
  refine wo_nil ?_
  refine wk_if rfl (fun h1 => ?_) (fun h1 => ?_)
  · refine wk_seq ?_
    refine wk_region ?_
    refine wo_v (v_loadN tyA_40 rfl (by repeat constructor) (by repeat constructor)) ?_
    refine wo_w0 (w_storeN tyN_40 rfl rfl rfl rfl (by repeat constructor) (by repeat constructor) ?_)
    refine wo_v (v_assign rfl) ?_
    refine wo_nil ?_
    refine wk_ret Tryz.func64 rfl rfl (res_cellA tyA_40 rfl (by repeat constructor) rfl (res_tmp rfl res_nil)) fun W h => ?_
    have hf : (decide (0 ≤ i) && T.has i.toNat) = false := by
      rcases h1 with h1 | h1
      · rw [decide_eq_false h1]; rfl
      · rw [h1, Bool.and_false]
    have hc : T.clr i = T := by unfold SetA.clr; rw [hf]; rfl
    rw [hc, hf]
    exact ⟨x, rfl, hxn, Ent.sat (by refine ent_take ?_; exact ent_tail) h⟩
  · obtain ⟨k, rfl⟩ := Int.eq_ofNat_of_zero_le h1.1
    have hk : T.has k = true := by simpa using h1.2
    have hkl : k < T.taken.length := by
      rcases Nat.lt_or_ge k T.taken.length with h | h
      · exact h
      · unfold SetA.has at hk; rw [List.getElem?_eq_none h] at hk; cases hk
    refine wk_skip ?_
    refine wk_seq ?_
    refine wk_region ?_
    refine wo_v (v_loadN tyA_40 rfl (by repeat constructor) (by repeat constructor)) ?_
    refine wo_v (v_move rfl) ?_
    refine wo_w (w_call (s_sgraffitoref07_with (T := T) (x := x) (i := k) (b := false) hkl hl) rfl (by repeat constructor) ?_)
    rintro y hy
    refine wo_w0 (w_storeN tyN_40 rfl rfl rfl rfl (by repeat constructor) (by repeat constructor) ?_)
    refine wo_v (v_assign rfl) ?_
    refine wo_nil ?_
    refine wk_ret Tryz.func64 rfl rfl (res_cellA tyA_40 rfl (by repeat constructor) rfl (res_tmp rfl res_nil)) fun W h => ?_
    have ht : (decide (0 ≤ (k : Int)) && T.has ((k : Int)).toNat) = true := by simp [hk]
    have hc : T.clr k = T.put k false := by unfold SetA.clr; rw [ht]; rfl
    rw [hc, ht]
    exact ⟨y, rfl, hy, Ent.sat (by refine ent_take ?_; exact ent_tail) h⟩

/-- The first that is free from the hand on, round. -/
theorem SetA.pick_round {T : SetA} (h : SetB T) {k : Nat} (hk : k < T.n) (hb : ∀ j, j < k → T.has ((T.hand + j) % T.n) = true) (hf : T.has ((T.hand + k) % T.n) = false) : T.pick = some ((T.hand + k) % T.n) := by
  have hh := h.hand
  have key : ∀ a i, i < T.n → a ≤ i → T.has i = false → (∀ j, a ≤ j → j < i → T.has j = true) → T.first a = some i := by
    intro a i hi ha hfi hbi
    unfold SetA.first
    rw [List.find?_range_eq_some]
    refine ⟨by simp [ha, hfi], List.mem_range.2 hi, fun j hj => ?_⟩
    by_cases haj : a ≤ j
    · simp [hbi j haj hj]
    · rw [decide_eq_false haj]; simp
  by_cases hw : T.hand + k < T.n
  · have e1 : (T.hand + k) % T.n = T.hand + k := Nat.mod_eq_of_lt hw
    rw [e1] at hf ⊢
    have := key T.hand (T.hand + k) hw (by omega) hf (fun j h1 h2 => by
      have := hb (j - T.hand) (by omega)
      rwa [show T.hand + (j - T.hand) = j from by omega, Nat.mod_eq_of_lt (by omega)] at this)
    unfold SetA.pick; rw [this]
  · have e1 : (T.hand + k) % T.n = T.hand + k - T.n := by
      rw [Nat.mod_eq_sub_mod (by omega), Nat.mod_eq_of_lt (by omega)]
    rw [e1] at hf ⊢
    have hno : T.first T.hand = none := by
      unfold SetA.first
      rw [List.find?_eq_none]
      intro j hj
      rw [List.mem_range] at hj
      by_cases haj : T.hand ≤ j
      · have := hb (j - T.hand) (by omega)
        rw [show T.hand + (j - T.hand) = j from by omega, Nat.mod_eq_of_lt hj] at this
        simp [this]
      · rw [decide_eq_false haj]; simp
    have := key 0 (T.hand + k - T.n) (by omega) (Nat.zero_le _) hf (fun j _ h2 => by
      have := hb (j + T.n - T.hand) (by omega)
      rwa [show T.hand + (j + T.n - T.hand) = j + T.n from by omega, Nat.add_mod_right, Nat.mod_eq_of_lt (by omega)] at this)
    unfold SetA.pick; rw [hno]; exact this
theorem SetA.pick_full {T : SetA} (h : SetB T) (hb : ∀ j, j < T.n → T.has ((T.hand + j) % T.n) = true) : T.pick = none := by
  have hh := h.hand
  have hall : ∀ i, i < T.n → T.has i = true := by
    intro i hi
    by_cases h1 : T.hand ≤ i
    · have := hb (i - T.hand) (by omega)
      rwa [show T.hand + (i - T.hand) = i from by omega, Nat.mod_eq_of_lt hi] at this
    · have := hb (i + T.n - T.hand) (by omega)
      rwa [show T.hand + (i + T.n - T.hand) = i + T.n from by omega, Nat.add_mod_right, Nat.mod_eq_of_lt hi] at this
  have hno : ∀ a, T.first a = none := by
    intro a
    unfold SetA.first
    rw [List.find?_eq_none]
    intro j hj
    rw [List.mem_range] at hj
    simp [hall j hj]
  unfold SetA.pick; rw [hno]; exact hno 0

def pickI : Option Nat → Int
  | none => -1
  | some n => n
theorem s_sgraffitoref07_Take {T : SetA} {x : SV} (hB : SetB T) : FnSpec Tryz.prog 65 #[set7V T x] [pe (roSl x (bools T) 1)]
    (fun y : SV => .tuple #[set7V T.took y, .int .i64 (pickI T.pick)]) (fun y => y.n = T.n) (fun y R => pe (roSl y (bools T.took) 1) :: R) := by
  refine fn_spec Tryz.func65 rfl rfl rfl rfl fun G R => ?_
  dsimp only [List.append_eq, List.cons_append, List.nil_append]
  refine wk_ro (x := x) (cells := bools T) (size := 1) (by repeat constructor) fun hx => ?_
  have hxn : x.n = T.taken.length := by have := hx.1; simpa using this.symm
  have htl := hB.tl
  have hpos := hB.pos
  have hle := hB.le
  have hhand := hB.hand
  refine wk_seq ?_
  refine wk_region ?_
  refine wo_w (w_boxA rfl fun b1 => ?_)
  refine wo_w (w_allocA tyZ_40 fun b2 => ?_)
  refine wo_v (v_assign rfl) ?_
  refine wo_nil ?_
  refine wk_seq ?_
  refine wk_seq ?_
  refine wk_region ?_
  refine wo_v (v_assign rfl) ?_
  refine wo_nil ?_
  refine wk_block ?_
  refine wk_loop (fun k : Nat => k ≤ T.n ∧ ∀ j, j < k → T.has ((T.hand + j) % T.n) = true) (fun k => [(1, .pointer (some ⟨b1, 0, none⟩)), (2, .pointer (some ⟨b2, 0, none⟩)), (4, .int .i64 k)]) (fun _ => blk b1 [x.v, .int .i64 T.hand] 40 :: blk b2 _ 40 :: pe (roSl x (bools T) 1) :: R) (fun k => T.n - k) 0 ⟨Nat.zero_le _, fun j hj => absurd hj (Nat.not_lt_zero _)⟩ ⟨rfl, rfl, rfl, trivial⟩ (by refine ent_take ?_; refine ent_take ?_; refine ent_take ?_; exact ent_tail) fun k hI next => ?_
  obtain ⟨hk, hbs⟩ := hI
  refine wk_seq ?_
  refine wk_seq ?_
  refine wk_region ?_
  refine wo_v (v_move rfl) ?_
  refine wo_v (v_fieldAddr tyF_40_0 rfl) ?_
  refine wo_v (v_load tyS_38 rfl rfl) ?_
  refine wo_v (v_len tyU_38 rfl) ?_
  refine wo_v (v_lss rfl rfl) ?_
  refine wo_nil ?_
  refine wk_if rfl (fun hc => ?_) (fun hc => ?_)
  · have hkn : k < T.n := by omega
    have hmod : (T.hand + k) % T.n < T.n := Nat.mod_lt _ (by omega)
    have hmx : (T.hand + k) % x.n = (T.hand + k) % T.n := by rw [hxn, htl]
    refine wk_skip ?_
    refine wk_seq ?_
    refine wk_block ?_
    refine wk_seq ?_
    refine wk_region ?_
    refine wo_v (v_fieldAddr tyF_40_1 rfl) ?_
    refine wo_v (v_load tyS_3 rfl rfl) ?_
    refine wo_v (v_move rfl) ?_
    refine wo_v (OpV.int (v_addI rfl rfl) (show _ = ((T.hand + k : Nat) : Int) by omega)) ?_
    refine wo_v (v_fieldAddr tyF_40_0 rfl) ?_
    refine wo_v (v_load tyS_38 rfl rfl) ?_
    refine wo_v (v_len tyU_38 rfl) ?_
    refine wo_v (OpV.int (v_remN (a := T.hand + k) (b := x.n) rfl rfl) (show _ = (((T.hand + k) % T.n : Nat) : Int) by rw [hmx])) ?_
    refine wo_v (v_assign rfl) ?_
    refine wo_nil ?_
    refine wk_block' (x := x) (cells := bools T) (size := 1) (by repeat constructor) (by omega) fun b5 o5 vs5 T5 fz5 ha5 hv5 hle5 => ?_
    refine wk_seq ?_
    refine wk_region ?_
    refine wo_v (v_fieldAddr tyF_40_0 rfl) ?_
    refine wo_v (v_load tyS_38 rfl rfl) ?_
    refine wo_v (v_move rfl) ?_
    refine wo_v (v_indexAddrS tyU_38 tyN_4 rfl rfl ha5 (by omega)) ?_
    refine wo_v (v_load tyS_4 rfl (ro_get hv5 (bools_at (T := T) (i := (T.hand + k) % T.n) (by omega)))) ?_
    refine wo_v (v_not rfl) ?_
    refine wo_nil ?_
    refine wk_if rfl (fun hf => ?_) (fun hf => ?_)
    · have hpk := SetA.pick_round hB hkn hbs hf
      have htk : T.took = ⟨T.n, T.taken.set ((T.hand + k) % T.n) true, ((T.hand + k) % T.n + 1) % T.n⟩ := by unfold SetA.took; rw [hpk]
      refine wk_seq ?_
      refine wk_region ?_
      refine wo_v (v_loadN tyA_40 rfl (by repeat constructor) (by repeat constructor)) ?_
      refine wo_v (v_move rfl) ?_
      refine wo_w (w_call (s_sgraffitoref07_with (T := T) (x := x) (i := (T.hand + k) % T.n) (b := true) (by omega) (by omega)) rfl (by repeat constructor) ?_)
      rintro y hy
      refine wo_w0 (w_storeN tyN_40 rfl rfl rfl rfl (by repeat constructor) (by repeat constructor) ?_)
      refine wo_nil ?_
      refine wk_seq ?_
      refine wk_region ?_
      refine wo_v (v_move rfl) ?_
      refine wo_v (OpV.int (v_addI rfl rfl) (show _ = (((T.hand + k) % T.n + 1 : Nat) : Int) by omega)) ?_
      refine wo_v (v_fieldAddr tyF_40_0 rfl) ?_
      refine wo_v (v_load tyS_38 rfl rfl) ?_
      refine wo_v (v_len tyU_38 rfl) ?_
      refine wo_v (OpV.int (v_remN (a := (T.hand + k) % T.n + 1) (b := y.n) rfl rfl) (show _ = ((((T.hand + k) % T.n + 1) % T.n : Nat) : Int) by rw [hy, htl])) ?_
      refine wo_v (v_fieldAddr tyF_40_1 rfl) ?_
      refine wo_w0 (w_storeN1 tyN_3 rfl rfl rfl (by repeat constructor) (by repeat constructor) ?_)
      refine wo_nil ?_
      refine wk_seq ?_
      refine wk_region ?_
      refine wo_v (v_loadN tyA_40 rfl (by repeat constructor) (by repeat constructor)) ?_
      refine wo_v (v_move rfl) ?_
      refine wo_w0 (w_storeN tyN_40 rfl rfl rfl rfl (by repeat constructor) (by repeat constructor) ?_)
      refine wo_v (v_assign rfl) ?_
      refine wo_nil ?_
      refine wk_ret Tryz.func65 rfl rfl (res_cellA tyA_40 rfl (by repeat constructor) rfl (res_tmp rfl res_nil)) fun W h => ?_
      rw [hpk, htk]
      exact ⟨y, rfl, by rw [hy, htl], Ent.sat (by refine ent_take ?_; exact ent_tail) h⟩
    · refine wk_skip ?_
      refine wk_inBlock ?_
      refine wk_region ?_
      refine wo_v (v_move rfl) ?_
      refine wo_v (v_addI rfl rfl) ?_
      refine wo_v (v_assign rfl) ?_
      refine wo_nil ?_
      refine (next (k + 1) ⟨hkn, fun j hj => ?_⟩ (by omega)).use ⟨rfl, rfl, rfl, trivial⟩ (by refine ent_take ?_; refine ent_take ?_; refine ent_take ?_; exact ent_tail)
      rcases Nat.lt_succ_iff_lt_or_eq.1 hj with hj | rfl
      · exact hbs j hj
      · simpa using hf
  · refine wk_exit rfl ?_
    refine wk_seq ?_
    refine wk_region ?_
    refine wo_v (v_loadN tyA_40 rfl (by repeat constructor) (by repeat constructor)) ?_
    refine wo_w0 (w_storeN tyN_40 rfl rfl rfl rfl (by repeat constructor) (by repeat constructor) ?_)
    refine wo_v (v_assign rfl) ?_
    refine wo_nil ?_
    refine wk_ret Tryz.func65 rfl rfl (res_cellA tyA_40 rfl (by repeat constructor) rfl (res_tmp rfl res_nil)) fun W h => ?_
    have hkn : k = T.n := by omega
    subst hkn
    have hpk := SetA.pick_full hB hbs
    have htk : T.took = T := by unfold SetA.took; rw [hpk]
    rw [htk, hpk]
    exact ⟨x, rfl, by rw [hxn, htl], Ent.sat (by refine ent_take ?_; exact ent_tail) h⟩

end Go.Proofs.YtealmijbkebipaaGreatDoor

namespace Go.Proofs.YtealmijbkebipaaGreatDoor
open Go

theorem rowC_take {α : Type} {f : α → List Value} {n : Nat} (hf : ∀ a, (f a).length = n) (l : List α) (k : Nat) : (rowC f l).take (k * n) = rowC f (l.take k) := by
  induction l generalizing k with
  | nil => simp [rowC]
  | cons a l ih =>
    cases k with
    | zero => simp [rowC]
    | succ k =>
      rw [List.take_succ_cons, rowC_cons, rowC_cons, Nat.succ_mul, Nat.add_comm, ← hf a, List.take_length_add_append, hf a, ih]
theorem rowC_drop {α : Type} {f : α → List Value} {n : Nat} (hf : ∀ a, (f a).length = n) (l : List α) (k : Nat) : (rowC f l).drop (k * n) = rowC f (l.drop k) := by
  induction l generalizing k with
  | nil => simp [rowC]
  | cons a l ih =>
    cases k with
    | zero => simp
    | succ k =>
      rw [List.drop_succ_cons, rowC_cons, Nat.succ_mul, Nat.add_comm, ← List.drop_drop, ← hf a, List.drop_left, hf a, ih]

theorem ent_keyHi {x : SV} {l : List Int} {k : Nat} {L : List HP} (hp : HasPe L (roSl x (l.map keyV) 1)) (hk : k ≤ x.n) : Ent L (pe (roSl (x.sl 0 k 1) ((l.take k).map keyV) 1) :: L) := by
  have := ent_sl hp (Nat.zero_le _) hk
  simpa [List.map_take] using this
theorem ent_keyLo {x : SV} {l : List Int} {k : Nat} {L : List HP} (hp : HasPe L (roSl x (l.map keyV) 1)) (hk : k ≤ x.n) : Ent L (pe (roSl (x.sl k x.n 1) ((l.drop k).map keyV) 1) :: L) := by
  intro h0 r hs
  have hf := roSl_fact (hp.q hs)
  have hlen : l.length = x.n := by have := hf.1; simpa using this
  have h2 := ent_sl hp hk (Nat.le_refl _) h0 r hs
  have e : (((l.map keyV).drop (k * 1)).take ((x.n - k) * 1)) = (l.drop k).map keyV := by
    rw [Nat.mul_one, Nat.mul_one, List.take_of_length_le (by rw [List.length_drop, List.length_map]; omega), List.map_drop]
  rw [e] at h2; exact h2

attribute [local irreducible] own pe nf

theorem keyV_at {l : List Int} {i : Nat} {k : Int} (h : l[i]? = some k) : (l.map keyV)[i]? = some (.int .i64 k) := by rw [List.getElem?_map, h]; rfl
theorem allOne_keys (l : List Int) : allOne (l.map keyV) = true := by
  induction l with
  | nil => rfl
  | cons b l ih => simp [allOne, ih, keyV, Value.oneCell']

theorem s_sgraffitoref13_in {x : SV} {l : List Int} {n : Int} (hl : l.length ≤ 65536) : FnSpec Tryz.prog 55 #[x.v, .int .i64 n] [pe (roSl x (l.map keyV) 1)]
    (fun _ : Unit => .bool (decide (n ∈ l))) (fun _ => True) (fun _ R => R) := by
  refine fn_spec Tryz.func55 rfl rfl rfl rfl fun G R => ?_
  dsimp only [List.append_eq, List.cons_append, List.nil_append]
  refine wk_ro (x := x) (cells := l.map keyV) (size := 1) (by repeat constructor) fun hx => ?_
  have hxn : x.n = l.length := by have := hx.1; simpa using this.symm
  refine wk_seq ?_
  refine wk_region ?_
  refine wo_v (v_assign rfl) ?_
  refine wo_nil ?_
  refine wk_seq ?_
  refine wk_seq ?_
  refine wk_region ?_
  refine wo_v (v_assign rfl) ?_
  refine wo_nil ?_
  refine wk_block ?_
  refine wk_loop (fun i : Nat => i ≤ l.length ∧ ∀ j, j < i → l[j]? ≠ some n) (fun i => [(0, x.v), (1, .int .i64 n), (5, .int .i64 i)]) (fun _ => pe (roSl x (l.map keyV) 1) :: R) (fun i => l.length - i) 0 ⟨Nat.zero_le _, fun j hj => absurd hj (Nat.not_lt_zero _)⟩ ⟨rfl, rfl, rfl, trivial⟩ (Ent.refl _) fun i hI next => ?_
  obtain ⟨hi, hno⟩ := hI
  refine wk_seq ?_
  refine wk_seq ?_
  refine wk_region ?_
  refine wo_v (v_move rfl) ?_
  refine wo_v (v_move rfl) ?_
  refine wo_v (v_len tyU_23 rfl) ?_
  refine wo_v (v_lss rfl rfl) ?_
  refine wo_nil ?_
  refine wk_if rfl (fun hb => ?_) (fun hb => ?_)
  · have hil : i < l.length := by omega
    have hg : l[i]? = some l[i] := List.getElem?_eq_getElem hil
    generalize l[i] = q at hg
    refine wk_block' (x := x) (cells := l.map keyV) (size := 1) (by repeat constructor) (by omega) fun b5 o5 vs5 T5 fz5 ha5 hv5 hle5 => ?_
    refine wk_skip ?_
    refine wk_seq ?_
    refine wk_block ?_
    refine wk_seq ?_
    refine wk_region ?_
    refine wo_v (v_move rfl) ?_
    refine wo_v (v_move rfl) ?_
    refine wo_v (v_indexAddrS tyU_23 tyN_3 rfl rfl ha5 (by omega)) ?_
    refine wo_v (v_load tyS_3 rfl (ro_get hv5 (keyV_at hg))) ?_
    refine wo_v (v_move rfl) ?_
    refine wo_v (v_eql rfl rfl) ?_
    refine wo_nil ?_
    refine wk_if rfl (fun hq => ?_) (fun hq => ?_)
    · refine wk_seq ?_
      refine wk_region ?_
      refine wo_v (v_assign rfl) ?_
      refine wo_nil ?_
      refine wk_ret Tryz.func55 rfl rfl (res_tmp rfl res_nil) fun W h => ?_
      have hm : n ∈ l := by rw [← hq]; exact List.mem_of_getElem? hg
      rw [decide_eq_true hm]
      exact ⟨(), rfl, trivial, Ent.sat ent_tail h⟩
    · refine wk_skip ?_
      refine wk_inBlock ?_
      refine wk_region ?_
      refine wo_v (v_move rfl) ?_
      refine wo_v (v_addI rfl rfl) ?_
      refine wo_v (v_assign rfl) ?_
      refine wo_nil ?_
      refine (next (i + 1) ⟨hil, fun j hj => ?_⟩ (by omega)).use ⟨rfl, rfl, rfl, trivial⟩ (by refine ent_take ?_; exact ent_tail)
      rcases Nat.lt_succ_iff_lt_or_eq.1 hj with hj | rfl
      · exact hno j hj
      · rw [hg]; intro e; exact hq (Option.some.inj e)
  · refine wk_exit rfl ?_
    refine wk_seq ?_
    refine wk_region ?_
    refine wo_v (v_assign rfl) ?_
    refine wo_nil ?_
    refine wk_ret Tryz.func55 rfl rfl (res_tmp rfl res_nil) fun W h => ?_
    have hm : n ∉ l := by
      intro hm
      obtain ⟨j, hj⟩ := List.getElem?_of_mem hm
      have := (List.getElem?_eq_some_iff.1 hj).1
      exact hno j (by omega) hj
    rw [decide_eq_false hm]
    exact ⟨(), rfl, trivial, Ent.sat ent_tail h⟩

theorem s_sgraffitoref13_with {x : SV} {l : List Int} {n : Int} (hl : l.length ≤ 65536) : FnSpec Tryz.prog 66 #[x.v, .int .i64 n] [pe (roSl x (l.map keyV) 1)]
    (fun y : SV × Nat => y.1.v) (fun y => y.2 ≤ l.length ∧ y.1.n = l.length + 1) (fun y R => pe (roSl y.1 ((l.take y.2 ++ n :: l.drop y.2).map keyV) 1) :: R) := by
  refine fn_spec Tryz.func66 rfl rfl rfl rfl fun G R => ?_
  dsimp only [List.append_eq, List.cons_append, List.nil_append]
  refine wk_ro (x := x) (cells := l.map keyV) (size := 1) (by repeat constructor) fun hx => ?_
  have hxn : x.n = l.length := by have := hx.1; simpa using this.symm
  refine wk_seq ?_
  refine wk_region ?_
  refine wo_v (v_assign rfl) ?_
  refine wo_nil ?_
  refine wk_seq ?_
  refine wk_region ?_
  refine wo_v (v_assign rfl) ?_
  refine wo_nil ?_
  refine wk_seq ?_
  refine wk_block ?_
  refine wk_loop (fun i : Nat => i ≤ l.length) (fun i => [(0, x.v), (1, .int .i64 n), (5, .int .i64 i)]) (fun _ => pe (roSl x (l.map keyV) 1) :: R) (fun i => l.length - i) 0 (Nat.zero_le _) ⟨rfl, rfl, rfl, trivial⟩ (Ent.refl _) fun i hi next => ?_
  refine wk_seq ?_
  refine wk_seq ?_
  refine wk_region ?_
  refine wo_v (v_move rfl) ?_
  refine wo_v (v_move rfl) ?_
  refine wo_v (v_len tyU_23 rfl) ?_
  refine wo_v (v_lss rfl rfl) ?_
  refine wo_v (v_move rfl) ?_
  refine wo_if (t := 11) rfl (fun hb => ?_) (fun hb => ?_)
  · have hil : i < l.length := by omega
    have hg : l[i]? = some l[i] := List.getElem?_eq_getElem hil
    generalize l[i] = q at hg
    refine wo_block' (x := x) (cells := l.map keyV) (size := 1) (by repeat constructor) (by omega) fun b5 o5 vs5 T5 fz5 ha5 hv5 hle5 => ?_
    refine wo_gv (v_move rfl) ?_
    refine wo_gv (v_move rfl) ?_
    refine wo_gv (v_indexAddrS tyU_23 tyN_3 rfl rfl ha5 (by omega)) ?_
    refine wo_gv (v_load tyS_3 rfl (ro_get hv5 (keyV_at hg))) ?_
    refine wo_gv (v_move rfl) ?_
    refine wo_gv (v_lss rfl rfl) ?_
    refine wo_v (v_pickT rfl rfl) ?_
    refine wo_nil ?_
    refine wk_if rfl (fun hq => ?_) (fun hq => ?_)
    · refine wk_skip ?_
      refine wk_block ?_
      refine wk_region ?_
      refine wo_v (v_move rfl) ?_
      refine wo_v (v_addI rfl rfl) ?_
      refine wo_v (v_assign rfl) ?_
      refine wo_nil ?_
      refine wk_inBlock ?_
      exact (next (i + 1) hil (by omega)).use ⟨rfl, rfl, rfl, trivial⟩ (by refine ent_take ?_; exact ent_tail)
    · have hs1 : (x.sl 0 i 1).n = i := by rw [SV.sl_n]; omega
      have hs2 : (x.sl i x.n 1).n = x.n - i := rfl
      refine wk_ent (ent_keyHi (x := x) (l := l) (k := i) (by repeat constructor) (by omega)) ?_
      refine wk_ent (ent_keyLo (x := x) (l := l) (k := i) (by repeat constructor) (by omega)) ?_
      refine wk_exit rfl ?_
      refine wk_seq ?_
      refine wk_region ?_
      refine wo_w (w_buildSlice0 tyU_23 tyN_3 fun b1 => ?_)
      refine wo_v (v_move rfl) ?_
      refine wo_v (v_move rfl) ?_
      refine wo_ent ((ent_take (p := blk b1 [] 3) (t := by repeat constructor) (Ent.refl _)).trans (ent_oslEmpty (size := 1))) ?_
      refine wo_v (v_sliceHiS (x := x) (h := i) tyU_23 tyN_3 rfl rfl (by have := hx.2.1; omega)) ?_
      refine wo_w (w_append (x := ⟨some ⟨b1, 0, none⟩, 0, 0⟩) tyU_23 tyU_23 (.inl ⟨_, rfl⟩) tyB_3 tyN_3 tyZ_3 rfl (by decide) rfl rfl ((src_ro (x := x.sl 0 i 1))) (allOne_keys _) (by repeat constructor) (by (try dsimp only); omega) (by (try dsimp only); omega) (by rw [List.length_map, List.length_take, SV.sl_n]; omega) fun b2 hb2 => ?_)
      have hC : b2.n = i := by rw [hb2]; show 0 + (x.sl 0 i 1).n = i; omega
      refine wo_v (v_move rfl) ?_
      refine wo_w (w_buildSlice1 tyU_23 tyN_3 tyZ_3 rfl rfl rfl rfl fun b3 => ?_)
      refine wo_w (w_append (x := b2) tyU_23 tyU_23 (.inl ⟨_, rfl⟩) tyB_3 tyN_3 tyZ_3 rfl (by decide) rfl rfl ((src_blk (vs := [keyV n]) (new := [keyV n]) rfl (Nat.le_refl _))) rfl (by repeat constructor) (by (try dsimp only); omega) (by (try dsimp only); omega) rfl fun b4 hb4 => ?_)
      refine wo_v (v_assign rfl) ?_
      refine wo_nil ?_
      refine wk_seq ?_
      refine wk_region ?_
      refine wo_v (v_move rfl) ?_
      refine wo_v (v_move rfl) ?_
      refine wo_v (v_move rfl) ?_
      refine wo_v (v_sliceLoS (x := x) (l := i) tyU_23 tyN_3 rfl rfl (by omega)) ?_
      refine wo_w (w_append (x := b4) tyU_23 tyU_23 (.inl ⟨_, rfl⟩) tyB_3 tyN_3 tyZ_3 rfl (by decide) rfl rfl ((src_ro (x := x.sl i x.n 1))) (allOne_keys _) (by repeat constructor) (by (try dsimp only); omega) (by (try dsimp only); omega) (by rw [List.length_map, List.length_drop, SV.sl_n]; omega) fun b5 hb5 => ?_)
      refine wo_v (v_assign rfl) ?_
      refine wo_nil ?_
      refine wk_ret Tryz.func66 rfl rfl (res_tmp rfl res_nil) fun W h => ?_
      have hcells : ((([] ++ (l.take i).map keyV) ++ [keyV n]) ++ (l.drop i).map keyV) = (l.take i ++ n :: l.drop i).map keyV := by simp
      have hA := Ent.sat (ent_take (p := osl b5 ((([] ++ (l.take i).map keyV) ++ [keyV n]) ++ (l.drop i).map keyV) 1 3) (t := by repeat constructor) (Ent.refl _)) h
      rw [hcells] at hA
      exact ⟨(b5, i), rfl, ⟨hi, by dsimp only; rw [hb5, hb4, hb2]; show 0 + (x.sl 0 i 1).n + 1 + (x.sl i x.n 1).n = _; rw [SV.sl_n, SV.sl_n]; omega⟩, Ent.sat (by refine ent_take ?_; exact ent_tail) (up_freeze _ _ hA)⟩
  · refine wo_gF ?_
    refine wo_gF ?_
    refine wo_gF ?_
    refine wo_gF ?_
    refine wo_gF ?_
    refine wo_gF ?_
    refine wo_v (v_pickF rfl rfl) ?_
    refine wo_nil ?_
    refine wk_condF rfl ?_
    have hs1 : (x.sl 0 i 1).n = i := by rw [SV.sl_n]; omega
    have hs2 : (x.sl i x.n 1).n = x.n - i := rfl
    refine wk_ent (ent_keyHi (x := x) (l := l) (k := i) (by repeat constructor) (by omega)) ?_
    refine wk_ent (ent_keyLo (x := x) (l := l) (k := i) (by repeat constructor) (by omega)) ?_
    refine wk_exit rfl ?_
    refine wk_seq ?_
    refine wk_region ?_
    refine wo_w (w_buildSlice0 tyU_23 tyN_3 fun b6 => ?_)
    refine wo_v (v_move rfl) ?_
    refine wo_v (v_move rfl) ?_
    refine wo_ent ((ent_take (p := blk b6 [] 3) (t := by repeat constructor) (Ent.refl _)).trans (ent_oslEmpty (size := 1))) ?_
    refine wo_v (v_sliceHiS (x := x) (h := i) tyU_23 tyN_3 rfl rfl (by have := hx.2.1; omega)) ?_
    refine wo_w (w_append (x := ⟨some ⟨b6, 0, none⟩, 0, 0⟩) tyU_23 tyU_23 (.inl ⟨_, rfl⟩) tyB_3 tyN_3 tyZ_3 rfl (by decide) rfl rfl ((src_ro (x := x.sl 0 i 1))) (allOne_keys _) (by repeat constructor) (by (try dsimp only); omega) (by (try dsimp only); omega) (by rw [List.length_map, List.length_take, SV.sl_n]; omega) fun b7 hb7 => ?_)
    have hC : b7.n = i := by rw [hb7]; show 0 + (x.sl 0 i 1).n = i; omega
    refine wo_v (v_move rfl) ?_
    refine wo_w (w_buildSlice1 tyU_23 tyN_3 tyZ_3 rfl rfl rfl rfl fun b8 => ?_)
    refine wo_w (w_append (x := b7) tyU_23 tyU_23 (.inl ⟨_, rfl⟩) tyB_3 tyN_3 tyZ_3 rfl (by decide) rfl rfl ((src_blk (vs := [keyV n]) (new := [keyV n]) rfl (Nat.le_refl _))) rfl (by repeat constructor) (by (try dsimp only); omega) (by (try dsimp only); omega) rfl fun b9 hb9 => ?_)
    refine wo_v (v_assign rfl) ?_
    refine wo_nil ?_
    refine wk_seq ?_
    refine wk_region ?_
    refine wo_v (v_move rfl) ?_
    refine wo_v (v_move rfl) ?_
    refine wo_v (v_move rfl) ?_
    refine wo_v (v_sliceLoS (x := x) (l := i) tyU_23 tyN_3 rfl rfl (by omega)) ?_
    refine wo_w (w_append (x := b9) tyU_23 tyU_23 (.inl ⟨_, rfl⟩) tyB_3 tyN_3 tyZ_3 rfl (by decide) rfl rfl ((src_ro (x := x.sl i x.n 1))) (allOne_keys _) (by repeat constructor) (by (try dsimp only); omega) (by (try dsimp only); omega) (by rw [List.length_map, List.length_drop, SV.sl_n]; omega) fun b10 hb10 => ?_)
    refine wo_v (v_assign rfl) ?_
    refine wo_nil ?_
    refine wk_ret Tryz.func66 rfl rfl (res_tmp rfl res_nil) fun W h => ?_
    have hcells : ((([] ++ (l.take i).map keyV) ++ [keyV n]) ++ (l.drop i).map keyV) = (l.take i ++ n :: l.drop i).map keyV := by simp
    have hA := Ent.sat (ent_take (p := osl b10 ((([] ++ (l.take i).map keyV) ++ [keyV n]) ++ (l.drop i).map keyV) 1 3) (t := by repeat constructor) (Ent.refl _)) h
    rw [hcells] at hA
    exact ⟨(b10, i), rfl, ⟨hi, by dsimp only; rw [hb10, hb9, hb7]; show 0 + (x.sl 0 i 1).n + 1 + (x.sl i x.n 1).n = _; rw [SV.sl_n, SV.sl_n]; omega⟩, Ent.sat (by refine ent_take ?_; exact ent_tail) (up_freeze _ _ hA)⟩

end Go.Proofs.YtealmijbkebipaaGreatDoor
