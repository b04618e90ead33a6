/- The library: keys of a map, sorted rows of at most one number. Layer 13 (store): Parts, where at most one page is fresh, dying, dead. Layer 4 (flash): Past: rows of bytes, whichever. -/
import Derived.Test.YtealmijbkebipaaGreatDoorSwAQ
import Derived.Test.YtealmijbkebipaaGreatDoorSwAK
namespace Go.Proofs.YtealmijbkebipaaGreatDoor
open Go
attribute [local irreducible] own pe nf

theorem s_maps_Keys {m : Value} : FnSpec Tryz.prog 74 #[m] []
    (fun b : Nat => .func (.func 96) #[] #[.pointer (some ⟨b, 0, none⟩)]) (fun _ => True) (fun b R => blk b (cellsL m) 71 :: R) := by
  refine fn_spec Tryz.func74 rfl rfl rfl rfl fun G R => ?_
  dsimp only [List.append_eq, List.cons_append, List.nil_append]
  refine wk_seq ?_
  refine wk_region ?_
  refine wo_w (w_box rfl rfl fun b1 => ?_)
  refine wo_v (v_assign rfl) ?_
  refine wo_nil ?_
  refine wk_seq ?_
  refine wk_region ?_
  refine wo_v (v_makeFunc rfl rfl) ?_
  refine wo_v (v_assign rfl) ?_
  refine wo_nil ?_
  refine wk_ret Tryz.func74 rfl rfl (res_tmp rfl res_nil) fun W h => ?_
  exact ⟨_, rfl, trivial, h⟩

/-- These are the keys, in some order. -/
structure SameK (l done : List Int) : Prop where
  sub : ∀ k ∈ done, k ∈ l
  all : ∀ k ∈ l, k ∈ done
  nodup : done.Nodup
theorem s_maps_Keys_1 {cb m : Nat} {l : List Int} {T : TypeId} {yv : Value} (J : List Int → HP)
    (hy : ∀ seen k, k ∈ l → k ∉ seen → (∀ j ∈ seen, j ∈ l) → FvSpec Tryz.prog yv #[.int .i64 k] [J seen] (fun _ : Unit => .bool true) (fun _ => True) (fun _ R => J (seen ++ [k]) :: R)) :
    FnSpec Tryz.prog 96 #[yv, .pointer (some ⟨cb, 0, none⟩)] [J [], blk cb [.map (some m)] T, mapH m (onM l)]
    (fun _ : List Int => .tuple #[]) (fun done => SameK l done) (fun done R => J done :: mapH m (onM l) :: R) := by
  refine fn_spec Tryz.func96 rfl rfl rfl rfl fun G R => ?_
  dsimp only [List.append_eq, List.cons_append, List.nil_append]
  refine wk_seq ?_
  refine wk_region ?_
  refine wo_v (v_load tyS_71 rfl rfl) ?_
  refine wo_w (w_range tyM_71 rfl (by repeat constructor) fun b1 => ?_)
  refine wo_nil ?_
  refine wk_block ?_
  refine wk_loop (fun D : List Int => D.Nodup ∧ ∀ k ∈ D, k ∈ l) (fun _ => [(0, yv), (5, .pointer (some ⟨b1, 0, none⟩))]) (fun D => iterH b1 m (onM l) D :: J D :: R) (fun D => leftN l D) [] ⟨List.nodup_nil, fun k h => by cases h⟩ ⟨rfl, rfl, trivial⟩ (by refine ent_take ?_; refine ent_take ?_; exact ent_tail) fun D hI next => ?_
  refine wk_seq ?_
  refine wk_region ?_
  refine wo_w (w_next rfl (by repeat constructor) (fun hall => ?_) (fun k v hkv hnew => ?_))
  · refine wo_v (v_extract rfl rfl) ?_
    refine wo_nil ?_
    refine wk_seq ?_
    refine wk_condF rfl ?_
    refine wk_exit rfl ?_
    refine wk_end Tryz.func96 rfl rfl res_nil fun W h => ?_
    refine ⟨D, rfl, ⟨hI.2, fun k hk => hall k (.bool true) (List.mem_map.2 ⟨k, hk, rfl⟩), hI.1⟩, Ent.sat ?_ h⟩
    refine Ent.trans (ent_iter (Ent.refl _)) ?_
    exact (by refine ent_take ?_; refine ent_take ?_; exact ent_tail)
  · refine wo_v (v_extract rfl rfl) ?_
    refine wo_nil ?_
    refine wk_seq ?_
    refine wk_condT rfl ?_
    have hk : k ∈ l := by
      obtain ⟨j, hj, he⟩ := List.mem_map.1 hkv
      obtain ⟨rfl, _⟩ := Prod.mk.inj he; exact hj
    refine wk_skip ?_
    refine wk_block ?_
    refine wk_seq ?_
    refine wk_region ?_
    refine wo_v (v_entry rfl hkv) ?_
    refine wo_v (v_extract rfl rfl) ?_
    refine wo_v (v_assign rfl) ?_
    refine wo_nil ?_
    refine wk_seq ?_
    refine wk_region ?_
    refine wo_v (v_move rfl) ?_
    refine wo_v (v_move rfl) ?_
    refine wo_w (w_callv rfl (hy D k hk hnew hI.2) rfl (by repeat constructor) ?_)
    rintro ⟨⟩ -
    refine wo_v (v_not rfl) ?_
    refine wo_nil ?_
    refine wk_condF rfl ?_
    refine wk_skip ?_
    refine wk_inBlock ?_
    refine (next (D ++ [k]) ⟨List.nodup_append.2 ⟨hI.1, List.nodup_cons.2 ⟨List.not_mem_nil, List.nodup_nil⟩, fun a ha b hb => by simp at hb; subst hb; exact fun e => hnew (e ▸ ha)⟩, fun j hj => ?_⟩ (leftN_lt hk hnew)).use ⟨rfl, rfl, trivial⟩ (by refine ent_take ?_; refine ent_take ?_; exact ent_tail)
    rcases List.mem_append.1 hj with hj | hj
    · exact hI.2 j hj
    · simp at hj; rw [hj]; exact hk

theorem one_seen {l seen : List Int} {k : Int} (hl : l.length ≤ 1) (hk : k ∈ l) (hn : k ∉ seen) (hs : ∀ j ∈ seen, j ∈ l) : seen = [] := by
  match l, hl with
  | [], _ => cases hk
  | [a], _ =>
    simp at hk
    cases seen with
    | nil => rfl
    | cons b s =>
      have := hs b List.mem_cons_self
      simp at this
      exact absurd (by rw [this, ← hk]; exact List.mem_cons_self) hn
theorem one_same {l done : List Int} (hl : l.length ≤ 1) (h : SameK l done) : done = l := by
  match l, hl with
  | [], _ =>
    cases done with
    | nil => rfl
    | cons a d => exact absurd (h.sub a List.mem_cons_self) List.not_mem_nil
  | [a], _ =>
    cases done with
    | nil => exact absurd (h.all a List.mem_cons_self) List.not_mem_nil
    | cons b d =>
      have hb := h.sub b List.mem_cons_self
      simp at hb; subst hb
      have hd := h.nodup
      rw [List.nodup_cons] at hd
      cases d with
      | nil => rfl
      | cons c d =>
        have hc := h.sub c (List.mem_cons_of_mem _ List.mem_cons_self)
        simp at hc; subst hc
        exact absurd List.mem_cons_self hd.1
def apJ (LP : LoopState → Option Code → HP) (b1 : Nat) (seen : List Int) : HP := nf (fun x : SV => x.n = seen.length) fun x => [LP .ready none, blk b1 [x.v] 23, osl x (seen.map keyV) 1 3]
theorem s_slices_AppendSeq {cb m : Nat} {l : List Int} {T : TypeId} (hl : l.length ≤ 1) : FnSpec Tryz.prog 115 #[nilSV.v, .func (.func 96) #[] #[.pointer (some ⟨cb, 0, none⟩)]] [blk cb [.map (some m)] T, mapH m (onM l)]
    (fun x : SV => x.v) (fun x => x.n = l.length) (fun x R => osl x (l.map keyV) 1 3 :: mapH m (onM l) :: R) := by
  refine fn_spec Tryz.func115 rfl rfl rfl rfl fun G R => ?_
  dsimp only [List.append_eq, List.cons_append, List.nil_append]
  refine wk_seq ?_
  refine wk_region ?_
  refine wo_w (w_box1 rfl rfl fun b1 => ?_)
  refine wo_v (v_assign rfl) ?_
  refine wo_nil ?_
  refine wk_seq ?_
  refine wk_seq ?_
  refine wk_region ?_
  refine wo_v (v_move rfl) ?_
  refine wo_nil ?_
  refine wk_block ?_
  refine Wk.use (E := [(2, .pointer (some ⟨b1, 0, none⟩)), (6, .func (.func 96) #[] #[.pointer (some ⟨cb, 0, none⟩)])]) (M := defH [] :: osl nilSV [] 1 3 :: _) ?_ ⟨rfl, rfl, trivial⟩ (ent_defNil (ent_oslNil (Ent.refl _)))
  refine wk_rangeFunc (rs := []) rfl rfl (by repeat constructor) fun lp r => ?_
  refine callw_loop fun LP hLP => ?_
  have hy : ∀ seen k, k ∈ l → k ∉ seen → (∀ j ∈ seen, j ∈ l) → FvSpec Tryz.prog (.func (.yield lp) #[] #[]) #[.int .i64 k] [apJ LP b1 seen] (fun _ : Unit => .bool true) (fun _ => True) (fun _ R => apJ LP b1 (seen ++ [k]) :: R) := by
    intro seen k hk hn hs
    obtain rfl := one_seen hl hk hn hs
    refine FvSpec.nf fun x hx => ?_
    have hxn : x.n = 0 := hx
    subst hLP
    refine fv_yield (args := [_]) rfl rfl fun G R => ?_
    dsimp only [List.append_eq, List.cons_append, List.nil_append]
    refine wk_region ?_
    refine wo_v (v_assign rfl) ?_
    refine wo_nil ?_
    refine wk_beginRound rfl (by repeat constructor) ?_
    refine wk_block ?_
    refine wk_region ?_
    refine wo_v (v_load tyS_23 rfl rfl) ?_
    refine wo_v (v_move rfl) ?_
    refine wo_w (w_buildSlice1 tyU_23 tyN_3 tyZ_3 rfl rfl rfl rfl fun b2 => ?_)
    refine wo_w (w_append tyU_23 tyU_23 (.inl ⟨_, rfl⟩) tyB_3 tyN_3 tyZ_3 rfl (by decide) rfl rfl (src_blk (vs := [keyV k]) rfl (Nat.le_refl _)) rfl (by repeat constructor) (by (try dsimp only); omega) (by (try dsimp only); omega) rfl fun b3 hb3 => ?_)
    refine wo_w0 (w_storeN1 tyN_23 rfl rfl rfl (by repeat constructor) (by repeat constructor) ?_)
    refine wo_nil ?_
    refine wk_inBlock ?_
    refine wk_roundEnd rfl (by repeat constructor) fun W h => ?_
    refine ⟨(), rfl, trivial, ?_⟩
    unfold apJ
    rw [show List.map keyV [k] = List.map keyV [] ++ [keyV k] from rfl]
    refine Ent.sat ?_ h
    refine ent_nf b3 (by rw [hb3, hxn]; rfl) ?_
    exact ent_tail
  refine callw_ent (M := apJ LP b1 [] :: _) (ent_nf nilSV rfl (Ent.refl _)) ?_
  refine callw_spec (FnSpec.fv (first := #[]) (args := #[_]) (cap := #[_]) (s_maps_Keys_1 (cb := cb) (m := m) (l := l) (T := T) (apJ LP b1) hy)) (by repeat constructor) fun done hdone => ?_
  obtain rfl := one_same hl hdone
  refine wk_nf fun z hz => ?_
  subst hLP
  dsimp only [List.append_eq, List.cons_append, List.nil_append]
  refine wk_endRange (by repeat constructor) (by simp) ?_
  dsimp only [Option.map, Option.toList, List.nil_append]
  refine wk_inBlock ?_
  refine wk_seq ?_
  refine wk_region ?_
  refine wo_v (v_load tyS_23 rfl rfl) ?_
  refine wo_v (v_assign rfl) ?_
  refine wo_nil ?_
  refine wk_retD Tryz.func115 rfl rfl (by repeat constructor) (res_tmp rfl res_nil) fun W h => ?_
  exact ⟨z, rfl, hz, Ent.sat (by refine ent_take ?_; refine ent_take ?_; exact ent_tail) h⟩

theorem s_slices_Collect {cb m : Nat} {l : List Int} {T : TypeId} (hl : l.length ≤ 1) : FnSpec Tryz.prog 94 #[.func (.func 96) #[] #[.pointer (some ⟨cb, 0, none⟩)]] [blk cb [.map (some m)] T, mapH m (onM l)]
    (fun x : SV => x.v) (fun x => x.n = l.length) (fun x R => osl x (l.map keyV) 1 3 :: mapH m (onM l) :: R) := by
  refine fn_spec Tryz.func94 rfl rfl rfl rfl fun G R => ?_
  dsimp only [List.append_eq, List.cons_append, List.nil_append]
  refine wk_seq ?_
  refine wk_region ?_
  refine wo_v (v_assign rfl) ?_
  refine wo_nil ?_
  refine wk_seq ?_
  refine wk_region ?_
  refine wo_v (v_move rfl) ?_
  refine wo_w (w_call (s_slices_AppendSeq (cb := cb) (m := m) (l := l) (T := T) hl) rfl (by repeat constructor) ?_)
  rintro x hx
  refine wo_v (v_assign rfl) ?_
  refine wo_nil ?_
  refine wk_ret Tryz.func94 rfl rfl (res_tmp rfl res_nil) fun W h => ?_
  exact ⟨x, rfl, hx, Ent.sat (by refine ent_take ?_; refine ent_take ?_; exact ent_tail) h⟩

theorem s_math_bits_Len64 {x : Nat} (hx : x ≤ 1) : FnSpec Tryz.prog 132 #[.int .u64 x] []
    (fun y : Int => .int .i64 y) (fun _ => True) (fun _ R => R) := by
  refine fn_spec Tryz.func132 rfl rfl rfl rfl fun G R => ?_
  dsimp only [List.append_eq, List.cons_append, List.nil_append]
  rcases (by omega : x = 0 ∨ x = 1) with rfl | rfl
  · skip
    refine wk_seq ?_
    refine wk_region ?_
    refine wo_v (v_assign rfl) ?_
    refine wo_nil ?_
    refine wk_seq ?_
    refine wk_seq ?_
    refine wk_region ?_
    refine wo_v (v_move rfl) ?_
    refine wo_v (v_geq rfl rfl) ?_
    refine wo_nil ?_
    refine wk_if rfl (fun hb => ?_) (fun hb => ?_)
    · exact absurd hb (by decide)
    · refine wk_skip ?_
      refine wk_seq ?_
      refine wk_seq ?_
      refine wk_region ?_
      refine wo_v (v_move rfl) ?_
      refine wo_v (v_geq rfl rfl) ?_
      refine wo_nil ?_
      refine wk_if rfl (fun hb => ?_) (fun hb => ?_)
      · exact absurd hb (by decide)
      · refine wk_skip ?_
        refine wk_seq ?_
        refine wk_seq ?_
        refine wk_region ?_
        refine wo_v (v_move rfl) ?_
        refine wo_v (v_geq rfl rfl) ?_
        refine wo_nil ?_
        refine wk_if rfl (fun hb => ?_) (fun hb => ?_)
        · exact absurd hb (by decide)
        · refine wk_skip ?_
          refine wk_seq ?_
          refine wk_region ?_
          refine wo_v (v_move rfl) ?_
          refine wo_v (v_move rfl) ?_
          refine wo_v (v_convN tyU_5 tyU_33 rfl wrapN_u8) ?_
          refine wo_v (v_indexS tyU_9 rfl rfl (by omega) rfl) ?_
          refine wo_v (v_convI tyU_3 tyU_5 rfl (by decide) (by decide)) ?_
          refine wo_v (v_addI rfl rfl (by decide) (by decide)) ?_
          refine wo_v (v_assign rfl) ?_
          refine wo_nil ?_
          refine wk_ret Tryz.func132 rfl rfl (res_tmp rfl res_nil) fun W h => ?_
          exact ⟨_, rfl, trivial, h⟩
  · skip
    refine wk_seq ?_
    refine wk_region ?_
    refine wo_v (v_assign rfl) ?_
    refine wo_nil ?_
    refine wk_seq ?_
    refine wk_seq ?_
    refine wk_region ?_
    refine wo_v (v_move rfl) ?_
    refine wo_v (v_geq rfl rfl) ?_
    refine wo_nil ?_
    refine wk_if rfl (fun hb => ?_) (fun hb => ?_)
    · exact absurd hb (by decide)
    · refine wk_skip ?_
      refine wk_seq ?_
      refine wk_seq ?_
      refine wk_region ?_
      refine wo_v (v_move rfl) ?_
      refine wo_v (v_geq rfl rfl) ?_
      refine wo_nil ?_
      refine wk_if rfl (fun hb => ?_) (fun hb => ?_)
      · exact absurd hb (by decide)
      · refine wk_skip ?_
        refine wk_seq ?_
        refine wk_seq ?_
        refine wk_region ?_
        refine wo_v (v_move rfl) ?_
        refine wo_v (v_geq rfl rfl) ?_
        refine wo_nil ?_
        refine wk_if rfl (fun hb => ?_) (fun hb => ?_)
        · exact absurd hb (by decide)
        · refine wk_skip ?_
          refine wk_seq ?_
          refine wk_region ?_
          refine wo_v (v_move rfl) ?_
          refine wo_v (v_move rfl) ?_
          refine wo_v (v_convN tyU_5 tyU_33 rfl wrapN_u8) ?_
          refine wo_v (v_indexS tyU_9 rfl rfl (by omega) rfl) ?_
          refine wo_v (v_convI tyU_3 tyU_5 rfl (by decide) (by decide)) ?_
          refine wo_v (v_addI rfl rfl (by decide) (by decide)) ?_
          refine wo_v (v_assign rfl) ?_
          refine wo_nil ?_
          refine wk_ret Tryz.func132 rfl rfl (res_tmp rfl res_nil) fun W h => ?_
          exact ⟨_, rfl, trivial, h⟩
theorem s_math_bits_Len {x : Nat} (hx : x ≤ 1) : FnSpec Tryz.prog 117 #[.int .u64 x] []
    (fun y : Int => .int .i64 y) (fun _ => True) (fun _ R => R) := by
  refine fn_spec Tryz.func117 rfl rfl rfl rfl fun G R => ?_
  dsimp only [List.append_eq, List.cons_append, List.nil_append]
  refine wk_seq ?_
  refine wk_region ?_
  refine wo_v (v_assign rfl) ?_
  refine wo_nil ?_
  refine wk_seq ?_
  refine wk_condF rfl ?_
  refine wk_skip ?_
  refine wk_seq ?_
  refine wk_region ?_
  refine wo_v (v_move rfl) ?_
  refine wo_w (w_call (s_math_bits_Len64 hx) rfl (by repeat constructor) ?_)
  rintro y -
  refine wo_v (v_assign rfl) ?_
  refine wo_nil ?_
  refine wk_ret Tryz.func117 rfl rfl (res_tmp rfl res_nil) fun W h => ?_
  exact ⟨y, rfl, trivial, h⟩
theorem s_slices_insertionSortOrdered {x : SV} {n : Nat} (hn : n ≤ 1) : FnSpec Tryz.prog 122 #[x.v, .int .i64 0, .int .i64 n] []
    (fun _ : Unit => .tuple #[]) (fun _ => True) (fun _ R => R) := by
  refine fn_spec Tryz.func122 rfl rfl rfl rfl fun G R => ?_
  dsimp only [List.append_eq, List.cons_append, List.nil_append]
  refine wk_seq ?_
  refine wk_region ?_
  refine wo_v (v_move rfl) ?_
  refine wo_v (v_addI rfl rfl) ?_
  refine wo_v (v_assign rfl) ?_
  refine wo_nil ?_
  refine wk_block ?_
  refine wk_loop (fun _ : Unit => True) (fun _ => [(6, .int .i64 (0 + 1)), (2, .int .i64 n)]) (fun _ => R) (fun _ => 0) () trivial ⟨rfl, rfl, trivial⟩ (Ent.refl _) fun _ _ next => ?_
  refine wk_seq ?_
  refine wk_seq ?_
  refine wk_region ?_
  refine wo_v (v_move rfl) ?_
  refine wo_v (v_move rfl) ?_
  refine wo_v (v_lss rfl rfl) ?_
  refine wo_nil ?_
  refine wk_if rfl (fun hb => ?_) (fun hb => ?_)
  · exact absurd hb (by omega)
  · refine wk_exit rfl ?_
    refine wk_end Tryz.func122 rfl rfl res_nil fun W h => ?_
    exact ⟨(), rfl, trivial, h⟩
theorem s_slices_pdqsortOrdered {x : SV} {n : Nat} {y : Int} (hn : n ≤ 1) : FnSpec Tryz.prog 116 #[x.v, .int .i64 0, .int .i64 n, .int .i64 y] []
    (fun _ : Unit => .tuple #[]) (fun _ => True) (fun _ R => R) := by
  refine fn_spec Tryz.func116 rfl rfl rfl rfl fun G R => ?_
  dsimp only [List.append_eq, List.cons_append, List.nil_append]
  refine wk_seq ?_
  refine wk_region ?_
  refine wo_v (v_assign rfl) ?_
  refine wo_nil ?_
  refine wk_seq ?_
  refine wk_region ?_
  refine wo_v (v_assign rfl) ?_
  refine wo_nil ?_
  refine wk_block ?_
  refine wk_loop (fun _ : Unit => True) (fun _ => [(0, x.v), (1, .int .i64 0), (2, .int .i64 n)]) (fun _ => R) (fun _ => 0) () trivial ⟨rfl, rfl, rfl, trivial⟩ (Ent.refl _) fun _ _ next => ?_
  refine wk_block ?_
  refine wk_seq ?_
  refine wk_region ?_
  refine wo_v (v_move rfl) ?_
  refine wo_v (v_move rfl) ?_
  refine wo_v (v_subI rfl rfl) ?_
  refine wo_v (v_assign rfl) ?_
  refine wo_nil ?_
  refine wk_seq ?_
  refine wk_seq ?_
  refine wk_region ?_
  refine wo_v (v_move rfl) ?_
  refine wo_v (v_leq rfl rfl) ?_
  refine wo_nil ?_
  refine wk_if rfl (fun hb => ?_) (fun hb => ?_)
  · refine wk_seq ?_
    refine wk_region ?_
    refine wo_v (v_move rfl) ?_
    refine wo_v (v_move rfl) ?_
    refine wo_v (v_move rfl) ?_
    refine wo_w (w_call (s_slices_insertionSortOrdered hn) rfl (by repeat constructor) ?_)
    rintro ⟨⟩ -
    refine wo_nil ?_
    refine wk_ret Tryz.func116 rfl rfl res_nil fun W h => ?_
    exact ⟨(), rfl, trivial, h⟩
  · exact absurd (by omega) hb
theorem s_slices_Sort {x : SV} (hn : x.n ≤ 1) : FnSpec Tryz.prog 95 #[x.v] []
    (fun _ : Unit => .tuple #[]) (fun _ => True) (fun _ R => R) := by
  refine fn_spec Tryz.func95 rfl rfl rfl rfl fun G R => ?_
  dsimp only [List.append_eq, List.cons_append, List.nil_append]
  refine wk_seq ?_
  refine wk_region ?_
  refine wo_v (v_move rfl) ?_
  refine wo_v (v_len tyU_23 rfl) ?_
  refine wo_v (v_assign rfl) ?_
  refine wo_nil ?_
  refine wk_region ?_
  refine wo_v (v_move rfl) ?_
  refine wo_v (v_move rfl) ?_
  refine wo_v (v_move rfl) ?_
  refine wo_v (v_convN tyU_199 tyU_3 rfl (wrapN_u64 (by omega))) ?_
  refine wo_w (w_call (s_math_bits_Len (x := x.n) hn) rfl (by repeat constructor) ?_)
  rintro y -
  refine wo_w (w_call (s_slices_pdqsortOrdered (x := x) (n := x.n) (y := y) hn) rfl (by repeat constructor) ?_)
  rintro ⟨⟩ -
  refine wo_nil ?_
  refine wk_end Tryz.func95 rfl rfl res_nil fun W h => ?_
  exact ⟨(), rfl, trivial, h⟩
theorem s_slices_Sorted {cb m : Nat} {l : List Int} {T : TypeId} (hl : l.length ≤ 1) : FnSpec Tryz.prog 73 #[.func (.func 96) #[] #[.pointer (some ⟨cb, 0, none⟩)]] [blk cb [.map (some m)] T, mapH m (onM l)]
    (fun x : SV => x.v) (fun x => x.n = l.length) (fun x R => osl x (l.map keyV) 1 3 :: mapH m (onM l) :: R) := by
  refine fn_spec Tryz.func73 rfl rfl rfl rfl fun G R => ?_
  dsimp only [List.append_eq, List.cons_append, List.nil_append]
  refine wk_seq ?_
  refine wk_region ?_
  refine wo_v (v_assign rfl) ?_
  refine wo_nil ?_
  refine wk_seq ?_
  refine wk_region ?_
  refine wo_v (v_move rfl) ?_
  refine wo_w (w_call (s_slices_Collect (cb := cb) (m := m) (l := l) (T := T) hl) rfl (by repeat constructor) ?_)
  rintro x hx
  refine wo_v (v_assign rfl) ?_
  refine wo_nil ?_
  refine wk_seq ?_
  refine wk_region ?_
  refine wo_v (v_move rfl) ?_
  refine wo_w (w_call (s_slices_Sort (x := x) (by omega)) rfl (by repeat constructor) ?_)
  rintro ⟨⟩ -
  refine wo_nil ?_
  refine wk_seq ?_
  refine wk_region ?_
  refine wo_v (v_move rfl) ?_
  refine wo_v (v_assign rfl) ?_
  refine wo_nil ?_
  refine wk_ret Tryz.func73 rfl rfl (res_tmp rfl res_nil) fun W h => ?_
  exact ⟨x, rfl, hx, Ent.sat (by refine ent_take ?_; refine ent_take ?_; exact ent_tail) h⟩
theorem s_store_Store_Parts_1 {m : Nat} {l : List Int} (hl : l.length ≤ 1) : FnSpec Tryz.prog 72 #[.map (some m)] [mapH m (onM l)]
    (fun x : SV => x.v) (fun x => x.n = l.length) (fun x R => osl x (l.map keyV) 1 3 :: mapH m (onM l) :: R) := by
  refine fn_spec Tryz.func72 rfl rfl rfl rfl fun G R => ?_
  dsimp only [List.append_eq, List.cons_append, List.nil_append]
  refine wk_seq ?_
  refine wk_region ?_
  refine wo_v (v_assign rfl) ?_
  refine wo_nil ?_
  refine wk_seq ?_
  refine wk_region ?_
  refine wo_v (v_move rfl) ?_
  refine wo_w (w_call (s_maps_Keys (m := .map (some m))) rfl (by repeat constructor) ?_)
  rintro cb -
  refine wo_w (w_call (s_slices_Sorted (cb := cb) (m := m) (l := l) (T := 71) hl) rfl (by repeat constructor) ?_)
  rintro x hx
  refine wo_v (v_assign rfl) ?_
  refine wo_nil ?_
  refine wk_ret Tryz.func72 rfl rfl (res_tmp rfl res_nil) fun W h => ?_
  exact ⟨x, rfl, hx, Ent.sat (by refine ent_take ?_; refine ent_take ?_; exact ent_tail) h⟩

end Go.Proofs.YtealmijbkebipaaGreatDoor

namespace Go.Proofs.YtealmijbkebipaaGreatDoor
open Go
attribute [local irreducible] own pe nf

theorem one_len {l : List Int} {f : Int → Bool} (hn : l.Nodup) (hf : ∀ k, f k = decide (k ∈ l)) (h1 : ∀ a b, f a = true → f b = true → a = b) : l.length ≤ 1 := by
  match l with
  | [] => exact Nat.zero_le _
  | [a] => exact Nat.le_refl _
  | a :: b :: l =>
    have h2 := h1 a b (by rw [hf]; simp) (by rw [hf]; simp)
    rw [List.nodup_cons] at hn
    exact absurd (by rw [h2]; exact List.mem_cons_self) hn.1

structure PartsX where
  xt : SV
  xf : SV
  xy : SV
  xd : SV
  LY : List Int
theorem s_store_Store_Parts {s d : Nat} {p : PlanA} {S : StA} (hf : ∀ a b, S.fresh a = true → S.fresh b = true → a = b) (hy : ∀ a b, S.dying a = true → S.dying b = true → a = b) (hd : ∀ a b, S.dead a = true → S.dead b = true → a = b) :
    FnSpec Tryz.prog 39 #[.pointer (some ⟨s, 0, none⟩)] [StH s d p S]
    (fun x : PartsX => .agg (List.toArray [x.xt.v, x.xf.v, x.xy.v, x.xd.v])) (fun x => x.xt.n = S.taken.list.length ∧ x.xy.n = x.LY.length ∧ x.LY.length ≤ 1 ∧ ∀ k, S.dying k = decide (k ∈ x.LY)) (fun x R => osl x.xy (x.LY.map keyV) 1 3 :: StH s d p S :: R) := by
  refine fn_spec Tryz.func39 rfl rfl rfl rfl fun G R => ?_
  refine wk_nf fun X hw => ?_
  dsimp only [List.append_eq, List.cons_append, List.nil_append, stL]
  refine wk_mapN (r := X.mf) (l := onM X.LF) (by repeat constructor) fun n1 => ?_
  refine wk_mapN (r := X.my) (l := onM X.LY) (by repeat constructor) fun n2 => ?_
  refine wk_mapN (r := X.md) (l := onM X.LD) (by repeat constructor) fun n3 => ?_
  rw [onM_keys] at n1 n2 n3
  have l1 := one_len n1 hw.fr hf
  have l2 := one_len n2 hw.dy hy
  have l3 := one_len n3 hw.de hd
  refine wk_seq ?_
  refine wk_region ?_
  refine wo_w (w_allocA tyZ_107 fun b1 => ?_)
  refine wo_nil ?_
  refine wk_seq ?_
  refine wk_seq ?_
  refine wk_region ?_
  refine wo_v (v_move rfl) ?_
  refine wo_v (v_eqSome tyU_29 rfl rfl) ?_
  refine wo_nil ?_
  refine wk_condF rfl ?_
  refine wk_skip ?_
  refine wk_seq ?_
  refine wk_region ?_
  refine wo_v (v_assign rfl) ?_
  refine wo_nil ?_
  refine wk_seq ?_
  refine wk_draw (n := 25) (pend := 33554431) ⟨23, fun w => Sat G w [stB s d p S X]⟩ mixed (by kernel_rfl) rfl (fun w s_ => Ent.sat (by refine ent_take ?_; exact ent_nil) s_) rfl ?_
  refine wd_a 0 rfl (v_move rfl) ?_
  refine wd_a 1 rfl (v_nilCheck rfl) ?_
  refine wd_a 2 rfl (v_fieldAddr tyF_74_6 rfl) ?_
  refine wd_a 3 rfl (v_load tyS_70 rfl rfl) ?_
  refine wd_p 5 rfl (v_move rfl) ?_
  refine wd_p 6 rfl (v_move rfl) ?_
  refine wd_p 7 rfl (v_nilCheck rfl) ?_
  refine wd_p 8 rfl (v_fieldAddr tyF_74_7 rfl) ?_
  refine wd_p 11 rfl (v_move rfl) ?_
  refine wd_p 12 rfl (v_move rfl) ?_
  refine wd_p 13 rfl (v_nilCheck rfl) ?_
  refine wd_p 14 rfl (v_fieldAddr tyF_74_8 rfl) ?_
  refine wd_p 17 rfl (v_move rfl) ?_
  refine wd_p 18 rfl (v_move rfl) ?_
  refine wd_p 19 rfl (v_nilCheck rfl) ?_
  refine wd_p 20 rfl (v_fieldAddr tyF_74_9 rfl) ?_
  refine wd_fr 9 rfl (fun w h => h) (v_load tyS_71 rfl rfl) ?_
  refine wd_fr 15 rfl (fun w h => h) (v_load tyS_71 rfl rfl) ?_
  refine wd_fr 21 rfl (fun w h => h) (v_load tyS_71 rfl rfl) ?_
  refine wd_l 4 rfl (w_call (s_bits_Set_All (st := S.taken)) rfl (by repeat constructor) ?_)
  rintro xt hxt
  refine ⟨fun w s_ _ => Ent.sat (by refine ent_take ?_; exact ent_nil) s_, ?_⟩
  refine wd_l 10 rfl (w_callv rfl (FnSpec.fv (first := #[]) (args := #[_]) (cap := #[]) (s_store_Store_Parts_1 (m := X.mf) (l := X.LF) l1)) rfl (by repeat constructor) ?_)
  rintro xf hxf
  refine ⟨fun w s_ _ => Ent.sat (by refine ent_take ?_; exact ent_nil) s_, ?_⟩
  refine wd_l 16 rfl (w_callv rfl (FnSpec.fv (first := #[]) (args := #[_]) (cap := #[]) (s_store_Store_Parts_1 (m := X.my) (l := X.LY) l2)) rfl (by repeat constructor) ?_)
  rintro xy hxy
  refine ⟨fun w s_ _ => Ent.sat (by refine ent_take ?_; exact ent_nil) s_, ?_⟩
  refine wd_l 22 rfl (w_callv rfl (FnSpec.fv (first := #[]) (args := #[_]) (cap := #[]) (s_store_Store_Parts_1 (m := X.md) (l := X.LD) l3)) rfl (by repeat constructor) ?_)
  rintro xd hxd
  refine ⟨fun w s_ _ => Ent.sat (by refine ent_take ?_; exact ent_nil) s_, ?_⟩
  refine wd_al 23 rfl (v_buildN tyBu_107 rfl (by repeat constructor)) ?_
  refine wd_l0 24 rfl (w_storeN tyN_107 rfl rfl rfl rfl (by repeat constructor) (by repeat constructor) ?_)
  refine ⟨fun w s_ => Wat.gone (by decide), ?_⟩
  refine wd_done ?_
  refine wk_ret Tryz.func39 rfl rfl (res_cellA tyA_107 rfl (by repeat constructor) rfl res_nil) fun W h => ?_
  exact ⟨⟨xt, xf, xy, xd, X.LY⟩, rfl, ⟨hxt, hxy, l2, hw.dy⟩, Ent.sat (by refine ent_take ?_; refine ent_nf X hw ?_; exact ent_tail) h⟩

end Go.Proofs.YtealmijbkebipaaGreatDoor

namespace Go.Proofs.YtealmijbkebipaaGreatDoor
open Go

theorem takeL_mid : ∀ (l1 : List HP) (p : HP) (l2 L : List HP), TakeL (l1 ++ p :: l2) (p :: (l1 ++ (l2 ++ L))) L
  | [], _, l2, L => .cons .here (takeL_pre l2 L)
  | _ :: l1, p, l2, L => .cons (.there .here) (takeL_mid l1 p l2 L)
theorem ent_nfL_back {p : HP} {l1 l2 L : List HP} : Ent (p :: nfL (l1 ++ l2) :: L) (nfL (l1 ++ p :: l2) :: L) := by
  refine (Ent.take (.there .here)).trans (Ent.open_ fun _ _ => ?_)
  refine (Ent.take (take_mid (l1 ++ l2) p L)).trans ?_
  rw [List.append_assoc]
  exact Ent.close () trivial (takeL_mid l1 p l2 L)
theorem past_look {P Q : List PastE} (hp : Q.Perm P) (k : Int) {n size : Nat} (hP : ∀ e ∈ P, e.2.1.n = e.2.2.length ∧ e.2.2.length ≤ n ∧ ∀ b ∈ e.2.2, b.2.length = size) :
    ∃ (x0 : SV) (l0 : List (SV × List UInt8)) (Qr : List PastE), (mget (P.map fun e => (e.1, e.2.1.v)) k).getD (.slice none 0 0) = x0.v ∧ (∀ L, Ent (nfL (Q.map pastF) :: L) (osl x0 (l0.map (·.1.v)) 1 45 :: nfL (Qr.map pastF) :: L)) ∧ (∀ L, Ent (osl x0 (l0.map (·.1.v)) 1 45 :: nfL (Qr.map pastF) :: L) (nfL (Q.map pastF) :: L)) ∧
      x0.n = l0.length ∧ l0.length ≤ n ∧ (∀ b ∈ l0, b.2.length = size) ∧ (∀ b ∈ l0, ∃ e ∈ Q, b ∈ e.2.2) := by
  rw [mget_map P (fun p => p.1.v) k]
  cases h : gget P k with
  | none => exact ⟨nilSV, [], Q, rfl, fun L => ent_oslNil (Ent.refl _), fun L => Ent.drop, rfl, Nat.zero_le _, (fun b hb => by cases hb), (fun b hb => by cases hb)⟩
  | some b0 =>
    obtain ⟨x0, l0⟩ := b0
    have hm := gget_mem h
    obtain ⟨f1, f2, f3⟩ := hP _ hm
    obtain ⟨q1, q2, e1, _⟩ := gput_perm (b := (x0, l0)) hp h
    refine ⟨x0, l0, q1 ++ q2, rfl, fun L => ?_, fun L => ?_, f1, f2, f3, fun b hb => ⟨(k, x0, l0), by rw [e1]; simp, hb⟩⟩
    · rw [e1, List.map_append, List.map_cons, List.map_append]
      exact ent_nfL_out (p := pastF (k, x0, l0))
    · rw [e1]
      simp only [List.map_append, List.map_cons]
      exact ent_nfL_back (p := pastF (k, x0, l0))

attribute [local irreducible] own pe nf

theorem s_slices_Backward_byte_byte {x : SV} : FnSpec Tryz.prog 93 #[x.v] []
    (fun c : Nat => .func (.func 114) #[] #[.pointer (some ⟨c, 0, none⟩)]) (fun _ => True) (fun c R => blk c [x.v] 104 :: R) := by
  refine fn_spec Tryz.func93 rfl rfl rfl rfl fun G R => ?_
  dsimp only [List.append_eq, List.cons_append, List.nil_append]
  refine wk_seq ?_
  refine wk_region ?_
  refine wo_w (w_box1 rfl rfl fun b1 => ?_)
  refine wo_v (v_assign rfl) ?_
  refine wo_nil ?_
  refine wk_seq ?_
  refine wk_region ?_
  refine wo_v (v_makeFunc rfl rfl) ?_
  refine wo_v (v_assign rfl) ?_
  refine wo_nil ?_
  refine wk_ret Tryz.func93 rfl rfl (res_tmp rfl res_nil) fun W h => ?_
  exact ⟨_, rfl, trivial, h⟩
theorem bsC_get {l : List (SV × List UInt8)} {i : Nat} {e : SV × List UInt8} (h : l[i]? = some e) (sp : List Value) : ((l.map (·.1.v)) ++ sp)[0 + i * 1]? = some e.1.v := by
  have hlt := (List.getElem?_eq_some_iff.1 h).1
  rw [Nat.zero_add, Nat.mul_one, List.getElem?_append_left (by simpa using hlt), List.getElem?_map, h]; rfl

theorem s_slices_Backward_1_byte_byte {c : Nat} {x : SV} {l : List (SV × List UInt8)} {T : TypeId} {yv : Value} (hn : x.n = l.length) (hm : l.length ≤ 1099511627776) (J : Nat → HP)
    (hy : ∀ i e, l[i]? = some e → FvSpec Tryz.prog yv #[.int .i64 (i : Nat), e.1.v] [J (i + 1)] (fun _ : Unit => .bool true) (fun _ => True) (fun _ R => J i :: R)) :
    FnSpec Tryz.prog 114 #[yv, .pointer (some ⟨c, 0, none⟩)] [J l.length, blk c [x.v] T, osl x (l.map (·.1.v)) 1 45]
    (fun _ : Unit => .tuple #[]) (fun _ => True) (fun _ R => J 0 :: osl x (l.map (·.1.v)) 1 45 :: R) := by
  refine fn_spec Tryz.func114 rfl rfl rfl rfl fun G R => ?_
  dsimp only [List.append_eq, List.cons_append, List.nil_append]
  refine wk_seq ?_
  refine wk_region ?_
  refine wo_v (v_load tyS_104 rfl rfl) ?_
  refine wo_v (v_len tyU_104 rfl) ?_
  refine wo_v (v_subI rfl rfl) ?_
  refine wo_v (v_assign rfl) ?_
  refine wo_nil ?_
  refine wk_block ?_
  refine wk_loop (fun i : Nat => i ≤ l.length) (fun i => [(0, yv), (1, .pointer (some ⟨c, 0, none⟩)), (3, .int .i64 ((i : Int) - 1))]) (fun i => J i :: blk c [x.v] T :: osl x (l.map (·.1.v)) 1 45 :: R) (fun i => i) l.length (Nat.le_refl _) ⟨rfl, rfl, by rw [← hn]; rfl, trivial⟩ (by refine ent_take ?_; refine ent_take ?_; refine ent_take ?_; exact ent_tail) fun i hi next => ?_
  refine wk_seq ?_
  refine wk_seq ?_
  refine wk_region ?_
  refine wo_v (v_move rfl) ?_
  refine wo_v (v_geq rfl rfl) ?_
  refine wo_nil ?_
  refine wk_if rfl (fun hb => ?_) (fun hb => ?_)
  · obtain ⟨j, rfl⟩ : ∃ j, i = j + 1 := ⟨i - 1, by omega⟩
    rw [show (((j + 1 : Nat) : Int) - 1) = (j : Int) from by omega]
    have hjl : j < l.length := by omega
    have hg : l[j]? = some l[j] := List.getElem?_eq_getElem hjl
    generalize l[j] = q at hg
    refine wk_ent (M := osl x (l.map (·.1.v)) 1 45 :: J (j + 1) :: blk c [x.v] T :: R) (by refine ent_take ?_; refine ent_take ?_; refine ent_take ?_; exact ent_tail) ?_
    refine wk_oslOpen (by omega) fun b sp ha q1 q2 q3 q4 => ?_
    refine wk_skip ?_
    refine wk_seq ?_
    refine wk_block ?_
    refine wk_seq ?_
    refine wk_region ?_
    refine wo_v (v_move rfl) ?_
    refine wo_v (v_move rfl) ?_
    refine wo_v (v_load tyS_104 rfl rfl) ?_
    refine wo_v (v_move rfl) ?_
    refine wo_v (v_indexAddrS tyU_104 tyN_45 rfl rfl ha (by omega)) ?_
    refine wo_v (v_load tyS_45 rfl (bsC_get hg sp)) ?_
    refine wo_ent (ent_oslClose ha q1 q2 q3 q4) ?_
    refine wo_w (w_callv rfl (hy j q hg) rfl (by repeat constructor) ?_)
    rintro ⟨⟩ -
    refine wo_v (v_not rfl) ?_
    refine wo_nil ?_
    refine wk_condF rfl ?_
    refine wk_skip ?_
    refine wk_inBlock ?_
    refine wk_region ?_
    refine wo_v (v_move rfl) ?_
    refine wo_v (v_subI rfl rfl) ?_
    refine wo_v (v_assign rfl) ?_
    refine wo_nil ?_
    refine (next j (by omega) (by omega)).use ⟨rfl, rfl, rfl, trivial⟩ ?_
    exact (by refine ent_take ?_; refine ent_take ?_; refine ent_take ?_; exact ent_tail)
  · refine wk_exit rfl ?_
    refine wk_end Tryz.func114 rfl rfl res_nil fun W h => ?_
    obtain rfl : i = 0 := by omega
    exact ⟨(), rfl, trivial, Ent.sat (by refine ent_take ?_; refine ent_take ?_; exact ent_tail) h⟩

theorem s_flash_Device_given {d : Nat} {k : Int} : FnSpec Tryz.prog 71 #[.pointer (some ⟨d, 0, none⟩), .int .i64 k] []
    (fun c : Nat × Nat => .func (.func 92) #[] #[.pointer (some ⟨c.1, 0, none⟩), .pointer (some ⟨c.2, 0, none⟩)]) (fun _ => True) (fun c R => blk c.2 [.int .i64 k] 3 :: blk c.1 [.pointer (some ⟨d, 0, none⟩)] 27 :: R) := by
  refine fn_spec Tryz.func71 rfl rfl rfl rfl fun G R => ?_
  dsimp only [List.append_eq, List.cons_append, List.nil_append]
  refine wk_seq ?_
  refine wk_region ?_
  refine wo_w (w_box1 rfl rfl fun b1 => ?_)
  refine wo_w (w_box1 rfl rfl fun b2 => ?_)
  refine wo_v (v_assign rfl) ?_
  refine wo_nil ?_
  refine wk_seq ?_
  refine wk_region ?_
  refine wo_v (v_makeFunc rfl rfl) ?_
  refine wo_v (v_assign rfl) ?_
  refine wo_nil ?_
  refine wk_ret Tryz.func71 rfl rfl (res_tmp rfl res_nil) fun W h => ?_
  exact ⟨(b1, b2), rfl, trivial, h⟩

def givJ (LP : LoopState → Option Code → HP) (b3 : Nat) (yv : Value) (J : Nat → HP) (m i : Nat) (l : List (SV × List UInt8)) : HP := nf (fun seen : Nat => seen + i ≤ m) fun seen => [LP .ready none, blk b3 [yv] 172, J seen, pe (bslAll l)]
theorem s_flash_Device_given_1 {d c1 c2 : Nat} {k : Int} {st : DevA} {T1 T2 : TypeId} {yv : Value} (hyc : cellsL yv = [yv]) (J : Nat → HP) (h0 : 0 ≤ k) (hk : k < st.n)
    (hy : ∀ seen x bs, seen ≤ 1099511627776 → FvSpec Tryz.prog yv #[SV.v x] [J seen, pe (bsl x bs)] (fun _ : Unit => .bool true) (fun _ => True) (fun _ R => J (seen + 1) :: R)) :
    FnSpec Tryz.prog 92 #[yv, .pointer (some ⟨c1, 0, none⟩), .pointer (some ⟨c2, 0, none⟩)] [J 0, DevH d st, blk c1 [.pointer (some ⟨d, 0, none⟩)] T1, blk c2 [.int .i64 k] T2]
    (fun _ : Nat => .tuple #[]) (fun n => n ≤ 1099511627777) (fun n R => J n :: DevH d st :: R) := by
  refine fn_spec Tryz.func92 rfl rfl rfl rfl fun G R => ?_
  dsimp only [List.append_eq, List.cons_append, List.nil_append]
  refine wk_seq ?_
  refine wk_region ?_
  refine wo_w (w_box1 rfl hyc fun b0 => ?_)
  refine wo_nil ?_
  refine wk_seq ?_
  refine wk_seq ?_
  refine wk_region ?_
  refine wo_v (v_load tyS_27 rfl rfl) ?_
  refine wo_v (v_eqSome tyU_27 rfl rfl) ?_
  refine wo_v (v_move rfl) ?_
  refine wo_gv (v_load tyS_27 rfl rfl) ?_
  refine wo_gv (v_load tyS_3 rfl rfl) ?_
  refine wo_gw (w_call (s_flash_Device_there (st := st) (at_ := k)) rfl (by repeat constructor) ?_)
  rintro ⟨⟩ -
  refine wo_gv (v_not rfl) ?_
  refine wo_v (v_pickF rfl rfl) ?_
  refine wo_nil ?_
  refine wk_if rfl (fun hb => ?_) (fun hb => ?_)
  · exact absurd (⟨h0, hk⟩ : 0 ≤ k ∧ k < (st.n : Int)) hb
  · refine wk_ent (ent_take (p := DevH d st) (t := by repeat constructor) (Ent.refl _)) ?_
    refine wk_nf fun ⟨mf, F, xl, Lz, mp, P, Q, T⟩ hw => ?_
    dsimp only [List.append_eq, List.cons_append, List.nil_append, devL] at hw ⊢
    obtain ⟨x0, l0, Qr, p1, p2, p2', p3, p4, p5, p7⟩ := past_look hw.perm k hw.past
    dsimp only at p1 p2 p2' p4
    have hac := hw.acts
    have hs2 := hw.s2
    refine wk_ent (ent_take (p := nfL (Q.map pastF)) (t := by repeat constructor) (Ent.refl _)) ?_
    refine wk_ent (p2 _) ?_
    refine wk_skip ?_
    refine wk_seq ?_
    refine wk_seq ?_
    refine wk_draw (n := 7) (pend := 127) ⟨7, fun _ => True⟩ mixed (by kernel_rfl) rfl (fun _ _ => trivial) rfl ?_
    refine wd_a 0 rfl (v_load tyS_27 rfl rfl) ?_
    refine wd_a 1 rfl (v_nilCheck rfl) ?_
    refine wd_a 2 rfl (v_fieldAddr tyF_60_4 rfl) ?_
    refine wd_a 3 rfl (v_load tyS_57 rfl rfl) ?_
    refine wd_a 4 rfl (v_load tyS_3 rfl rfl) ?_
    refine wd_a 5 rfl (v_lookup tyM_57 rfl rfl) ?_
    rw [p1]
    refine wd_l 6 rfl (w_call (s_slices_Backward_byte_byte (x := x0)) rfl (by repeat constructor) ?_)
    rintro c -
    refine ⟨fun _ _ _ => trivial, ?_⟩
    refine wd_done ?_
    refine wk_block ?_
    refine Wk.use (E := [(1, .pointer (some ⟨c1, 0, none⟩)), (3, .pointer (some ⟨b0, 0, none⟩)), (20, .func (.func 114) #[] #[.pointer (some ⟨c, 0, none⟩)])]) (M := defH [] :: _) ?_ ⟨rfl, rfl, rfl, trivial⟩ (ent_defNil (Ent.refl _))
    refine wk_rangeFunc (rs := []) rfl rfl (by repeat constructor) fun lp r => ?_
    refine callw_loop fun LP hLP => ?_
    have hy' : ∀ i e, l0[i]? = some e → FvSpec Tryz.prog (.func (.yield lp) #[] #[]) #[.int .i64 (i : Nat), e.1.v] [givJ LP b0 yv J l0.length (i + 1) l0] (fun _ : Unit => .bool true) (fun _ => True) (fun _ R => givJ LP b0 yv J l0.length i l0 :: R) := by
      intro i e hg
      have hem : e ∈ l0 := List.mem_of_getElem? hg
      have hel := p5 e hem
      refine FvSpec.nf fun seen hs => ?_
      subst hLP
      refine fv_yield (args := [_, _]) rfl rfl fun G R => ?_
      dsimp only [List.append_eq, List.cons_append, List.nil_append]
      refine wk_region ?_
      refine wo_v (v_assign rfl) ?_
      refine wo_nil ?_
      refine wk_beginRound rfl (by repeat constructor) ?_
      refine wk_block ?_
      refine wk_seq ?_
      refine wk_draw (n := 5) (pend := 31) ⟨3, fun w => Sat G w [blk b0 [yv] 172]⟩ mixed (by kernel_rfl) rfl (fun w s_ => Ent.sat (by refine ent_take ?_; exact ent_nil) s_) rfl ?_
      refine wd_a 1 rfl (v_move rfl) ?_
      refine wd_fr 0 rfl (fun w h => h) (v_load tyS_172 rfl rfl) ?_
      refine wd_ent (ent_ro (p := bslAll l0) (q := bsl e.1 e.2) (by repeat constructor) (bslAll_one hem) (Ent.refl _)) ?_
      refine wd_l 2 rfl (w_call (s_bytes_Clone (bs := e.2) (by omega)) rfl (by repeat constructor) ?_)
      rintro y hyn
      refine ⟨fun w s_ _ => Ent.sat (by refine ent_take ?_; exact ent_nil) s_, ?_⟩
      refine wd_l 3 rfl (w_callv rfl (hy seen y e.2 (by omega)) rfl (by repeat constructor) ?_)
      rintro ⟨⟩ -
      refine ⟨fun w s_ => Wat.gone (by decide), ?_⟩
      refine wd_a 4 rfl (v_not rfl) ?_
      refine wd_done ?_
      refine wk_condF rfl ?_
      refine wk_skip ?_
      refine wk_inBlock ?_
      refine wk_roundEnd rfl (by repeat constructor) fun W h => ?_
      refine ⟨(), rfl, trivial, Ent.sat ?_ h⟩
      refine ent_nf (seen + 1) (by omega) ?_
      exact ent_tail
    refine callw_ent (ent_ro (p := bslAll (Q.flatMap (·.2.2))) (q := bslAll l0) (by repeat constructor) (fun r h p hp => by
      obtain ⟨e, he, hb⟩ := p7 p hp
      exact h p (List.mem_flatMap.2 ⟨e, he, hb⟩)) (Ent.refl _)) ?_
    refine callw_ent (M := givJ LP b0 yv J l0.length l0.length l0 :: _) (ent_nf 0 (by omega) (Ent.refl _)) ?_
    refine callw_spec (FnSpec.fv (first := #[]) (args := #[_]) (cap := #[_]) (s_slices_Backward_1_byte_byte (c := c) (x := x0) (l := l0) (T := 104) p3 (by omega) (givJ LP b0 yv J l0.length · l0) hy')) (by repeat constructor) fun _ _ => ?_
    refine wk_nf fun seen hseen => ?_
    have hseen : seen + 0 ≤ l0.length := hseen
    subst hLP
    dsimp only [List.append_eq, List.cons_append, List.nil_append]
    refine wk_endRange (by repeat constructor) (by simp) ?_
    dsimp only [Option.map, Option.toList, List.nil_append]
    refine wk_inBlock ?_
    refine wk_draw (n := 7) (pend := 127) ⟨6, fun w => Sat G w [blk b0 [yv] 172]⟩ mixed (by kernel_rfl) rfl (fun w s_ => Ent.sat (by refine ent_take ?_; exact ent_nil) s_) rfl ?_
    refine wd_a 1 rfl (v_load tyS_27 rfl rfl) ?_
    refine wd_a 2 rfl (v_nilCheck rfl) ?_
    refine wd_a 3 rfl (v_fieldAddr tyF_60_1 rfl) ?_
    refine wd_a 4 rfl (v_load tyS_3 rfl rfl) ?_
    refine wd_fr 0 rfl (fun w h => h) (v_load tyS_172 rfl rfl) ?_
    refine wd_l 5 rfl (w_makeSliceN tyU_45 tyB_5 tyN_5 tyZ_5 rfl rfl rfl rfl rfl (by omega) fun b1 => ?_)
    refine ⟨fun w s_ _ => Ent.sat (by refine ent_take ?_; exact ent_nil) s_, ?_⟩
    refine wd_up up_freeze0 ?_
    refine wd_l 6 rfl (w_callv rfl (hy seen ⟨some ⟨b1, 0, none⟩, st.size, st.size⟩ (List.replicate st.size 0) (by omega)) rfl (by repeat constructor) ?_)
    rintro ⟨⟩ -
    refine ⟨fun w s_ => Wat.gone (by decide), ?_⟩
    refine wd_done ?_
    refine wk_endD Tryz.func92 rfl rfl (by repeat constructor) res_nil fun W h => ?_
    refine ⟨seen + 1, rfl, by omega, Ent.sat ?_ h⟩
    refine ent_take ?_
    refine (ent_take (p := nfL (Qr.map pastF)) (t := by repeat constructor) (Ent.refl _)).trans ?_
    refine (ent_take (p := osl x0 (l0.map (·.1.v)) 1 45) (t := by repeat constructor) (Ent.refl _)).trans ?_
    refine (p2' _).trans ?_
    refine ent_nf ⟨mf, F, xl, Lz, mp, P, Q, T⟩ hw ?_
    exact ent_tail

def pstJ (LP : LoopState → Option Code → HP) (b1 : Nat) (n : Nat) : HP := nf (fun x : SV × List (SV × List UInt8) => x.1.n = n ∧ x.2.length = n) fun x => [LP .ready none, blk b1 [x.1.v] 104, osl x.1 (x.2.map (·.1.v)) 1 45, pe (bslAll x.2)]
theorem s_flash_Device_Past {d : Nat} {k : Int} {st : DevA} (h0 : 0 ≤ k) (hk : k < st.n) : FnSpec Tryz.prog 38 #[.pointer (some ⟨d, 0, none⟩), .int .i64 k] [DevH d st]
    (fun x : SV × List (SV × List UInt8) => x.1.v) (fun x => x.1.n = x.2.length ∧ x.2.length ≤ 1099511627777) (fun x R => pe (roSl x.1 (x.2.map (·.1.v)) 1) :: pe (bslAll x.2) :: DevH d st :: R) := by
  refine fn_spec Tryz.func38 rfl rfl rfl rfl fun G R => ?_
  dsimp only [List.append_eq, List.cons_append, List.nil_append]
  refine wk_seq ?_
  refine wk_region ?_
  refine wo_v (v_assign rfl) ?_
  refine wo_nil ?_
  refine wk_seq ?_
  refine wk_region ?_
  refine wo_w (w_alloc1 tyZ_104 rfl fun b1 => ?_)
  refine wo_nil ?_
  refine wk_seq ?_
  refine wk_seq ?_
  refine wk_region ?_
  refine wo_v (v_move rfl) ?_
  refine wo_v (v_move rfl) ?_
  refine wo_w (w_call (s_flash_Device_given (d := d) (k := k)) rfl (by repeat constructor) ?_)
  rintro ⟨c1, c2⟩ -
  dsimp only
  refine wo_nil ?_
  refine wk_block ?_
  refine Wk.use (E := [(5, .pointer (some ⟨b1, 0, none⟩)), (9, .func (.func 92) #[] #[.pointer (some ⟨c1, 0, none⟩), .pointer (some ⟨c2, 0, none⟩)])]) (M := defH [] :: osl nilSV [] 1 45 :: _) ?_ ⟨rfl, rfl, trivial⟩ (ent_defNil (ent_oslNil (Ent.refl _)))
  refine wk_rangeFunc (rs := []) rfl rfl (by repeat constructor) fun lp r => ?_
  refine callw_loop fun LP hLP => ?_
  have hy : ∀ seen x bs, seen ≤ 1099511627776 → FvSpec Tryz.prog (.func (.yield lp) #[] #[]) #[SV.v x] [pstJ LP b1 seen, pe (bsl x bs)] (fun _ : Unit => .bool true) (fun _ => True) (fun _ R => pstJ LP b1 (seen + 1) :: R) := by
    intro seen x bs hs
    refine fvspec_nf1 fun ⟨z, l⟩ hz => ?_
    obtain ⟨hz1, hz2⟩ := hz
    dsimp only at hz1 hz2
    subst hLP
    dsimp only [List.append_eq, List.cons_append, List.nil_append]
    refine fv_yield (args := [_]) rfl rfl fun G R => ?_
    dsimp only [List.append_eq, List.cons_append, List.nil_append]
    refine wk_region ?_
    refine wo_v (v_assign rfl) ?_
    refine wo_nil ?_
    refine wk_beginRound rfl (by repeat constructor) ?_
    refine wk_block ?_
    refine wk_region ?_
    refine wo_v (v_load tyS_104 rfl rfl) ?_
    refine wo_v (v_move rfl) ?_
    refine wo_w (w_buildSlice1 tyU_104 tyN_45 tyZ_45 rfl rfl rfl rfl fun b2 => ?_)
    refine wo_w (w_append tyU_104 tyU_104 (.inl ⟨_, rfl⟩) tyB_45 tyN_45 tyZ_45 rfl (by decide) rfl rfl (src_blk (vs := [x.v]) (new := [x.v]) rfl (Nat.le_refl _)) rfl (by repeat constructor) (by (try dsimp only); omega) (by (try dsimp only); omega) rfl fun b3 hb3 => ?_)
    refine wo_w0 (w_storeN1 tyN_104 rfl rfl rfl (by repeat constructor) (by repeat constructor) ?_)
    refine wo_nil ?_
    refine wk_inBlock ?_
    refine wk_roundEnd rfl (by repeat constructor) fun W h => ?_
    refine ⟨(), rfl, trivial, Ent.sat ?_ h⟩
    rw [show l.map (·.1.v) ++ [x.v] = (l ++ [(x, bs)]).map (·.1.v) from by simp]
    refine (ent_pe2 (p := bslAll l) (q := bsl x bs) (s := bslAll (l ++ [(x, bs)])) (by repeat constructor) (by repeat constructor) (fun r h1 h2 p hp => ?_)).trans ?_
    · rcases List.mem_append.1 hp with hp | hp
      · exact h1 p hp
      · simp at hp; subst hp; exact h2
    refine ent_nf (b3, l ++ [(x, bs)]) ⟨by show b3.n = _; rw [hb3, hz1], by rw [List.length_append, hz2]; rfl⟩ ?_
    exact ent_tail
  refine callw_ent (ent_pe (q := bslAll []) (fun r p hp => by cases hp) (Ent.refl _)) ?_
  refine callw_ent (M := pstJ LP b1 0 :: _) (ent_nf (nilSV, []) ⟨rfl, rfl⟩ (Ent.refl _)) ?_
  refine callw_spec (FnSpec.fv (first := #[]) (args := #[_]) (cap := #[_, _]) (s_flash_Device_given_1 (d := d) (c1 := c1) (c2 := c2) (k := k) (st := st) (T1 := 27) (T2 := 3) rfl (pstJ LP b1) h0 hk hy)) (by repeat constructor) fun n hn => ?_
  refine wk_nf fun ⟨z, l⟩ hz => ?_
  obtain ⟨hz1, hz2⟩ := hz
  dsimp only at hz1 hz2
  subst hLP
  dsimp only [List.append_eq, List.cons_append, List.nil_append]
  refine wk_endRange (by repeat constructor) (by simp) ?_
  dsimp only [Option.map, Option.toList, List.nil_append]
  refine wk_inBlock ?_
  refine wk_seq ?_
  refine wk_region ?_
  refine wo_v (v_load tyS_104 rfl rfl) ?_
  refine wo_v (v_assign rfl) ?_
  refine wo_nil ?_
  refine wk_retD Tryz.func38 rfl rfl (by repeat constructor) (res_tmp rfl res_nil) fun W h => ?_
  have hs := up_freeze _ _ (Ent.sat (ent_take (p := osl z (l.map (·.1.v)) 1 45) (t := by repeat constructor) (Ent.refl _)) h)
  exact ⟨(z, l), rfl, ⟨by show z.n = l.length; omega, by show l.length ≤ _; omega⟩, Ent.sat (by refine ent_take ?_; refine ent_take ?_; refine ent_take ?_; exact ent_tail) hs⟩

end Go.Proofs.YtealmijbkebipaaGreatDoor
