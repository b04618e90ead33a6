/- Layer 8 (clock), of pages: its places. Layer 8 (clock): going through the places that are full; the first that is not; the one that goes. Layer 8 (clock): the place whose thing goes; the keys. Layer 8 (clock): what is put in, and dropped, in plain words. -/
import Derived.Test.YtealmijbkebipaaGreatDoorSwAL
namespace Go.Proofs.YtealmijbkebipaaGreatDoor
open Go
attribute [local irreducible] own pe nf

/-- A place. -/
structure Plc where
  key : Int
  stamp : Int
  sv : SV
  load : List UInt8
  dirty : Bool
  full : Bool
  marked : Bool
abbrev Plc.cells (p : Plc) : List Value := [.int .i64 p.key, .int .i64 p.stamp, p.sv.v, .bool p.dirty, .bool p.full, .bool p.marked]
theorem Plc.cells_len (p : Plc) : p.cells.length = 6 := rfl
def Plc.page (p : Plc) : PageA := ⟨p.stamp, p.load, p.dirty⟩
def Plc.none : Plc := ⟨0, 0, nilSV, [], false, false, false⟩
def atM (l : List (Int × Nat)) : MapL := l.map fun e => (e.1, .int .i64 (e.2 : Nat))
theorem atM_get (l : List (Int × Nat)) (k : Int) : mget (atM l) k = (gget l k).map fun i => .int .i64 (i : Nat) := mget_map l (fun i : Nat => Value.int .i64 i) k
theorem atM_put (l : List (Int × Nat)) (k : Int) (i : Nat) : mput (atM l) k (.int .i64 i) = atM (gput l k i) := mput_map l (fun i : Nat => Value.int .i64 i) k i

structure ClkX where
  b : Nat
  ps : List Plc
  m : Nat
  at_ : List (Int × Nat)
  hand : Nat

structure ClkOK (room : Nat) (mem : MemA) (X : ClkX) : Prop where
  r1 : 1 ≤ room
  r2 : room ≤ 4096
  len : X.ps.length = room
  hand : X.hand < room
  fwd : ∀ k i, gget X.at_ k = some i → ∃ p, X.ps[i]? = some p ∧ p.full = true ∧ p.key = k
  back : ∀ i p, X.ps[i]? = some p → p.full = true → gget X.at_ p.key = some i
  mem : ∀ k, mem k = (gget X.at_ k).bind fun i => X.ps[i]?.map Plc.page

def svs (ps : List Plc) : List (SV × List UInt8) := ps.map fun p => (p.sv, p.load)
def clkB (c room b m hand : Nat) : HP := blk c [.slice (some ⟨b, 0, none⟩) room room, .map (some m), .int .i64 hand] 130
def clkL (c room : Nat) (X : ClkX) : List HP :=
  [clkB c room X.b X.m X.hand, blk X.b (rowC Plc.cells X.ps) 126, mapH X.m (atM X.at_), pe (bslAll (svs X.ps))]
def ClkH (c room : Nat) (mem : MemA) : HP := nf (fun X : ClkX => ClkOK room mem X) (clkL c room)

theorem clk_new {n : Nat} (h1 : 1 ≤ n) (h2 : n ≤ 4096) (b m : Nat) : ClkOK n (fun _ => none) ⟨b, List.replicate n Plc.none, m, [], 0⟩ where
  r1 := h1
  r2 := h2
  len := by simp
  hand := h1
  fwd := fun k i h => by cases h
  back := fun i p hp hf => by
    have := List.eq_of_mem_replicate (List.mem_of_getElem? hp)
    rw [this] at hf; cases hf
  mem := fun k => rfl

theorem s_clock_New {n : Nat} (h1 : 1 ≤ n) (h2 : n ≤ 4096) : FnSpec Tryz.prog 45 #[.int .i64 n] []
    (fun c : Nat => .pointer (some ⟨c, 0, none⟩)) (fun _ => True) (fun c R => ClkH c n (fun _ => none) :: R) := by
  refine fn_spec Tryz.func45 rfl rfl rfl rfl fun G R => ?_
  dsimp only [List.append_eq, List.cons_append, List.nil_append]
  refine wk_seq ?_
  refine wk_region ?_
  refine wo_v (v_assign rfl) ?_
  refine wo_nil ?_
  refine wk_seq ?_
  refine wk_seq ?_
  refine wk_region ?_
  refine wo_v (v_move rfl) ?_
  refine wo_v (v_lss rfl rfl) ?_
  refine wo_v (v_move rfl) ?_
  refine wo_if (t := 5) rfl (fun k1 => ?_) (fun k1 => ?_)
  · exact absurd k1 (by omega)
  · refine wo_gv (v_move rfl) ?_
    refine wo_gv (v_gtr rfl rfl) ?_
    refine wo_v (v_pickF rfl rfl) ?_
    refine wo_nil ?_
    refine wk_if rfl (fun k2 => ?_) (fun k2 => ?_)
    · exact absurd k2 (by omega)
    · refine wk_skip ?_
      refine wk_seq ?_
      refine wk_region ?_
      refine wo_v (v_move rfl) ?_
      refine wo_w (w_makeSlice tyU_127 tyB_126 tyN_126 tyZ_126 rfl rfl rfl (by omega) (by omega) (by omega) (by omega) fun b1 => ?_)
      refine wo_w (w_makeMapH fun b2 => ?_)
      refine wo_v (v_buildN tyBu_130 rfl (by repeat constructor)) ?_
      refine wo_w (w_boxA rfl fun b3 => ?_)
      refine wo_v (v_assign rfl) ?_
      refine wo_nil ?_
      refine wk_ret Tryz.func45 rfl rfl (res_tmp rfl res_nil) fun W h => ?_
      have e1 : (List.replicate (n : Int).toNat (cellsL (Value.agg #[Value.int IntKind.i64 0, Value.int IntKind.i64 0, Value.slice none 0 0, Value.bool false, Value.bool false, Value.bool false]))).flatten = rowC Plc.cells (List.replicate n Plc.none) := by
        rw [Int.toNat_natCast, rowC, List.map_replicate]; rfl
      rw [e1, Int.toNat_natCast] at h
      have hB := Ent.sat (ent_pe (q := bslAll (svs (List.replicate n Plc.none))) (fun r p hp => by
        obtain ⟨q, hq, rfl⟩ := List.mem_map.1 hp
        rw [List.eq_of_mem_replicate hq]
        exact roSl_nil rfl r) (Ent.refl _)) h
      exact ⟨b3, rfl, trivial, Ent.sat (by refine ent_nf ⟨b1, List.replicate n Plc.none, b2, [], 0⟩ (clk_new h1 h2 b1 b2) ?_; exact ent_tail) hB⟩

def fromP (b : Nat) : Option Nat → Value
  | none => .pointer none
  | some i => .pointer (some ⟨b, 0 + i * 6, none⟩)
theorem s_clock_Clock_find {c room b m hand : Nat} {at_ : List (Int × Nat)} {k : Int} (hi : ∀ i, gget at_ k = some i → i < room) : FnSpec Tryz.prog 50 #[.pointer (some ⟨c, 0, none⟩), .int .i64 k] [clkB c room b m hand, mapH m (atM at_)]
    (fun _ : Unit => fromP b (gget at_ k)) (fun _ => True) (fun _ R => clkB c room b m hand :: mapH m (atM at_) :: R) := by
  refine fn_spec Tryz.func50 rfl rfl rfl rfl fun G R => ?_
  dsimp only [List.append_eq, List.cons_append, List.nil_append, clkB]
  refine wk_seq ?_
  refine wk_region ?_
  refine wo_v (v_assign rfl) ?_
  refine wo_nil ?_
  refine wk_seq ?_
  refine wk_seq ?_
  refine wk_region ?_
  refine wo_v (v_move rfl) ?_
  refine wo_v (v_eqSome tyU_72 rfl rfl) ?_
  refine wo_nil ?_
  refine wk_condF rfl ?_
  refine wk_skip ?_
  refine wk_seq ?_
  refine wk_region ?_
  refine wo_v (v_move rfl) ?_
  refine wo_v (v_nilCheck rfl) ?_
  refine wo_v (v_fieldAddr tyF_130_1 rfl) ?_
  refine wo_v (v_load tyS_128 rfl rfl) ?_
  refine wo_v (v_move rfl) ?_
  refine wo_v (v_lookup2 tyM_128 rfl rfl) ?_
  rw [atM_get]
  refine wo_v (v_move rfl) ?_
  refine wo_v (v_extract rfl rfl) ?_
  refine wo_v (v_extract rfl rfl) ?_
  refine wo_v (v_assign rfl) ?_
  refine wo_v (v_assign rfl) ?_
  refine wo_nil ?_
  refine wk_seq ?_
  refine wk_seq ?_
  refine wk_region ?_
  refine wo_v (v_move rfl) ?_
  refine wo_v (v_not rfl) ?_
  refine wo_nil ?_
  refine wk_if rfl (fun hb => ?_) (fun hb => ?_)
  · refine wk_seq ?_
    refine wk_region ?_
    refine wo_v (v_assign rfl) ?_
    refine wo_nil ?_
    refine wk_ret Tryz.func50 rfl rfl (res_tmp rfl res_nil) fun W h => ?_
    have hn : gget at_ k = none := by simpa using hb
    rw [hn]
    exact ⟨(), rfl, trivial, h⟩
  · obtain ⟨i, hg⟩ : ∃ i, gget at_ k = some i := Option.isSome_iff_exists.1 (by simpa using hb)
    have hlt := hi i hg
    rw [hg]
    refine wk_skip ?_
    refine wk_seq ?_
    refine wk_region ?_
    refine wo_v (v_move rfl) ?_
    refine wo_v (v_nilCheck rfl) ?_
    refine wo_v (v_fieldAddr tyF_130_0 rfl) ?_
    refine wo_v (v_load tyS_127 rfl rfl) ?_
    refine wo_v (v_move rfl) ?_
    refine wo_v (v_indexAddr tyU_127 tyN_126 rfl rfl) ?_
    refine wo_v (v_assign rfl) ?_
    refine wo_nil ?_
    refine wk_ret Tryz.func50 rfl rfl (res_tmp rfl res_nil) fun W h => ?_
    exact ⟨(), rfl, trivial, h⟩

theorem bslAll_sv {ps : List Plc} {i : Nat} {p : Plc} (h : ps[i]? = some p) (r : PH) (hr : (bslAll (svs ps)).q r) : (bsl p.sv p.load).q r := hr (p.sv, p.load) (List.mem_map.2 ⟨p, List.mem_of_getElem? h, rfl⟩)

/-- What is told of a page that may not be there. -/
def pageO (o : Option PageA) : PageA := o.getD ⟨0, [], false⟩
abbrev pgV (p : PageA) (sv : SV) : Value := .agg [.int .i64 p.stamp, sv.v, .bool p.dirty].toArray

theorem ClkOK.at {room : Nat} {mem : MemA} {X : ClkX} (h : ClkOK room mem X) {k : Int} {i : Nat} (hg : gget X.at_ k = some i) : ∃ p, X.ps[i]? = some p ∧ p.full = true ∧ p.key = k ∧ mem k = some p.page ∧ i < room := by
  obtain ⟨p, h1, h2, h3⟩ := h.fwd k i hg
  refine ⟨p, h1, h2, h3, by rw [h.mem, hg]; simp [h1], ?_⟩
  rw [← h.len]; exact (List.getElem?_eq_some_iff.1 h1).1
theorem ClkOK.no {room : Nat} {mem : MemA} {X : ClkX} (h : ClkOK room mem X) {k : Int} (hg : gget X.at_ k = none) : mem k = none := by rw [h.mem, hg]; rfl

theorem s_clock_Clock_Look {c room : Nat} {mem : MemA} {k : Int} : FnSpec Tryz.prog 48 #[.pointer (some ⟨c, 0, none⟩), .int .i64 k] [ClkH c room mem]
    (fun sv : SV => .tuple #[pgV (pageO (mem k)) sv, .bool (mem k).isSome]) (fun _ => True) (fun sv R => pe (bsl sv (pageO (mem k)).load) :: ClkH c room mem :: R) := by
  refine fn_spec Tryz.func48 rfl rfl rfl rfl fun G R => ?_
  refine wk_nf fun ⟨b, ps, m, at_, hand⟩ hw => ?_
  dsimp only [List.append_eq, List.cons_append, List.nil_append, clkL] at hw ⊢
  rcases hg : gget at_ k with _ | i
  · have hm := hw.no hg
    rw [hm]
    refine wk_seq ?_
    refine wk_region ?_
    refine wo_w (w_allocA tyZ_67 fun b1 => ?_)
    refine wo_v (v_assign rfl) ?_
    refine wo_nil ?_
    refine wk_seq ?_
    refine wk_region ?_
    refine wo_v (v_move rfl) ?_
    refine wo_v (v_move rfl) ?_
    refine wo_w (w_call (s_clock_Clock_find (room := room) (k := k) (fun i hg => (hw.at hg).choose_spec.2.2.2.2)) rfl (by repeat constructor) ?_)
    rintro ⟨⟩ -
    rw [hg]
    refine wo_v (v_assign rfl) ?_
    refine wo_nil ?_
    refine wk_seq ?_
    refine wk_seq ?_
    refine wk_region ?_
    refine wo_v (v_move rfl) ?_
    refine wo_v (v_eqNone tyU_123 rfl rfl) ?_
    refine wo_nil ?_
    refine wk_condT rfl ?_
    refine wk_seq ?_
    refine wk_region ?_
    refine wo_w (w_allocA tyZ_67 fun b2 => ?_)
    refine wo_nil ?_
    refine wk_seq ?_
    refine wk_region ?_
    refine wo_v (v_loadN tyA_67 rfl (by repeat constructor) (by repeat constructor)) ?_
    refine wo_w0 (w_storeN tyN_67 rfl rfl rfl rfl (by repeat constructor) (by repeat constructor) ?_)
    refine wo_v (v_assign rfl) ?_
    refine wo_nil ?_
    refine wk_ret Tryz.func48 rfl rfl (res_cellA tyA_67 rfl (by repeat constructor) rfl (res_tmp rfl res_nil)) fun W h => ?_
    exact ⟨nilSV, rfl, trivial, Ent.sat (ent_roNil rfl (by refine ent_nf ⟨b, ps, m, at_, hand⟩ hw ?_; exact ent_tail)) h⟩
  · obtain ⟨p, hp, hf, hk, hm, hlt⟩ := hw.at hg
    rw [hm]
    refine wk_seq ?_
    refine wk_region ?_
    refine wo_w (w_allocA tyZ_67 fun b1 => ?_)
    refine wo_v (v_assign rfl) ?_
    refine wo_nil ?_
    refine wk_seq ?_
    refine wk_region ?_
    refine wo_v (v_move rfl) ?_
    refine wo_v (v_move rfl) ?_
    refine wo_w (w_call (s_clock_Clock_find (room := room) (k := k) (fun i hg => (hw.at hg).choose_spec.2.2.2.2)) rfl (by repeat constructor) ?_)
    rintro ⟨⟩ -
    rw [hg]
    refine wo_v (v_assign rfl) ?_
    refine wo_nil ?_
    refine wk_seq ?_
    refine wk_seq ?_
    refine wk_region ?_
    refine wo_v (v_move rfl) ?_
    refine wo_v (v_eqSome tyU_123 rfl rfl) ?_
    refine wo_nil ?_
    refine wk_condF rfl ?_
    refine wk_skip ?_
    refine wk_seq ?_
    refine wk_region ?_
    refine wo_v (v_move rfl) ?_
    refine wo_v (v_nilCheck rfl) ?_
    refine wo_v (v_fieldAddr tyF_126_1 rfl) ?_
    refine wo_v (v_loadA tyA_67 rfl (rowC_part Plc.cells_len hp 1 3 (by decide)) rfl) ?_
    refine wo_w0 (w_storeN tyN_67 rfl rfl rfl rfl (by repeat constructor) (by repeat constructor) ?_)
    refine wo_v (v_assign rfl) ?_
    refine wo_nil ?_
    refine wk_ret Tryz.func48 rfl rfl (res_cellA tyA_67 rfl (by repeat constructor) rfl (res_tmp rfl res_nil)) fun W h => ?_
    refine ⟨p.sv, rfl, trivial, Ent.sat (ent_ro (p := bslAll (svs ps)) (q := bsl p.sv p.load) (by repeat constructor) (bslAll_sv hp) ?_) h⟩
    refine ent_nf ⟨b, ps, m, at_, hand⟩ hw ?_
    exact ent_tail

theorem ClkOK.mark {room : Nat} {mem : MemA} {b m hand : Nat} {ps : List Plc} {at_ : List (Int × Nat)} {i : Nat} {p : Plc} (h : ClkOK room mem ⟨b, ps, m, at_, hand⟩) (hp : ps[i]? = some p) (v : Bool) : ClkOK room mem ⟨b, ps.set i { p with marked := v }, m, at_, hand⟩ where
  r1 := h.r1
  r2 := h.r2
  len := by rw [List.length_set]; exact h.len
  hand := h.hand
  fwd := fun k j hg => by
    obtain ⟨q, h1, h2, h3⟩ := h.fwd k j hg
    dsimp only at h1 ⊢
    by_cases hij : i = j
    · subst hij
      rw [hp] at h1; cases h1
      exact ⟨{ p with marked := v }, by rw [List.getElem?_set_self (List.getElem?_eq_some_iff.1 hp).1], h2, h3⟩
    · exact ⟨q, by rw [List.getElem?_set_ne hij]; exact h1, h2, h3⟩
  back := fun j q hq hf => by
    dsimp only at hq ⊢
    by_cases hij : i = j
    · subst hij
      rw [List.getElem?_set_self (List.getElem?_eq_some_iff.1 hp).1] at hq; cases hq
      exact h.back i p hp hf
    · rw [List.getElem?_set_ne hij] at hq
      exact h.back j q hq hf
  mem := fun k => by
    rw [h.mem k]
    dsimp only
    cases hg : gget at_ k with
    | none => rfl
    | some j =>
      simp only [Option.bind_some]
      by_cases hij : i = j
      · subst hij
        rw [List.getElem?_set_self (List.getElem?_eq_some_iff.1 hp).1, hp]; rfl
      · rw [List.getElem?_set_ne hij]
theorem svs_set {ps : List Plc} {i : Nat} {p' : Plc} (r : PH) (h : (bslAll (svs ps)).q r) (h2 : (bsl p'.sv p'.load).q r) : (bslAll (svs (ps.set i p'))).q r := by
  intro x hx
  obtain ⟨q, hq, rfl⟩ := List.mem_map.1 hx
  rcases List.mem_or_eq_of_mem_set hq with hq | rfl
  · exact h _ (List.mem_map.2 ⟨q, hq, rfl⟩)
  · exact h2

theorem s_clock_Clock_Get {c room : Nat} {mem : MemA} {k : Int} : FnSpec Tryz.prog 60 #[.pointer (some ⟨c, 0, none⟩), .int .i64 k] [ClkH c room mem]
    (fun sv : SV => .tuple #[pgV (pageO (mem k)) sv, .bool (mem k).isSome]) (fun _ => True) (fun sv R => pe (bsl sv (pageO (mem k)).load) :: ClkH c room mem :: R) := by
  refine fn_spec Tryz.func60 rfl rfl rfl rfl fun G R => ?_
  refine wk_nf fun ⟨b, ps, m, at_, hand⟩ hw => ?_
  dsimp only [List.append_eq, List.cons_append, List.nil_append, clkL] at hw ⊢
  rcases hg : gget at_ k with _ | i
  · skip
    refine wk_seq ?_
    refine wk_region ?_
    refine wo_w (w_allocA tyZ_67 fun b1 => ?_)
    refine wo_v (v_assign rfl) ?_
    refine wo_nil ?_
    refine wk_seq ?_
    refine wk_region ?_
    refine wo_v (v_move rfl) ?_
    refine wo_v (v_move rfl) ?_
    refine wo_w (w_call (s_clock_Clock_find (room := room) (k := k) (fun i hg => (hw.at hg).choose_spec.2.2.2.2)) rfl (by repeat constructor) ?_)
    rintro ⟨⟩ -
    rw [hg]
    refine wo_v (v_assign rfl) ?_
    refine wo_nil ?_
    refine wk_seq ?_
    refine wk_seq ?_
    refine wk_region ?_
    refine wo_v (v_move rfl) ?_
    refine wo_v (v_neNone tyU_123 rfl rfl) ?_
    refine wo_nil ?_
    refine wk_condF rfl ?_
    refine wk_ent (M := ClkH c room mem :: _) (ent_nf ⟨b, ps, m, at_, hand⟩ hw (Ent.refl _)) ?_
    refine wk_skip ?_
    refine wk_seq ?_
    refine wk_region ?_
    refine wo_v (v_move rfl) ?_
    refine wo_v (v_move rfl) ?_
    refine wo_w (w_call (s_clock_Clock_Look (room := room) (mem := mem) (k := k)) rfl (by repeat constructor) ?_)
    rintro sv -
    refine wo_v (v_extract rfl rfl) ?_
    refine wo_v (v_extract rfl rfl) ?_
    refine wo_w0 (w_storeN tyN_67 rfl rfl rfl rfl (by repeat constructor) (by repeat constructor) ?_)
    refine wo_v (v_assign rfl) ?_
    refine wo_nil ?_
    refine wk_ret Tryz.func60 rfl rfl (res_cellA tyA_67 rfl (by repeat constructor) rfl (res_tmp rfl res_nil)) fun W h => ?_
    exact ⟨sv, rfl, trivial, Ent.sat (by refine ent_take ?_; refine ent_take ?_; exact ent_tail) h⟩
  · obtain ⟨p, hp, hf, hk, hm, hlt⟩ := hw.at hg
    refine wk_seq ?_
    refine wk_region ?_
    refine wo_w (w_allocA tyZ_67 fun b1 => ?_)
    refine wo_v (v_assign rfl) ?_
    refine wo_nil ?_
    refine wk_seq ?_
    refine wk_region ?_
    refine wo_v (v_move rfl) ?_
    refine wo_v (v_move rfl) ?_
    refine wo_w (w_call (s_clock_Clock_find (room := room) (k := k) (fun i hg => (hw.at hg).choose_spec.2.2.2.2)) rfl (by repeat constructor) ?_)
    rintro ⟨⟩ -
    rw [hg]
    refine wo_v (v_assign rfl) ?_
    refine wo_nil ?_
    refine wk_seq ?_
    refine wk_seq ?_
    refine wk_region ?_
    refine wo_v (v_move rfl) ?_
    refine wo_v (v_neSome tyU_123 rfl rfl) ?_
    refine wo_nil ?_
    refine wk_condT rfl ?_
    refine wk_region ?_
    refine wo_v (v_move rfl) ?_
    refine wo_v (v_nilCheck rfl) ?_
    refine wo_v (v_fieldAddr tyF_126_3 rfl) ?_
    refine wo_w0 (w_store1 tyN_4 rfl rfl rfl (blt_of (rowC_lt Plc.cells_len hp 5 1 (by decide))) (by repeat constructor) ?_)
    rw [rowC_put1 (a' := { p with marked := true }) Plc.cells_len hp (by decide) rfl]
    refine wo_ent (ent_pe2 (p := bslAll (svs ps)) (q := bslAll (svs ps)) (s := bslAll (svs (ps.set i { p with marked := true }))) (by repeat constructor) (by repeat constructor) (fun r h1 _ => svs_set r h1 (bslAll_sv hp r h1))) ?_
    refine wo_ent (M := ClkH c room mem :: _) (ent_nf ⟨b, ps.set i { p with marked := true }, m, at_, hand⟩ (hw.mark hp true) (Ent.refl _)) ?_
    refine wo_nil ?_
    refine wk_seq ?_
    refine wk_region ?_
    refine wo_v (v_move rfl) ?_
    refine wo_v (v_move rfl) ?_
    refine wo_w (w_call (s_clock_Clock_Look (room := room) (mem := mem) (k := k)) rfl (by repeat constructor) ?_)
    rintro sv -
    refine wo_v (v_extract rfl rfl) ?_
    refine wo_v (v_extract rfl rfl) ?_
    refine wo_w0 (w_storeN tyN_67 rfl rfl rfl rfl (by repeat constructor) (by repeat constructor) ?_)
    refine wo_v (v_assign rfl) ?_
    refine wo_nil ?_
    refine wk_ret Tryz.func60 rfl rfl (res_cellA tyA_67 rfl (by repeat constructor) rfl (res_tmp rfl res_nil)) fun W h => ?_
    exact ⟨sv, rfl, trivial, Ent.sat (by refine ent_take ?_; refine ent_take ?_; exact ent_tail) h⟩

end Go.Proofs.YtealmijbkebipaaGreatDoor

namespace Go.Proofs.YtealmijbkebipaaGreatDoor
open Go
attribute [local irreducible] own pe nf

theorem wk_endExit {P : Program} {C : Cx} {k : List Item} {e : Env} {L M : List HP} {ds : List Deferred} {l id : Nat} {st : LoopState} {pd : Option Code} {f' n' : Nat} {e' : Env} {ps : Array Tmp} {assign body : Code} {D : Nat} (ht : Take (loopH l st pd f' n' e' ps assign body D) L M) (hst : st ≠ .busy)
    (hpd : pd = none ∨ pd = some (.exit id)) (h : Wk P C ds k e M) : Wk P C ds (.endRangeFunc l :: .inBlock id :: k) e L := by
  refine wk_endRange ht hst ?_
  rcases hpd with rfl | rfl
  · exact wk_inBlock h
  · exact wk_exit (by simp [exitTo]) h

theorem s_clock_Clock_full {c : Nat} : FnSpec Tryz.prog 79 #[.pointer (some ⟨c, 0, none⟩)] []
    (fun b : Nat => .func (.func 99) #[] #[.pointer (some ⟨b, 0, none⟩)]) (fun _ => True) (fun b R => blk b [.pointer (some ⟨c, 0, none⟩)] 72 :: R) := by
  refine fn_spec Tryz.func79 rfl rfl rfl rfl fun G R => ?_
  dsimp only [List.append_eq, List.cons_append, List.nil_append]
  refine wk_seq ?_
  refine wk_region ?_
  refine wo_w (w_box1 rfl rfl fun b1 => ?_)
  refine wo_v (v_assign rfl) ?_
  refine wo_nil ?_
  refine wk_seq ?_
  refine wk_region ?_
  refine wo_v (v_makeFunc rfl rfl) ?_
  refine wo_v (v_assign rfl) ?_
  refine wo_nil ?_
  refine wk_ret Tryz.func79 rfl rfl (res_tmp rfl res_nil) fun W h => ?_
  exact ⟨_, rfl, trivial, h⟩

theorem s_clock_Clock_full_1 {c cb room b m hand : Nat} {ps : List Plc} {T : TypeId} {yv : Value} (hl : ps.length = room) (hr : room ≤ 4096) (J : Nat → HP) (D : Nat → HP)
    (hs : ∀ i p, ps[i]? = some p → p.full = false → ∀ L, Ent (J i :: L) (J (i + 1) :: L))
    (hy : ∀ i p, ps[i]? = some p → p.full = true → FvSpec Tryz.prog yv #[.int .i64 (i : Nat), .agg p.cells.toArray] [J i] (fun b : Bool => .bool b) (fun _ => True) (fun b R => (bif b then J (i + 1) else D i) :: R)) :
    FnSpec Tryz.prog 99 #[yv, .pointer (some ⟨cb, 0, none⟩)] [J 0, blk cb [.pointer (some ⟨c, 0, none⟩)] T, clkB c room b m hand, blk b (rowC Plc.cells ps) 126]
    (fun _ : Option Nat => .tuple #[]) (fun _ => True) (fun o R => (match o with | none => J room | some i => D i) :: clkB c room b m hand :: blk b (rowC Plc.cells ps) 126 :: R) := by
  refine fn_spec Tryz.func99 rfl rfl rfl rfl fun G R => ?_
  dsimp only [List.append_eq, List.cons_append, List.nil_append, clkB]
  refine wk_seq ?_
  refine wk_region ?_
  refine wo_v (v_load tyS_72 rfl rfl) ?_
  refine wo_v (v_nilCheck rfl) ?_
  refine wo_v (v_fieldAddr tyF_130_0 rfl) ?_
  refine wo_v (v_load tyS_127 rfl rfl) ?_
  refine wo_v (v_len tyU_127 rfl) ?_
  refine wo_v (v_move rfl) ?_
  refine wo_nil ?_
  refine wk_block ?_
  refine wk_loop (fun i : Nat => i ≤ room) (fun i => [(0, yv), (8, .slice (some ⟨b, 0, none⟩) room room), (9, .int .i64 room), (10, .int .i64 i)]) (fun i => J i :: clkB c room b m hand :: blk b (rowC Plc.cells ps) 126 :: R) (fun i => room - i) 0 (Nat.zero_le _) ⟨rfl, rfl, rfl, rfl, trivial⟩ (by refine ent_take ?_; refine ent_take ?_; refine ent_take ?_; exact ent_tail) fun i hi next => ?_
  refine wk_seq ?_
  refine wk_region ?_
  refine wo_v (v_lss rfl rfl) ?_
  refine wo_nil ?_
  refine wk_seq ?_
  refine wk_if rfl (fun hb => ?_) (fun hb => ?_)
  · have hlt : i < ps.length := by omega
    have hp : ps[i]? = some ps[i] := List.getElem?_eq_getElem hlt
    generalize ps[i] = p at hp
    refine wk_skip ?_
    refine wk_seq ?_
    refine wk_block ?_
    refine wk_seq ?_
    refine wk_region ?_
    refine wo_v (v_move rfl) ?_
    refine wo_v (v_indexAddr tyU_127 tyN_126 rfl rfl) ?_
    refine wo_v (v_loadA tyA_126 rfl (rowC_get0 Plc.cells_len hp) rfl) ?_
    refine wo_w (w_allocA tyZ_126 fun b1 => ?_)
    refine wo_v (v_assign rfl) ?_
    refine wo_w0 (w_storeN tyN_126 rfl rfl rfl rfl (by repeat constructor) (by repeat constructor) ?_)
    refine wo_nil ?_
    refine wk_seq ?_
    refine wk_region ?_
    refine wo_v (v_fieldAddr tyF_126_2 rfl) ?_
    refine wo_v (v_load tyS_4 rfl rfl) ?_
    refine wo_v (v_move rfl) ?_
    refine wo_if (t := 17) rfl (fun hf => ?_) (fun hf => ?_)
    · refine wo_gv (v_move rfl) ?_
      refine wo_gv (v_move rfl) ?_
      refine wo_gv (v_loadN tyA_126 rfl (by repeat constructor) (by repeat constructor)) ?_
      refine wo_gw (w_callv rfl (hy i p hp hf) rfl (by repeat constructor) ?_)
      rintro y -
      refine wo_gv (v_not rfl) ?_
      refine wo_v (v_pickT rfl rfl) ?_
      refine wo_nil ?_
      refine wk_if rfl (fun hyb => ?_) (fun hyb => ?_)
      · refine wk_ret Tryz.func99 rfl rfl res_nil fun W h => ?_
        subst hyb
        exact ⟨some i, rfl, trivial, Ent.sat (by refine ent_take ?_; refine ent_take ?_; refine ent_take ?_; exact ent_tail) h⟩
      · subst hyb
        refine wk_skip ?_
        refine wk_inBlock ?_
        refine wk_region ?_
        refine wo_v (v_addI rfl rfl) ?_
        refine wo_v (v_move rfl) ?_
        refine wo_nil ?_
        refine (next (i + 1) (by omega) (by omega)).use ⟨rfl, rfl, rfl, rfl, trivial⟩ ?_
        dsimp only [cond_true]
        exact (by refine ent_take ?_; refine ent_take ?_; refine ent_take ?_; exact ent_tail)
    · refine wo_gF ?_
      refine wo_gF ?_
      refine wo_gF ?_
      refine wo_gF ?_
      refine wo_gF ?_
      refine wo_v (v_pickF rfl rfl) ?_
      refine wo_nil ?_
      refine wk_condF rfl ?_
      refine wk_skip ?_
      refine wk_inBlock ?_
      refine wk_region ?_
      refine wo_v (v_addI rfl rfl) ?_
      refine wo_v (v_move rfl) ?_
      refine wo_nil ?_
      refine (next (i + 1) (by omega) (by omega)).use ⟨rfl, rfl, rfl, rfl, trivial⟩ ?_
      refine (ent_take (p := J i) (t := by repeat constructor) (Ent.refl _)).trans ((hs i p hp hf _).trans ?_)
      exact (by refine ent_take ?_; refine ent_take ?_; refine ent_take ?_; exact ent_tail)
  · refine wk_exit rfl ?_
    refine wk_end Tryz.func99 rfl rfl res_nil fun W h => ?_
    obtain rfl : i = room := by omega
    exact ⟨none, rfl, trivial, Ent.sat (by refine ent_take ?_; refine ent_take ?_; refine ent_take ?_; exact ent_tail) h⟩

def EmpF (ps : List Plc) (i f : Nat) : Prop := f ≤ i ∧ (∀ j p, j < f → ps[j]? = some p → p.full = true) ∧ (f = i ∨ ∃ p, ps[f]? = some p ∧ p.full = false)
def empJ (LP : LoopState → Option Code → HP) (ps : List Plc) (b3 : Nat) (i : Nat) : HP := nf (fun f : Nat => EmpF ps i f) fun f => [LP .ready none, blk b3 [.int .i64 f] 3]
def empD (LP : LoopState → Option Code → HP) (ps : List Plc) (b3 : Nat) (_ : Nat) : HP := nf (fun f : Nat => ∃ p, ps[f]? = some p ∧ p.full = false) fun f => [LP .done (some (.exit 0)), blk b3 [.int .i64 f] 3]
def EmpR (ps : List Plc) (room f : Nat) : Prop := (f = room ∧ ∀ p ∈ ps, p.full = true) ∨ ∃ p, ps[f]? = some p ∧ p.full = false
def empE (LP : LoopState → Option Code → HP) (ps : List Plc) (room b3 : Nat) : HP := nf (fun x : Nat × LoopState × Option Code => EmpR ps room x.1 ∧ x.2.1 ≠ .busy ∧ (x.2.2 = none ∨ x.2.2 = some (.exit 0))) fun x => [LP x.2.1 x.2.2, blk b3 [.int .i64 x.1] 3]
theorem empJ_skip {LP : LoopState → Option Code → HP} {ps : List Plc} {b3 i : Nat} {p : Plc} (hp : ps[i]? = some p) (hf : p.full = false) (L : List HP) : Ent (empJ LP ps b3 i :: L) (empJ LP ps b3 (i + 1) :: L) := by
  refine Ent.open_ fun f ⟨h1, h2, h3⟩ => ?_
  refine ent_nf f ⟨by omega, h2, ?_⟩ (Ent.refl _)
  rcases h3 with rfl | h3
  · exact .inr ⟨p, hp, hf⟩
  · exact .inr h3
theorem empJ_end {LP : LoopState → Option Code → HP} {ps : List Plc} {b3 room : Nat} (hl : ps.length = room) (L : List HP) : Ent (empJ LP ps b3 room :: L) (empE LP ps room b3 :: L) := by
  refine Ent.open_ fun f ⟨h1, h2, h3⟩ => ?_
  refine ent_nf (f, .ready, none) ⟨?_, by simp, .inl rfl⟩ (Ent.refl _)
  rcases h3 with rfl | h3
  · refine .inl ⟨rfl, fun p hp => ?_⟩
    obtain ⟨j, hj⟩ := List.getElem?_of_mem hp
    exact h2 j p (by rw [← hl]; exact (List.getElem?_eq_some_iff.1 hj).1) hj
  · exact .inr h3
theorem empD_end {LP : LoopState → Option Code → HP} {ps : List Plc} {b3 room i : Nat} (L : List HP) : Ent (empD LP ps b3 i :: L) (empE LP ps room b3 :: L) := by
  refine Ent.open_ fun f h => ?_
  exact ent_nf (f, .done, some (.exit 0)) ⟨.inr h, by simp, .inr rfl⟩ (Ent.refl _)

/-- The first place that is empty, or none. -/
def EmpX (ps : List Plc) (x : Int) : Prop := (x = -1 ∧ ∀ p ∈ ps, p.full = true) ∨ ∃ (f : Nat) (p : Plc), x = f ∧ ps[f]? = some p ∧ p.full = false

theorem s_clock_Clock_empty {c room b m hand : Nat} {ps : List Plc} (hl : ps.length = room) (hr : room ≤ 4096) : FnSpec Tryz.prog 51 #[.pointer (some ⟨c, 0, none⟩)] [clkB c room b m hand, blk b (rowC Plc.cells ps) 126]
    (fun x : Int => .int .i64 x) (fun x => EmpX ps x) (fun _ R => clkB c room b m hand :: blk b (rowC Plc.cells ps) 126 :: R) := by
  refine fn_spec Tryz.func51 rfl rfl rfl rfl fun G R => ?_
  dsimp only [List.append_eq, List.cons_append, List.nil_append]
  refine wk_seq ?_
  refine wk_region ?_
  refine wo_v (v_assign rfl) ?_
  refine wo_nil ?_
  refine wk_seq ?_
  refine wk_region ?_
  refine wo_w (w_alloc1 tyZ_3 rfl fun b1 => ?_)
  refine wo_w0 (w_storeN1 tyN_3 rfl rfl rfl (by repeat constructor) (by repeat constructor) ?_)
  refine wo_nil ?_
  refine wk_seq ?_
  refine wk_seq ?_
  refine wk_region ?_
  refine wo_v (v_move rfl) ?_
  refine wo_w (w_call (s_clock_Clock_full (c := c)) rfl (by repeat constructor) ?_)
  rintro cb -
  refine wo_nil ?_
  refine wk_block ?_
  refine Wk.use (E := [(0, .pointer (some ⟨c, 0, none⟩)), (3, .pointer (some ⟨b1, 0, none⟩)), (6, .func (.func 99) #[] #[.pointer (some ⟨cb, 0, none⟩)])]) (M := defH [] :: _) ?_ ⟨rfl, rfl, rfl, trivial⟩ (ent_defNil (Ent.refl _))
  refine wk_rangeFunc (rs := []) rfl rfl (by repeat constructor) fun lp r => ?_
  refine callw_loop fun LP hLP => ?_
  have hy : ∀ i p, ps[i]? = some p → p.full = true → FvSpec Tryz.prog (.func (.yield lp) #[] #[]) #[.int .i64 (i : Nat), .agg p.cells.toArray] [empJ LP ps b1 i] (fun b : Bool => .bool b) (fun _ => True) (fun b R => (bif b then empJ LP ps b1 (i + 1) else empD LP ps b1 i) :: R) := by
    intro i p hp hf
    have hlt : i < room := by rw [← hl]; exact (List.getElem?_eq_some_iff.1 hp).1
    refine FvSpec.nf fun f hF => ?_
    have hfi := hF.1
    subst hLP
    refine fv_yield (args := [_, _]) rfl rfl fun G R => ?_
    dsimp only [List.append_eq, List.cons_append, List.nil_append]
    refine wk_region ?_
    refine wo_v (v_assign rfl) ?_
    refine wo_nil ?_
    refine wk_beginRound rfl (by repeat constructor) ?_
    refine wk_block ?_
    refine wk_seq ?_
    refine wk_seq ?_
    refine wk_region ?_
    refine wo_v (v_move rfl) ?_
    refine wo_v (v_load tyS_3 rfl rfl) ?_
    refine wo_v (v_neq rfl rfl) ?_
    refine wo_nil ?_
    refine wk_if rfl (fun hq => ?_) (fun hq => ?_)
    · refine wk_roundExit rfl rfl (by repeat constructor) fun W h => ?_
      refine ⟨false, rfl, trivial, ?_⟩
      dsimp only [cond_false]
      have hne : f ≠ i := by omega
      exact Ent.sat (by refine ent_nf f (hF.2.2.resolve_left hne) ?_; exact ent_tail) h
    · refine wk_skip ?_
      refine wk_region ?_
      refine wo_v (v_load tyS_3 rfl rfl) ?_
      refine wo_v (v_addI rfl rfl) ?_
      refine wo_w0 (w_storeN1 tyN_3 rfl rfl rfl (by repeat constructor) (by repeat constructor) ?_)
      refine wo_nil ?_
      refine wk_inBlock ?_
      refine wk_roundEnd rfl (by repeat constructor) fun W h => ?_
      have hfe : f = i := by omega
      subst hfe
      refine ⟨true, rfl, trivial, ?_⟩
      dsimp only [cond_true]
      refine Ent.sat (by refine ent_nf (f + 1) ⟨Nat.le_refl _, (fun j q hj hqq => ?_), .inl rfl⟩ ?_; rotate_left; exact ent_tail; rcases Nat.lt_succ_iff_lt_or_eq.1 hj with hj | rfl; exact hF.2.1 j q hj hqq; rw [hp] at hqq; cases hqq; exact hf) h
  refine callw_ent (M := empJ LP ps b1 0 :: _) (ent_nf 0 ⟨Nat.le_refl _, (fun j p hj => absurd hj (Nat.not_lt_zero _)), .inl rfl⟩ (Ent.refl _)) ?_
  refine callw_spec (FnSpec.fv (first := #[]) (args := #[_]) (cap := #[_]) (s_clock_Clock_full_1 (c := c) (cb := cb) (room := room) (b := b) (m := m) (hand := hand) (ps := ps) hl hr (empJ LP ps b1) (empD LP ps b1) (fun i p hp hf L => empJ_skip hp hf L) hy)) (by repeat constructor) fun o _ => ?_
  refine wk_ent (M := empE LP ps room b1 :: _) (by rcases o with _ | i; exact empJ_end hl _; exact empD_end _) ?_
  refine wk_nf fun ⟨f, st, pd⟩ ⟨hR, hst, hpd⟩ => ?_
  subst hLP
  dsimp only [List.append_eq, List.cons_append, List.nil_append] at hR hst hpd ⊢
  have hfr : f ≤ room := by
    rcases hR with ⟨h1, _⟩ | ⟨p, h1, _⟩
    · omega
    · have := (List.getElem?_eq_some_iff.1 h1).1; omega
  refine wk_endExit (by repeat constructor) hst hpd ?_
  refine wk_seq ?_
  refine wk_seq ?_
  refine wk_draw (n := 7) (pend := 127) ⟨7, fun _ => True⟩ mixed (by kernel_rfl) rfl (fun _ _ => trivial) rfl ?_
  refine wd_a 0 rfl (v_load tyS_3 rfl rfl) ?_
  refine wd_a 1 rfl (v_move rfl) ?_
  refine wd_a 2 rfl (v_nilCheck rfl) ?_
  refine wd_a 3 rfl (v_fieldAddr tyF_130_0 rfl) ?_
  refine wd_a 4 rfl (v_load tyS_127 rfl rfl) ?_
  refine wd_a 5 rfl (v_len tyU_127 rfl) ?_
  refine wd_a 6 rfl (v_eql rfl rfl) ?_
  refine wd_done ?_
  refine wk_if rfl (fun hz => ?_) (fun hz => ?_)
  · refine wk_seq ?_
    refine wk_region ?_
    refine wo_v (v_assign rfl) ?_
    refine wo_nil ?_
    refine wk_retD Tryz.func51 rfl rfl (by repeat constructor) (res_tmp rfl res_nil) fun W h => ?_
    have hz' : f = room := by omega
    refine ⟨-1, rfl, .inl ⟨rfl, ?_⟩, Ent.sat (by refine ent_take ?_; refine ent_take ?_; exact ent_tail) h⟩
    rcases hR with ⟨_, h2⟩ | ⟨p, h2, _⟩
    · exact h2
    · have := (List.getElem?_eq_some_iff.1 h2).1; omega
  · refine wk_skip ?_
    refine wk_seq ?_
    refine wk_region ?_
    refine wo_v (v_load tyS_3 rfl rfl) ?_
    refine wo_v (v_assign rfl) ?_
    refine wo_nil ?_
    refine wk_retD Tryz.func51 rfl rfl (by repeat constructor) (res_tmp rfl res_nil) fun W h => ?_
    have hz' : f ≠ room := by omega
    refine ⟨f, rfl, .inr ?_, Ent.sat (by refine ent_take ?_; refine ent_take ?_; exact ent_tail) h⟩
    rcases hR with ⟨h2, _⟩ | ⟨p, h2, h3⟩
    · exact absurd h2 hz'
    · exact ⟨f, p, rfl, h2, h3⟩

end Go.Proofs.YtealmijbkebipaaGreatDoor

namespace Go.Proofs.YtealmijbkebipaaGreatDoor
open Go
attribute [local irreducible] own pe nf

def Plc.strip (p : Plc) : Plc := { p with marked := false }
def markedN (ps : List Plc) : Nat := (ps.filter (·.marked)).length
theorem markedN_lt {ps : List Plc} {i : Nat} {p : Plc} (hp : ps[i]? = some p) (hm : p.marked = true) : markedN (ps.set i { p with marked := false }) < markedN ps := by
  induction ps generalizing i with
  | nil => simp at hp
  | cons a l ih =>
    cases i with
    | zero =>
      simp at hp; subst hp
      simp [markedN, hm]
    | succ i =>
      have := ih (i := i) (by simpa using hp)
      unfold markedN at this ⊢
      rw [List.set_cons_succ, List.filter_cons, List.filter_cons]
      split
      · simp only [List.length_cons]; omega
      · exact this
theorem strip_set {ps : List Plc} {i : Nat} {p : Plc} (hp : ps[i]? = some p) : (ps.set i { p with marked := false }).map Plc.strip = ps.map Plc.strip := by
  induction ps generalizing i with
  | nil => simp at hp
  | cons a l ih =>
    cases i with
    | zero =>
      simp at hp; subst hp; rfl
    | succ i =>
      rw [List.set_cons_succ, List.map_cons, List.map_cons, ih (by simpa using hp)]

structure VicX where
  i : Nat
  hand : Nat
  ps : List Plc
theorem s_clock_Clock_victim {c room b m hand : Nat} {ps : List Plc} (hl : ps.length = room) (hr1 : 1 ≤ room) (hr : room ≤ 4096) (hh : hand < room) : FnSpec Tryz.prog 52 #[.pointer (some ⟨c, 0, none⟩)] [clkB c room b m hand, blk b (rowC Plc.cells ps) 126]
    (fun x : VicX => .int .i64 (x.i : Nat)) (fun x => x.i < room ∧ x.hand < room ∧ x.ps.map Plc.strip = ps.map Plc.strip) (fun x R => clkB c room b m x.hand :: blk b (rowC Plc.cells x.ps) 126 :: R) := by
  refine fn_spec Tryz.func52 rfl rfl rfl rfl fun G R => ?_
  dsimp only [List.append_eq, List.cons_append, List.nil_append, clkB]
  refine wk_seq ?_
  refine wk_region ?_
  refine wo_v (v_assign rfl) ?_
  refine wo_nil ?_
  refine wk_scope ?_
  refine wk_seq ?_
  refine wk_region ?_
  refine wo_v (v_assign rfl) ?_
  refine wo_nil ?_
  refine wk_seq ?_
  refine wk_label ?_
  refine wk_seq ?_
  refine wk_block ?_
  refine wk_loop (fun x : Nat × List Plc => x.1 < room ∧ x.2.length = room ∧ x.2.map Plc.strip = ps.map Plc.strip) (fun _ => [(0, .pointer (some ⟨c, 0, none⟩))]) (fun x => blk c [.slice (some ⟨b, 0, none⟩) room room, .map (some m), .int .i64 x.1] 130 :: blk b (rowC Plc.cells x.2) 126 :: R) (fun x => markedN x.2) (hand, ps) ⟨hh, hl, rfl⟩ ⟨rfl, trivial⟩ (by refine ent_take ?_; refine ent_take ?_; exact ent_tail) fun x0 hI next => ?_
  obtain ⟨h0, qs⟩ := x0
  obtain ⟨g1, g2, g3⟩ := hI
  dsimp only at g1 g2 g3 next ⊢
  have hlt : h0 < qs.length := by omega
  have hp : qs[h0]? = some qs[h0] := List.getElem?_eq_getElem hlt
  generalize qs[h0] = p at hp
  refine wk_block ?_
  refine wk_seq ?_
  refine wk_draw (n := 10) (pend := 1023) ⟨10, fun _ => True⟩ mixed (by kernel_rfl) rfl (fun _ _ => trivial) rfl ?_
  refine wd_a 0 rfl (v_move rfl) ?_
  refine wd_a 1 rfl (v_nilCheck rfl) ?_
  refine wd_a 2 rfl (v_fieldAddr tyF_130_0 rfl) ?_
  refine wd_a 3 rfl (v_load tyS_127 rfl rfl) ?_
  refine wd_a 4 rfl (v_move rfl) ?_
  refine wd_a 5 rfl (v_nilCheck rfl) ?_
  refine wd_a 6 rfl (v_fieldAddr tyF_130_2 rfl) ?_
  refine wd_a 7 rfl (v_load tyS_3 rfl rfl) ?_
  refine wd_a 8 rfl (v_indexAddrS (z := ⟨some ⟨b, 0, none⟩, room, room⟩) tyU_127 tyN_126 rfl rfl rfl (by omega)) ?_
  refine wd_a 9 rfl (v_assign rfl) ?_
  refine wd_done ?_
  refine wk_seq ?_
  refine wk_region ?_
  refine wo_v (v_move rfl) ?_
  refine wo_v (v_nilCheck rfl) ?_
  refine wo_v (v_fieldAddr tyF_130_2 rfl) ?_
  refine wo_v (v_load tyS_3 rfl rfl) ?_
  refine wo_v (v_assign rfl) ?_
  refine wo_nil ?_
  refine wk_seq ?_
  refine wk_draw (n := 15) (pend := 32767) ⟨15, fun _ => True⟩ mixed (by kernel_rfl) rfl (fun _ _ => trivial) rfl ?_
  refine wd_a 0 rfl (v_move rfl) ?_
  refine wd_a 1 rfl (v_move rfl) ?_
  refine wd_a 2 rfl (v_nilCheck rfl) ?_
  refine wd_a 3 rfl (v_fieldAddr tyF_130_2 rfl) ?_
  refine wd_a 4 rfl (v_load tyS_3 rfl rfl) ?_
  refine wd_a 5 rfl (v_addI rfl rfl) ?_
  refine wd_a 6 rfl (v_move rfl) ?_
  refine wd_a 7 rfl (v_nilCheck rfl) ?_
  refine wd_a 8 rfl (v_fieldAddr tyF_130_0 rfl) ?_
  refine wd_a 9 rfl (v_load tyS_127 rfl rfl) ?_
  refine wd_a 10 rfl (v_len tyU_127 rfl) ?_
  refine wd_a 11 rfl (v_remN (a := h0 + 1) (b := room) rfl rfl) ?_
  have hmod : (h0 + 1) % room < room := Nat.mod_lt _ (by omega)
  refine wd_a 12 rfl (v_nilCheck rfl) ?_
  refine wd_a 13 rfl (v_fieldAddr tyF_130_2 rfl) ?_
  refine wd_l0 14 rfl (w_storeN1 tyN_3 rfl rfl rfl (by repeat constructor) (by repeat constructor) ?_)
  refine ⟨fun _ _ _ => trivial, ?_⟩
  refine wd_done ?_
  refine wk_block ?_
  refine wk_seq ?_
  refine wk_region ?_
  refine wo_v (v_move rfl) ?_
  refine wo_v (v_nilCheck rfl) ?_
  refine wo_v (v_fieldAddr tyF_126_3 rfl) ?_
  refine wo_v (v_load tyS_4 rfl (rowC_cell Plc.cells_len hp (j := 5) (by decide))) ?_
  refine wo_v (v_not rfl) ?_
  refine wo_v (v_assign rfl) ?_
  refine wo_nil ?_
  refine wk_if rfl (fun hm => ?_) (fun hm => ?_)
  · refine wk_exit rfl ?_
    refine wk_seq ?_
    refine wk_region ?_
    refine wo_v (v_move rfl) ?_
    refine wo_v (v_assign rfl) ?_
    refine wo_nil ?_
    refine wk_ret Tryz.func52 rfl rfl (res_tmp rfl res_nil) fun W h => ?_
    exact ⟨⟨h0, (h0 + 1) % room, qs⟩, rfl, ⟨g1, hmod, g3⟩, Ent.sat (by refine ent_take ?_; refine ent_take ?_; exact ent_tail) h⟩
  · refine wk_region ?_
    refine wo_v (v_move rfl) ?_
    refine wo_v (v_nilCheck rfl) ?_
    refine wo_v (v_fieldAddr tyF_126_3 rfl) ?_
    refine wo_w0 (w_store1 tyN_4 rfl rfl rfl (blt_of (rowC_lt Plc.cells_len hp 5 1 (by decide))) (by repeat constructor) ?_)
    refine wo_nil ?_
    refine wk_inBlock ?_
    refine wk_inBlock ?_
    have hpm : p.marked = true := by simpa using hm
    rw [rowC_put1 (a' := { p with marked := false }) Plc.cells_len hp (by decide) rfl]
    refine (next ((h0 + 1) % room, qs.set h0 { p with marked := false }) ⟨hmod, by rw [List.length_set]; exact g2, (strip_set hp).trans g3⟩ (markedN_lt hp hpm)).use ⟨rfl, trivial⟩ ?_
    exact (by refine ent_take ?_; refine ent_take ?_; exact ent_tail)

def keysOf (ps : List Plc) : List Int := (ps.filter (·.full)).map (·.key)
def keyJ (LP : LoopState → Option Code → HP) (ps : List Plc) (b3 i : Nat) : HP := nf (fun x : SV => x.n = (keysOf (ps.take i)).length) fun x => [LP .ready none, blk b3 [x.v] 23, osl x ((keysOf (ps.take i)).map keyV) 1 3]
theorem keysOf_step {ps : List Plc} {i : Nat} {p : Plc} (hp : ps[i]? = some p) (hf : p.full = true) : keysOf (ps.take (i + 1)) = keysOf (ps.take i) ++ [p.key] := by
  have hlt := (List.getElem?_eq_some_iff.1 hp).1
  rw [List.getElem?_eq_getElem hlt] at hp
  unfold keysOf
  rw [List.take_succ_eq_append_getElem hlt, Option.some.inj hp, List.filter_append, List.map_append]
  simp [hf]
theorem keysOf_skip {ps : List Plc} {i : Nat} {p : Plc} (hp : ps[i]? = some p) (hf : p.full = false) : keysOf (ps.take (i + 1)) = keysOf (ps.take i) := by
  have hlt := (List.getElem?_eq_some_iff.1 hp).1
  rw [List.getElem?_eq_getElem hlt] at hp
  unfold keysOf
  rw [List.take_succ_eq_append_getElem hlt, Option.some.inj hp, List.filter_append, List.map_append]
  simp [hf]
theorem keysOf_len (ps : List Plc) : (keysOf ps).length ≤ ps.length := by
  unfold keysOf; rw [List.length_map]; exact List.length_filter_le _ _
theorem keysOf_take (ps : List Plc) (i : Nat) : (keysOf (ps.take i)).length ≤ i := Nat.le_trans (keysOf_len _) (by rw [List.length_take]; omega)

theorem s_clock_Clock_Keys_raw {c room b m hand : Nat} {ps : List Plc} (hl : ps.length = room) (hr : room ≤ 4096) : FnSpec Tryz.prog 47 #[.pointer (some ⟨c, 0, none⟩)] [clkB c room b m hand, blk b (rowC Plc.cells ps) 126]
    (fun x : SV => x.v) (fun x => x.n = (keysOf ps).length) (fun x R => osl x ((keysOf ps).map keyV) 1 3 :: clkB c room b m hand :: blk b (rowC Plc.cells ps) 126 :: R) := by
  refine fn_spec Tryz.func47 rfl rfl rfl rfl fun G R => ?_
  dsimp only [List.append_eq, List.cons_append, List.nil_append]
  refine wk_seq ?_
  refine wk_region ?_
  refine wo_v (v_assign rfl) ?_
  refine wo_nil ?_
  refine wk_seq ?_
  refine wk_region ?_
  refine wo_w (w_alloc1 tyZ_23 rfl fun b1 => ?_)
  refine wo_nil ?_
  refine wk_seq ?_
  refine wk_seq ?_
  refine wk_region ?_
  refine wo_v (v_move rfl) ?_
  refine wo_v (v_eqSome tyU_72 rfl rfl) ?_
  refine wo_nil ?_
  refine wk_condF rfl ?_
  refine wk_skip ?_
  refine wk_seq ?_
  refine wk_seq ?_
  refine wk_region ?_
  refine wo_v (v_move rfl) ?_
  refine wo_w (w_call (s_clock_Clock_full (c := c)) rfl (by repeat constructor) ?_)
  rintro cb -
  refine wo_nil ?_
  refine wk_block ?_
  refine Wk.use (E := [(0, .pointer (some ⟨c, 0, none⟩)), (3, .pointer (some ⟨b1, 0, none⟩)), (9, .func (.func 99) #[] #[.pointer (some ⟨cb, 0, none⟩)])]) (M := defH [] :: osl nilSV [] 1 3 :: _) ?_ ⟨rfl, rfl, rfl, trivial⟩ (ent_defNil (ent_oslNil (Ent.refl _)))
  refine wk_rangeFunc (rs := []) rfl rfl (by repeat constructor) fun lp r => ?_
  refine callw_loop fun LP hLP => ?_
  have hy : ∀ i p, ps[i]? = some p → p.full = true → FvSpec Tryz.prog (.func (.yield lp) #[] #[]) #[.int .i64 (i : Nat), .agg p.cells.toArray] [keyJ LP ps b1 i] (fun b : Bool => .bool b) (fun _ => True) (fun b R => (bif b then keyJ LP ps b1 (i + 1) else noH) :: R) := by
    intro i p hp hf
    have hlt : i < room := by rw [← hl]; exact (List.getElem?_eq_some_iff.1 hp).1
    have hkl := keysOf_take ps i
    refine FvSpec.nf fun x hx => ?_
    have hxn : x.n = (keysOf (ps.take i)).length := hx
    subst hLP
    refine fv_yield (args := [_, _]) rfl rfl fun G R => ?_
    dsimp only [List.append_eq, List.cons_append, List.nil_append]
    refine wk_region ?_
    refine wo_w (w_allocA tyZ_126 fun b2 => ?_)
    refine wo_w0 (w_storeN tyN_126 rfl rfl rfl rfl (by repeat constructor) (by repeat constructor) ?_)
    refine wo_nil ?_
    refine wk_beginRound rfl (by repeat constructor) ?_
    refine wk_block ?_
    refine wk_region ?_
    refine wo_v (v_load tyS_23 rfl rfl) ?_
    refine wo_v (v_fieldAddr tyF_126_0 rfl) ?_
    refine wo_v (v_load tyS_3 rfl rfl) ?_
    refine wo_w (w_buildSlice1 tyU_23 tyN_3 tyZ_3 rfl rfl rfl rfl fun b3 => ?_)
    refine wo_w (w_append tyU_23 tyU_23 (.inl ⟨_, rfl⟩) tyB_3 tyN_3 tyZ_3 rfl (by decide) rfl rfl (src_blk (vs := [keyV p.key]) rfl (Nat.le_refl _)) rfl (by repeat constructor) (by (try dsimp only); omega) (by (try dsimp only); omega) rfl fun b4 hb4 => ?_)
    refine wo_w0 (w_storeN1 tyN_23 rfl rfl rfl (by repeat constructor) (by repeat constructor) ?_)
    refine wo_nil ?_
    refine wk_inBlock ?_
    refine wk_roundEnd rfl (by repeat constructor) fun W h => ?_
    refine ⟨true, rfl, trivial, ?_⟩
    dsimp only [cond_true]
    unfold keyJ
    rw [keysOf_step hp hf, List.map_append]
    refine Ent.sat ?_ h
    refine ent_nf b4 (by rw [List.length_append, hb4, hxn]; rfl) ?_
    exact ent_tail
  refine callw_ent (M := keyJ LP ps b1 0 :: _) (ent_nf nilSV rfl (Ent.refl _)) ?_
  refine callw_spec (FnSpec.fv (first := #[]) (args := #[_]) (cap := #[_]) (s_clock_Clock_full_1 (c := c) (cb := cb) (room := room) (b := b) (m := m) (hand := hand) (ps := ps) hl hr (keyJ LP ps b1) (fun _ => noH) (fun i p hp hf L => by unfold keyJ; rw [keysOf_skip hp hf]; exact Ent.refl _) hy)) (by repeat constructor) fun o _ => ?_
  rcases o with _ | i
  rotate_left
  · exact wk_no
  dsimp only
  unfold keyJ
  rw [← hl, List.take_length]
  refine wk_nf fun z hz => ?_
  subst hLP
  dsimp only [List.append_eq, List.cons_append, List.nil_append]
  refine wk_endRange (by repeat constructor) (by simp) ?_
  dsimp only [Option.map, Option.toList, List.nil_append]
  refine wk_inBlock ?_
  refine wk_seq ?_
  refine wk_region ?_
  refine wo_v (v_load tyS_23 rfl rfl) ?_
  refine wo_v (v_assign rfl) ?_
  refine wo_nil ?_
  refine wk_retD Tryz.func47 rfl rfl (by repeat constructor) (res_tmp rfl res_nil) fun W h => ?_
  exact ⟨z, rfl, hz, Ent.sat (by refine ent_take ?_; refine ent_take ?_; refine ent_take ?_; exact ent_tail) h⟩

end Go.Proofs.YtealmijbkebipaaGreatDoor

namespace Go.Proofs.YtealmijbkebipaaGreatDoor
open Go

section
variable {β : Type}
def gdel : List (Int × β) → Int → List (Int × β)
  | [], _ => []
  | e :: l, k => if k = e.1 then l else e :: gdel l k
theorem mdel_map (l : List (Int × β)) (g : β → Value) (k : Int) : mdel (l.map fun e => (e.1, g e.2)) k = (gdel l k).map fun e => (e.1, g e.2) := by
  induction l with
  | nil => rfl
  | cons e l ih =>
    simp only [List.map_cons, mdel, gdel]
    split
    · rfl
    · simp only [List.map_cons, ih]
theorem gget_none {l : List (Int × β)} {k : Int} (h : k ∉ l.map Prod.fst) : gget l k = none := by
  induction l with
  | nil => rfl
  | cons e l ih =>
    rw [List.map_cons, List.mem_cons, not_or] at h
    simp only [gget]; rw [if_neg h.1]; exact ih h.2
theorem gget_del {l : List (Int × β)} {k : Int} (hn : (l.map Prod.fst).Nodup) (j : Int) : gget (gdel l k) j = if j = k then none else gget l j := by
  induction l with
  | nil => simp [gdel, gget]
  | cons e l ih =>
    rw [List.map_cons, List.nodup_cons] at hn
    simp only [gdel]
    by_cases h1 : k = e.1
    · rw [if_pos h1]
      by_cases h2 : j = k
      · rw [if_pos h2, h2, h1]; exact gget_none hn.1
      · rw [if_neg h2]; simp only [gget]; rw [if_neg (fun h => h2 (h.trans h1.symm))]
    · rw [if_neg h1]
      simp only [gget]
      by_cases h3 : j = e.1
      · rw [if_pos h3, if_pos h3, if_neg (fun h => h1 (h.symm.trans h3))]
      · rw [if_neg h3, if_neg h3]; exact ih hn.2
end
theorem atM_del (l : List (Int × Nat)) (k : Int) : mdel (atM l) k = atM (gdel l k) := mdel_map l (fun i : Nat => Value.int .i64 i) k
theorem atM_keys (l : List (Int × Nat)) : (atM l).map Prod.fst = l.map Prod.fst := by simp [atM, Function.comp_def]
theorem wk_mapN {P : Program} {C : Cx} {k : List Item} {e : Env} {L : List HP} {ds : List Deferred} {r : Nat} {l : MapL} (hp : HasH L (mapH r l)) (h : (l.map Prod.fst).Nodup → Wk P C ds k e L) : Wk P C ds k e L := by
  intro w tm s a'
  obtain ⟨h0, r0, H, hl⟩ := s
  obtain ⟨h1, _, ⟨_, hm, _⟩⟩ := hp.get hl
  exact h hm.keys w tm ⟨h0, r0, H, hl⟩ a'

section
variable {room b m hand : Nat} {mem : MemA} {ps : List Plc} {at_ : List (Int × Nat)}

theorem ClkOK.lay (h : ClkOK room mem ⟨b, ps, m, at_, hand⟩) {i : Nat} {q : Plc} (hi : ps[i]? = some q) (hq : q.full = false) (q' : Plc) (hf : q'.full = true) (hk : gget at_ q'.key = none) :
    ClkOK room (mset mem q'.key q'.page) ⟨b, ps.set i q', m, gput at_ q'.key i, hand⟩ := by
  have hlt := (List.getElem?_eq_some_iff.1 hi).1
  have hne : ∀ k j, gget at_ k = some j → i ≠ j := by
    rintro k j hg rfl
    obtain ⟨p, h1, h2, _⟩ := h.fwd k i hg
    dsimp only at h1
    rw [hi] at h1; cases h1; rw [hq] at h2; cases h2
  refine ⟨h.r1, h.r2, by rw [List.length_set]; exact h.len, h.hand, fun k j hg => ?_, fun j p hp hpf => ?_, fun k => ?_⟩
  · dsimp only at hg ⊢
    rw [gget_put] at hg
    by_cases hkk : k = q'.key
    · rw [if_pos hkk] at hg; cases hg
      exact ⟨q', by rw [List.getElem?_set_self hlt], hf, hkk.symm⟩
    · rw [if_neg hkk] at hg
      obtain ⟨p, h1, h2, h3⟩ := h.fwd k j hg
      exact ⟨p, by rw [List.getElem?_set_ne (hne k j hg)]; exact h1, h2, h3⟩
  · dsimp only at hp ⊢
    rw [gget_put]
    by_cases hij : i = j
    · subst hij
      rw [List.getElem?_set_self hlt] at hp; cases hp
      rw [if_pos rfl]
    · rw [List.getElem?_set_ne hij] at hp
      have := h.back j p hp hpf
      dsimp only at this
      rw [if_neg (fun e => by rw [e, hk] at this; cases this)]; exact this
  · dsimp only
    rw [gget_put]
    unfold mset
    by_cases hkk : k = q'.key
    · rw [if_pos hkk, if_pos hkk, Option.bind_some, List.getElem?_set_self hlt]; rfl
    · rw [if_neg hkk, if_neg hkk, h.mem k]
      dsimp only
      cases hg : gget at_ k with
      | none => rfl
      | some j => rw [Option.bind_some, Option.bind_some, List.getElem?_set_ne (hne k j hg)]

theorem ClkOK.dropAt (h : ClkOK room mem ⟨b, ps, m, at_, hand⟩) (hn : (at_.map Prod.fst).Nodup) {k : Int} {i : Nat} (hg : gget at_ k = some i) (q' : Plc) (hf : q'.full = false) :
    ClkOK room (mout mem k) ⟨b, ps.set i q', m, gdel at_ k, hand⟩ := by
  obtain ⟨q, hi, hq, hqk⟩ := h.fwd k i hg
  dsimp only at hi
  have hlt := (List.getElem?_eq_some_iff.1 hi).1
  have hne : ∀ k' j, k' ≠ k → gget at_ k' = some j → i ≠ j := by
    rintro k' j hkk hg' rfl
    obtain ⟨p, h1, h2, h3⟩ := h.fwd k' i hg'
    dsimp only at h1
    rw [hi] at h1; cases h1
    exact hkk (h3.symm.trans hqk)
  refine ⟨h.r1, h.r2, by rw [List.length_set]; exact h.len, h.hand, fun k' j hg' => ?_, fun j p hp hpf => ?_, fun k' => ?_⟩
  · dsimp only at hg' ⊢
    rw [gget_del hn] at hg'
    by_cases hkk : k' = k
    · rw [if_pos hkk] at hg'; cases hg'
    · rw [if_neg hkk] at hg'
      obtain ⟨p, h1, h2, h3⟩ := h.fwd k' j hg'
      exact ⟨p, by rw [List.getElem?_set_ne (hne k' j hkk hg')]; exact h1, h2, h3⟩
  · dsimp only at hp ⊢
    rw [gget_del hn]
    by_cases hij : i = j
    · subst hij
      rw [List.getElem?_set_self hlt] at hp; cases hp
      rw [hf] at hpf; cases hpf
    · rw [List.getElem?_set_ne hij] at hp
      have := h.back j p hp hpf
      dsimp only at this
      rw [if_neg (fun e => by rw [e, hg] at this; cases this; exact hij rfl)]; exact this
  · dsimp only
    rw [gget_del hn]
    unfold mout
    by_cases hkk : k' = k
    · rw [if_pos hkk, if_pos hkk]; rfl
    · rw [if_neg hkk, if_neg hkk, h.mem k']
      dsimp only
      cases hg' : gget at_ k' with
      | none => rfl
      | some j => rw [Option.bind_some, Option.bind_some, List.getElem?_set_ne (hne k' j hkk hg')]

theorem ClkOK.over (h : ClkOK room mem ⟨b, ps, m, at_, hand⟩) {k : Int} {i : Nat} (hg : gget at_ k = some i) (q' : Plc) (hf : q'.full = true) (hk : q'.key = k) :
    ClkOK room (mset mem k q'.page) ⟨b, ps.set i q', m, at_, hand⟩ := by
  obtain ⟨q, hi, hq, hqk⟩ := h.fwd k i hg
  dsimp only at hi
  have hlt := (List.getElem?_eq_some_iff.1 hi).1
  have hne : ∀ k' j, k' ≠ k → gget at_ k' = some j → i ≠ j := by
    rintro k' j hkk hg' rfl
    obtain ⟨p, h1, h2, h3⟩ := h.fwd k' i hg'
    dsimp only at h1
    rw [hi] at h1; cases h1
    exact hkk (h3.symm.trans hqk)
  refine ⟨h.r1, h.r2, by rw [List.length_set]; exact h.len, h.hand, fun k' j hg' => ?_, fun j p hp hpf => ?_, fun k' => ?_⟩
  · dsimp only at hg' ⊢
    by_cases hkk : k' = k
    · subst hkk
      rw [hg] at hg'; cases hg'
      exact ⟨q', by rw [List.getElem?_set_self hlt], hf, hk⟩
    · obtain ⟨p, h1, h2, h3⟩ := h.fwd k' j hg'
      exact ⟨p, by rw [List.getElem?_set_ne (hne k' j hkk hg')]; exact h1, h2, h3⟩
  · dsimp only at hp ⊢
    by_cases hij : i = j
    · subst hij
      rw [List.getElem?_set_self hlt] at hp; cases hp
      rw [hk]; exact hg
    · rw [List.getElem?_set_ne hij] at hp
      exact h.back j p hp hpf
  · dsimp only
    unfold mset
    by_cases hkk : k' = k
    · rw [if_pos hkk, hkk, hg, Option.bind_some, List.getElem?_set_self hlt]; rfl
    · rw [if_neg hkk, h.mem k']
      dsimp only
      cases hg' : gget at_ k' with
      | none => rfl
      | some j => rw [Option.bind_some, Option.bind_some, List.getElem?_set_ne (hne k' j hkk hg')]

theorem strip_get {ps ps' : List Plc} (e : ps'.map Plc.strip = ps.map Plc.strip) {j : Nat} {p' : Plc} (h : ps'[j]? = some p') : ∃ p, ps[j]? = some p ∧ p'.strip = p.strip := by
  have h1 : (ps'.map Plc.strip)[j]? = some p'.strip := by rw [List.getElem?_map, h]; rfl
  rw [e, List.getElem?_map] at h1
  obtain ⟨p, h2, h3⟩ := Option.map_eq_some_iff.1 h1
  exact ⟨p, h2, h3.symm⟩
theorem strip_eq {p p' : Plc} (h : p'.strip = p.strip) : p'.key = p.key ∧ p'.full = p.full ∧ p'.page = p.page ∧ p'.sv = p.sv ∧ p'.load = p.load := by
  cases p; cases p'
  simp only [Plc.strip, Plc.mk.injEq] at h
  simp [Plc.page, h]
theorem ClkOK.restrip (h : ClkOK room mem ⟨b, ps, m, at_, hand⟩) {ps' : List Plc} {hand' : Nat} (e : ps'.map Plc.strip = ps.map Plc.strip) (hh : hand' < room) : ClkOK room mem ⟨b, ps', m, at_, hand'⟩ := by
  refine ⟨h.r1, h.r2, ?_, hh, fun k j hg => ?_, fun j p hp hpf => ?_, fun k => ?_⟩
  · have := congrArg List.length e
    rw [List.length_map, List.length_map] at this
    rw [this]; exact h.len
  · obtain ⟨p, h1, h2, h3⟩ := h.fwd k j hg
    obtain ⟨p', g1, g2⟩ := strip_get e.symm h1
    obtain ⟨g3, g4, _⟩ := strip_eq g2
    exact ⟨p', g1, g4 ▸ h2, g3 ▸ h3⟩
  · obtain ⟨p', g1, g2⟩ := strip_get e hp
    obtain ⟨g3, g4, _⟩ := strip_eq g2
    rw [g3]; exact h.back j p' g1 (g4 ▸ hpf)
  · rw [h.mem k]
    dsimp only
    cases hg : gget at_ k with
    | none => rfl
    | some j =>
      obtain ⟨p, h1, _⟩ := h.fwd k j hg
      obtain ⟨p', g1, g2⟩ := strip_get e.symm h1
      dsimp only at h1
      rw [Option.bind_some, Option.bind_some, h1, g1, Option.map_some, Option.map_some, (strip_eq g2).2.2.1]
theorem svs_strip {ps ps' : List Plc} (e : ps'.map Plc.strip = ps.map Plc.strip) : svs ps' = svs ps := by
  have := congrArg (List.map fun p : Plc => (p.sv, p.load)) e
  simpa [svs, Function.comp_def, Plc.strip] using this

theorem ClkOK.keys (h : ClkOK room mem ⟨b, ps, m, at_, hand⟩) : KeysR mem (keysOf ps) room := by
  refine ⟨?_, fun k => ?_, Nat.le_trans (keysOf_len ps) (Nat.le_of_eq h.len)⟩
  · unfold keysOf
    rw [List.Nodup, List.pairwise_map, List.pairwise_filter, List.pairwise_iff_getElem]
    intro i j hi hj hij h1 h2 he
    have g1 := h.back i ps[i] (List.getElem?_eq_getElem hi) h1
    have g2 := h.back j ps[j] (List.getElem?_eq_getElem hj) h2
    rw [he] at g1
    rw [g1] at g2; cases g2; omega
  · unfold keysOf
    rw [List.mem_map]
    constructor
    · rintro ⟨p, hp, rfl⟩
      obtain ⟨hp, hf⟩ := List.mem_filter.1 hp
      obtain ⟨i, hi⟩ := List.getElem?_of_mem hp
      have := h.back i p hi hf
      rw [h.mem, this, Option.bind_some]; dsimp only; rw [hi]; rfl
    · intro hk
      rw [h.mem] at hk
      cases hg : gget at_ k with
      | none => rw [hg] at hk; cases hk
      | some i =>
        obtain ⟨p, h1, h2, h3⟩ := h.fwd k i hg
        exact ⟨p, List.mem_filter.2 ⟨List.mem_of_getElem? h1, h2⟩, h3⟩
end

theorem s_clock_Clock_Keys {c room : Nat} {mem : MemA} : FnSpec Tryz.prog 47 #[.pointer (some ⟨c, 0, none⟩)] [ClkH c room mem]
    (fun x : SV × List Int => x.1.v) (fun x => x.1.n = x.2.length ∧ KeysR mem x.2 room) (fun x R => osl x.1 (x.2.map keyV) 1 3 :: ClkH c room mem :: R) := by
  refine ⟨s_clock_Clock_Keys_raw (c := c) (room := 0) (b := 0) (m := 0) (hand := 0) (ps := []) rfl (by decide) |>.1, fun G w R s => ?_⟩
  obtain ⟨h0, r, H, h1, h2, hs, ⟨⟨b, ps, m, at_, hand⟩, hw, k1⟩, k2⟩ := s
  have s1 : Sat G w (clkL c room ⟨b, ps, m, at_, hand⟩ ++ R) := ⟨h0, r, H, starL_append.2 ⟨h1, h2, hs, k1, k2⟩⟩
  refine Calls.mono ((s_clock_Clock_Keys_raw (c := c) (room := room) (b := b) (m := m) (hand := hand) (ps := ps) hw.len hw.r2).2 G w _ s1) fun e w' ⟨v, he, x, hv, hf, hs⟩ => ⟨v, he, (x, keysOf ps), hv, ⟨hf, hw.keys⟩, ?_⟩
  exact Ent.sat (by refine ent_take ?_; refine ent_nf ⟨b, ps, m, at_, hand⟩ hw ?_; exact ent_tail) hs

end Go.Proofs.YtealmijbkebipaaGreatDoor
