/- Layer 8 (clock): Put and Drop. Layer 6 (plan): how a device is laid out, of a plan that fits. Layer 13 (store): what it is made of; a page written out, kept. -/
import Derived.Test.YtealmijbkebipaaGreatDoorSwAM
namespace Go.Proofs.YtealmijbkebipaaGreatDoor
open Go
attribute [local irreducible] own pe nf

structure PutX where
  res : Option (Int × PageA)
  sv : SV
  mem : MemA
def goneK : Option (Int × PageA) → Int
  | none => 0
  | some x => x.1
def goneP : Option (Int × PageA) → PageA
  | none => ⟨0, [], false⟩
  | some x => x.2

theorem s_clock_Clock_Put {c room : Nat} {mem : MemA} {k : Int} {p : PageA} {sv : SV} : FnSpec Tryz.prog 21 #[.pointer (some ⟨c, 0, none⟩), .int .i64 k, pgV p sv] [ClkH c room mem, pe (bsl sv p.load)]
    (fun x : PutX => .tuple #[.int .i64 (goneK x.res), pgV (goneP x.res) x.sv, .bool x.res.isSome]) (fun x => PutR mem k p x.res x.mem) (fun x R => pe (bsl x.sv (goneP x.res).load) :: ClkH c room x.mem :: R) := by
  refine fn_spec Tryz.func21 rfl rfl rfl rfl fun G R => ?_
  refine wk_nf fun ⟨b, ps, m, at_, hand⟩ hw => ?_
  dsimp only [List.append_eq, List.cons_append, List.nil_append, clkL] at hw ⊢
  refine wk_mapN (r := m) (l := atM at_) (by repeat constructor) fun hn => ?_
  rw [atM_keys] at hn
  have hr1 := hw.r1
  have hr2 := hw.r2
  rcases hg : gget at_ k with _ | i
  · have hm := hw.no hg
    refine wk_seq ?_
    refine wk_region ?_
    refine wo_w (w_boxA rfl fun b1 => ?_)
    refine wo_v (v_assign rfl) ?_
    refine wo_w (w_allocA tyZ_67 fun b2 => ?_)
    refine wo_v (v_assign rfl) ?_
    refine wo_nil ?_
    refine wk_seq ?_
    refine wk_seq ?_
    refine wk_region ?_
    refine wo_v (v_move rfl) ?_
    refine wo_v (v_eqSome tyU_72 rfl rfl) ?_
    refine wo_nil ?_
    refine wk_condF rfl ?_
    refine wk_skip ?_
    refine wk_seq ?_
    refine wk_seq ?_
    refine wk_region ?_
    refine wo_v (v_move rfl) ?_
    refine wo_v (v_move rfl) ?_
    refine wo_w (w_call (s_clock_Clock_find (room := room) (k := k) (fun i hg => (hw.at hg).choose_spec.2.2.2.2)) rfl (by repeat constructor) ?_)
    rintro ⟨⟩ -
    rw [hg]
    refine wo_v (v_assign rfl) ?_
    refine wo_nil ?_
    refine wk_seq ?_
    refine wk_region ?_
    refine wo_v (v_move rfl) ?_
    refine wo_v (v_neNone tyU_123 rfl rfl) ?_
    refine wo_nil ?_
    refine wk_condF rfl ?_
    refine wk_skip ?_
    refine wk_seq ?_
    refine wk_region ?_
    refine wo_v (v_move rfl) ?_
    refine wo_w (w_call (s_clock_Clock_empty (c := c) (b := b) (m := m) (hand := hand) (ps := ps) hw.len hr2) rfl (by repeat constructor) ?_)
    rintro x hx
    refine wo_v (v_assign rfl) ?_
    refine wo_nil ?_
    refine wk_seq ?_
    refine wk_seq ?_
    refine wk_region ?_
    refine wo_v (v_move rfl) ?_
    refine wo_v (v_lss rfl rfl) ?_
    refine wo_nil ?_
    refine wk_if rfl (fun hx0 => ?_) (fun hx0 => ?_)
    · have hfull : ∀ p ∈ ps, p.full = true := by
        rcases hx with ⟨_, h⟩ | ⟨f, q, h1, _⟩
        · exact h
        · omega
      refine wk_seq ?_
      refine wk_region ?_
      refine wo_v (v_move rfl) ?_
      refine wo_w (w_call (s_clock_Clock_victim (c := c) (b := b) (m := m) (hand := hand) (ps := ps) hw.len hr1 hr2 hw.hand) rfl (by repeat constructor) ?_)
      rintro ⟨i, hand', ps1⟩ ⟨hi, hh', hst⟩
      have hw1 := hw.restrip hst hh'
      have hlen1 : ps1.length = room := hw1.len
      have hlt : i < ps1.length := by rw [hlen1]; exact hi
      have hp : ps1[i]? = some ps1[i] := List.getElem?_eq_getElem hlt
      generalize ps1[i] = q at hp
      dsimp only
      refine wo_v (v_assign rfl) ?_
      refine wo_nil ?_
      refine wk_seq ?_
      refine wk_draw (n := 19) (pend := 524287) ⟨19, fun _ => True⟩ mixed (by kernel_rfl) rfl (fun _ _ => trivial) rfl ?_
      refine wd_a 0 rfl (v_move rfl) ?_
      refine wd_a 1 rfl (v_nilCheck rfl) ?_
      refine wd_a 2 rfl (v_fieldAddr tyF_130_0 rfl) ?_
      refine wd_a 3 rfl (v_load tyS_127 rfl rfl) ?_
      refine wd_a 4 rfl (v_move rfl) ?_
      refine wd_a 5 rfl (v_indexAddrS (z := ⟨some ⟨b, 0, none⟩, room, room⟩) tyU_127 tyN_126 rfl rfl rfl hi) ?_
      refine wd_a 6 rfl (v_fieldAddr tyF_126_0 rfl) ?_
      refine wd_a 7 rfl (v_load tyS_3 rfl (rowC_cell Plc.cells_len hp (j := 0) (by decide))) ?_
      refine wd_a 8 rfl (v_move rfl) ?_
      refine wd_a 9 rfl (v_nilCheck rfl) ?_
      refine wd_a 10 rfl (v_fieldAddr tyF_130_0 rfl) ?_
      refine wd_a 11 rfl (v_load tyS_127 rfl rfl) ?_
      refine wd_a 12 rfl (v_move rfl) ?_
      refine wd_a 13 rfl (v_indexAddrS (z := ⟨some ⟨b, 0, none⟩, room, room⟩) tyU_127 tyN_126 rfl rfl rfl hi) ?_
      refine wd_a 14 rfl (v_fieldAddr tyF_126_1 rfl) ?_
      refine wd_a 15 rfl (v_loadA tyA_67 rfl (rowC_part Plc.cells_len hp 1 3 (by decide)) rfl) ?_
      refine wd_a 16 rfl (v_assign rfl) ?_
      refine wd_l0 17 rfl (w_storeN tyN_67 rfl rfl rfl rfl (by repeat constructor) (by repeat constructor) ?_)
      refine ⟨fun _ _ _ => trivial, ?_⟩
      refine wd_a 18 rfl (v_assign rfl) ?_
      refine wd_done ?_
      refine wk_region ?_
      refine wo_v (v_move rfl) ?_
      refine wo_v (v_nilCheck rfl) ?_
      refine wo_v (v_fieldAddr tyF_130_1 rfl) ?_
      refine wo_v (v_load tyS_128 rfl rfl) ?_
      refine wo_v (v_move rfl) ?_
      refine wo_w0 (w_delete tyM_128 rfl rfl (by repeat constructor) ?_)
      refine wo_nil ?_
      refine wk_seq ?_
      refine wk_draw (n := 10) (pend := 1023) ⟨10, fun _ => True⟩ mixed (by kernel_rfl) rfl (fun _ _ => trivial) rfl ?_
      refine wd_a 0 rfl (v_move rfl) ?_
      refine wd_a 1 rfl (v_nilCheck rfl) ?_
      refine wd_a 2 rfl (v_fieldAddr tyF_130_0 rfl) ?_
      refine wd_a 3 rfl (v_load tyS_127 rfl rfl) ?_
      refine wd_a 4 rfl (v_move rfl) ?_
      refine wd_a 5 rfl (v_move rfl) ?_
      refine wd_a 6 rfl (v_loadN tyA_67 rfl (by repeat constructor) (by repeat constructor)) ?_
      refine wd_a 7 rfl (v_buildN tyBu_126 rfl (by repeat constructor)) ?_
      refine wd_a 8 rfl (v_indexAddrS (z := ⟨some ⟨b, 0, none⟩, room, room⟩) tyU_127 tyN_126 rfl rfl rfl hi) ?_
      refine wd_l0 9 rfl (w_storeRow tyN_126 rfl rfl Plc.cells_len hp ⟨k, p.stamp, sv, p.load, p.dirty, true, true⟩ rfl rfl (by repeat constructor) ?_)
      refine ⟨fun _ _ _ => trivial, ?_⟩
      refine wd_done ?_
      refine wk_seq ?_
      refine wk_region ?_
      refine wo_v (v_move rfl) ?_
      refine wo_v (v_nilCheck rfl) ?_
      refine wo_v (v_fieldAddr tyF_130_1 rfl) ?_
      refine wo_v (v_load tyS_128 rfl rfl) ?_
      refine wo_v (v_move rfl) ?_
      refine wo_v (v_move rfl) ?_
      refine wo_w0 (w_mapUpdate tyM_128 rfl rfl rfl (by repeat constructor) ?_)
      refine wo_nil ?_
      refine wk_seq ?_
      refine wk_draw (n := 6) (pend := 63) ⟨6, fun _ => True⟩ mixed (by kernel_rfl) rfl (fun _ _ => trivial) rfl ?_
      refine wd_a 0 rfl (v_move rfl) ?_
      refine wd_a 1 rfl (v_loadN tyA_67 rfl (by repeat constructor) (by repeat constructor)) ?_
      refine wd_a 3 rfl (v_assign rfl) ?_
      refine wd_p 2 rfl (v_move rfl) ?_
      refine wd_l0 4 rfl (w_storeN tyN_67 rfl rfl rfl rfl (by repeat constructor) (by repeat constructor) ?_)
      refine ⟨fun _ _ _ => trivial, ?_⟩
      refine wd_a 5 rfl (v_assign rfl) ?_
      refine wd_done ?_
      refine wk_ret Tryz.func21 rfl rfl (res_tmp rfl (res_cellA tyA_67 rfl (by repeat constructor) rfl (res_tmp rfl res_nil))) fun W h => ?_
      have hqf : q.full = true := by
        obtain ⟨p0, h1, h2⟩ := strip_get hst hp
        rw [(strip_eq h2).2.1]; exact hfull p0 (List.mem_of_getElem? h1)
      have hgq : gget at_ q.key = some i := hw1.back i q hp hqf
      have hmq : mem q.key = some q.page := by
        obtain ⟨p', h1, _, _, h4, _⟩ := hw1.at hgq
        have h1 : ps1[i]? = some p' := h1
        rw [hp] at h1; cases h1; exact h4
      rw [atM_del, atM_put] at h
      have hok := (hw1.dropAt hn hgq { q with full := false } rfl).lay (i := i) (q := { q with full := false }) (by rw [List.getElem?_set_self hlt]) rfl ⟨k, p.stamp, sv, p.load, p.dirty, true, true⟩ rfl (by show gget (gdel at_ q.key) k = none; rw [gget_del hn]; split; rfl; exact hg)
      rw [List.set_set] at hok
      refine ⟨⟨some (q.key, q.page), q.sv, _⟩, rfl, .goes hm hmq, Ent.sat ?_ h⟩
      refine (ent_ro (p := bslAll (svs ps)) (q := bsl q.sv q.load) (by repeat constructor) (by rw [← svs_strip hst]; exact bslAll_sv hp) (Ent.refl _)).trans ?_
      refine (ent_pe2 (p := bslAll (svs ps)) (q := bsl sv p.load) (s := bslAll (svs (ps1.set i ⟨k, p.stamp, sv, p.load, p.dirty, true, true⟩))) (by repeat constructor) (by repeat constructor) (fun r h1 h2 => svs_set r (by rw [svs_strip hst]; exact h1) h2)).trans ?_
      refine ent_take ?_
      refine ent_nf ⟨b, ps1.set i ⟨k, p.stamp, sv, p.load, p.dirty, true, true⟩, m, gput (gdel at_ q.key) k i, hand'⟩ hok ?_
      exact ent_tail
    · obtain ⟨f, q, rfl, hp, hqf⟩ : ∃ (f : Nat) (p : Plc), x = f ∧ ps[f]? = some p ∧ p.full = false := by
        rcases hx with ⟨h1, _⟩ | h1
        · omega
        · exact h1
      have hlt := (List.getElem?_eq_some_iff.1 hp).1
      have hlen : ps.length = room := hw.len
      have hi : f < room := by omega
      refine wk_skip ?_
      refine wk_seq ?_
      refine wk_draw (n := 10) (pend := 1023) ⟨10, fun _ => True⟩ mixed (by kernel_rfl) rfl (fun _ _ => trivial) rfl ?_
      refine wd_a 0 rfl (v_move rfl) ?_
      refine wd_a 1 rfl (v_nilCheck rfl) ?_
      refine wd_a 2 rfl (v_fieldAddr tyF_130_0 rfl) ?_
      refine wd_a 3 rfl (v_load tyS_127 rfl rfl) ?_
      refine wd_a 4 rfl (v_move rfl) ?_
      refine wd_a 5 rfl (v_move rfl) ?_
      refine wd_a 6 rfl (v_loadN tyA_67 rfl (by repeat constructor) (by repeat constructor)) ?_
      refine wd_a 7 rfl (v_buildN tyBu_126 rfl (by repeat constructor)) ?_
      refine wd_a 8 rfl (v_indexAddrS (z := ⟨some ⟨b, 0, none⟩, room, room⟩) tyU_127 tyN_126 rfl rfl rfl hi) ?_
      refine wd_l0 9 rfl (w_storeRow tyN_126 rfl rfl Plc.cells_len hp ⟨k, p.stamp, sv, p.load, p.dirty, true, true⟩ rfl rfl (by repeat constructor) ?_)
      refine ⟨fun _ _ _ => trivial, ?_⟩
      refine wd_done ?_
      refine wk_seq ?_
      refine wk_region ?_
      refine wo_v (v_move rfl) ?_
      refine wo_v (v_nilCheck rfl) ?_
      refine wo_v (v_fieldAddr tyF_130_1 rfl) ?_
      refine wo_v (v_load tyS_128 rfl rfl) ?_
      refine wo_v (v_move rfl) ?_
      refine wo_v (v_move rfl) ?_
      refine wo_w0 (w_mapUpdate tyM_128 rfl rfl rfl (by repeat constructor) ?_)
      refine wo_nil ?_
      refine wk_seq ?_
      refine wk_draw (n := 6) (pend := 63) ⟨6, fun _ => True⟩ mixed (by kernel_rfl) rfl (fun _ _ => trivial) rfl ?_
      refine wd_a 0 rfl (v_move rfl) ?_
      refine wd_a 1 rfl (v_loadN tyA_67 rfl (by repeat constructor) (by repeat constructor)) ?_
      refine wd_a 3 rfl (v_assign rfl) ?_
      refine wd_p 2 rfl (v_move rfl) ?_
      refine wd_l0 4 rfl (w_storeN tyN_67 rfl rfl rfl rfl (by repeat constructor) (by repeat constructor) ?_)
      refine ⟨fun _ _ _ => trivial, ?_⟩
      refine wd_a 5 rfl (v_assign rfl) ?_
      refine wd_done ?_
      refine wk_ret Tryz.func21 rfl rfl (res_tmp rfl (res_cellA tyA_67 rfl (by repeat constructor) rfl (res_tmp rfl res_nil))) fun W h => ?_
      rw [atM_put] at h
      have hok := hw.lay hp hqf ⟨k, p.stamp, sv, p.load, p.dirty, true, true⟩ rfl hg
      refine ⟨⟨none, nilSV, _⟩, rfl, .stay, Ent.sat ?_ h⟩
      refine ent_roNil rfl ?_
      refine (ent_pe2 (p := bslAll (svs ps)) (q := bsl sv p.load) (s := bslAll (svs (ps.set f ⟨k, p.stamp, sv, p.load, p.dirty, true, true⟩))) (by repeat constructor) (by repeat constructor) (fun r h1 h2 => svs_set r h1 h2)).trans ?_
      refine ent_nf ⟨b, ps.set f ⟨k, p.stamp, sv, p.load, p.dirty, true, true⟩, m, gput at_ k f, hand⟩ hok ?_
      exact ent_tail
  · obtain ⟨q, hp, hf, hk, hm, hlt⟩ := hw.at hg
    dsimp only at hp
    have hlt2 := (List.getElem?_eq_some_iff.1 hp).1
    refine wk_seq ?_
    refine wk_region ?_
    refine wo_w (w_boxA rfl fun b1 => ?_)
    refine wo_v (v_assign rfl) ?_
    refine wo_w (w_allocA tyZ_67 fun b2 => ?_)
    refine wo_v (v_assign rfl) ?_
    refine wo_nil ?_
    refine wk_seq ?_
    refine wk_seq ?_
    refine wk_region ?_
    refine wo_v (v_move rfl) ?_
    refine wo_v (v_eqSome tyU_72 rfl rfl) ?_
    refine wo_nil ?_
    refine wk_condF rfl ?_
    refine wk_skip ?_
    refine wk_seq ?_
    refine wk_seq ?_
    refine wk_region ?_
    refine wo_v (v_move rfl) ?_
    refine wo_v (v_move rfl) ?_
    refine wo_w (w_call (s_clock_Clock_find (room := room) (k := k) (fun i hg => (hw.at hg).choose_spec.2.2.2.2)) rfl (by repeat constructor) ?_)
    rintro ⟨⟩ -
    rw [hg]
    refine wo_v (v_assign rfl) ?_
    refine wo_nil ?_
    refine wk_seq ?_
    refine wk_region ?_
    refine wo_v (v_move rfl) ?_
    refine wo_v (v_neSome tyU_123 rfl rfl) ?_
    refine wo_nil ?_
    refine wk_condT rfl ?_
    refine wk_seq ?_
    refine wk_region ?_
    refine wo_v (v_move rfl) ?_
    refine wo_v (v_move rfl) ?_
    refine wo_v (v_loadN tyA_67 rfl (by repeat constructor) (by repeat constructor)) ?_
    refine wo_v (v_nilCheck rfl) ?_
    refine wo_v (v_fieldAddr tyF_126_1 rfl) ?_
    refine wo_w0 (w_storeRowP (j := 1) tyN_67 rfl rfl Plc.cells_len hp (by decide) ⟨q.key, p.stamp, sv, p.load, p.dirty, q.full, q.marked⟩ rfl rfl rfl (by repeat constructor) ?_)
    refine wo_v (v_nilCheck rfl) ?_
    refine wo_v (v_fieldAddr tyF_126_3 rfl) ?_
    refine wo_w0 (w_storeRowP (j := 5) (a := ⟨q.key, p.stamp, sv, p.load, p.dirty, q.full, q.marked⟩) tyN_4 rfl rfl Plc.cells_len (List.getElem?_set_self hlt2) (by decide) ⟨q.key, p.stamp, sv, p.load, p.dirty, q.full, true⟩ rfl rfl rfl (by repeat constructor) ?_)
    refine wo_nil ?_
    refine wk_seq ?_
    refine wk_draw (n := 4) (pend := 15) ⟨4, fun _ => True⟩ mixed (by kernel_rfl) rfl (fun _ _ => trivial) rfl ?_
    refine wd_a 0 rfl (v_loadN tyA_67 rfl (by repeat constructor) (by repeat constructor)) ?_
    refine wd_a 1 rfl (v_assign rfl) ?_
    refine wd_l0 2 rfl (w_storeN tyN_67 rfl rfl rfl rfl (by repeat constructor) (by repeat constructor) ?_)
    refine ⟨fun _ _ _ => trivial, ?_⟩
    refine wd_a 3 rfl (v_assign rfl) ?_
    refine wd_done ?_
    refine wk_ret Tryz.func21 rfl rfl (res_tmp rfl (res_cellA tyA_67 rfl (by repeat constructor) rfl (res_tmp rfl res_nil))) fun W h => ?_
    rw [List.set_set] at h
    have hok := hw.over hg ⟨q.key, p.stamp, sv, p.load, p.dirty, q.full, true⟩ hf hk
    refine ⟨⟨none, nilSV, _⟩, rfl, .stay, Ent.sat ?_ h⟩
    refine ent_roNil rfl ?_
    refine (ent_pe2 (p := bslAll (svs ps)) (q := bsl sv p.load) (s := bslAll (svs (ps.set i ⟨q.key, p.stamp, sv, p.load, p.dirty, q.full, true⟩))) (by repeat constructor) (by repeat constructor) (fun r h1 h2 => svs_set r h1 h2)).trans ?_
    refine ent_nf ⟨b, ps.set i ⟨q.key, p.stamp, sv, p.load, p.dirty, q.full, true⟩, m, at_, hand⟩ hok ?_
    exact ent_tail

theorem s_clock_Clock_Drop {c room : Nat} {mem : MemA} {k : Int} : FnSpec Tryz.prog 63 #[.pointer (some ⟨c, 0, none⟩), .int .i64 k] [ClkH c room mem]
    (fun sv : SV => .tuple #[pgV (pageO (mem k)) sv, .bool (mem k).isSome]) (fun _ => True) (fun sv R => pe (bsl sv (pageO (mem k)).load) :: ClkH c room (mout mem k) :: R) := by
  refine fn_spec Tryz.func63 rfl rfl rfl rfl fun G R => ?_
  dsimp only [List.append_eq, List.cons_append, List.nil_append, clkL]
  refine wk_seq ?_
  refine wk_region ?_
  refine wo_w (w_allocA tyZ_67 fun b1 => ?_)
  refine wo_v (v_assign rfl) ?_
  refine wo_nil ?_
  refine wk_seq ?_
  refine wk_region ?_
  refine wo_v (v_move rfl) ?_
  refine wo_v (v_move rfl) ?_
  refine wo_w (w_call (s_clock_Clock_Look (room := room) (mem := mem) (k := k)) rfl (by repeat constructor) ?_)
  rintro sv -
  refine wo_v (v_move rfl) ?_
  refine wo_v (v_extract rfl rfl) ?_
  refine wo_v (v_extract rfl rfl) ?_
  refine wo_w (w_allocA tyZ_67 fun b2 => ?_)
  refine wo_w0 (w_storeN tyN_67 rfl rfl rfl rfl (by repeat constructor) (by repeat constructor) ?_)
  refine wo_v (v_assign rfl) ?_
  refine wo_nil ?_
  refine wk_seq ?_
  refine wk_seq ?_
  refine wk_region ?_
  refine wo_v (v_move rfl) ?_
  refine wo_nil ?_
  refine wk_if rfl (fun hs => ?_) (fun hs => ?_)
  · refine wk_ent (ent_take (p := ClkH c room mem) (t := by repeat constructor) (Ent.refl _)) ?_
    refine wk_nf fun ⟨b, ps, m, at_, hand⟩ hw => ?_
    dsimp only [List.append_eq, List.cons_append, List.nil_append, clkL] at hw ⊢
    refine wk_mapN (r := m) (l := atM at_) (by repeat constructor) fun hn => ?_
    rw [atM_keys] at hn
    obtain ⟨i, hg⟩ : ∃ i, gget at_ k = some i := by
      rw [hw.mem k] at hs
      cases hg : gget at_ k with
      | none => rw [hg] at hs; cases hs
      | some i => exact ⟨i, rfl⟩
    obtain ⟨p, hp, hf, hk, hm, hlt⟩ := hw.at hg
    dsimp only at hp
    refine wk_seq ?_
    refine wk_draw (n := 13) (pend := 8191) ⟨13, fun _ => True⟩ mixed (by kernel_rfl) rfl (fun _ _ => trivial) rfl ?_
    refine wd_a 0 rfl (v_move rfl) ?_
    refine wd_a 1 rfl (v_nilCheck rfl) ?_
    refine wd_a 2 rfl (v_fieldAddr tyF_130_0 rfl) ?_
    refine wd_a 3 rfl (v_load tyS_127 rfl rfl) ?_
    refine wd_a 4 rfl (v_move rfl) ?_
    refine wd_a 5 rfl (v_nilCheck rfl) ?_
    refine wd_a 6 rfl (v_fieldAddr tyF_130_1 rfl) ?_
    refine wd_a 7 rfl (v_load tyS_128 rfl rfl) ?_
    refine wd_a 8 rfl (v_move rfl) ?_
    refine wd_a 9 rfl (v_lookup tyM_128 rfl rfl) ?_
    refine wd_a 10 rfl (v_buildN tyBu_126 rfl (by repeat constructor)) ?_
    rw [atM_get, hg]
    refine wd_a 11 rfl (v_indexAddrS (z := ⟨some ⟨b, 0, none⟩, room, room⟩) tyU_127 tyN_126 rfl rfl rfl hlt) ?_
    refine wd_l0 12 rfl (w_storeRow tyN_126 rfl rfl Plc.cells_len hp Plc.none rfl rfl (by repeat constructor) ?_)
    refine ⟨fun _ _ _ => trivial, ?_⟩
    refine wd_done ?_
    refine wk_region ?_
    refine wo_v (v_move rfl) ?_
    refine wo_v (v_nilCheck rfl) ?_
    refine wo_v (v_fieldAddr tyF_130_1 rfl) ?_
    refine wo_v (v_load tyS_128 rfl rfl) ?_
    refine wo_v (v_move rfl) ?_
    refine wo_w0 (w_delete tyM_128 rfl rfl (by repeat constructor) ?_)
    refine wo_nil ?_
    refine wk_seq ?_
    refine wk_region ?_
    refine wo_v (v_loadN tyA_67 rfl (by repeat constructor) (by repeat constructor)) ?_
    refine wo_v (v_move rfl) ?_
    refine wo_w0 (w_storeN tyN_67 rfl rfl rfl rfl (by repeat constructor) (by repeat constructor) ?_)
    refine wo_v (v_assign rfl) ?_
    refine wo_nil ?_
    refine wk_ret Tryz.func63 rfl rfl (res_cellA tyA_67 rfl (by repeat constructor) rfl (res_tmp rfl res_nil)) fun W h => ?_
    rw [atM_del] at h
    have hok := hw.dropAt hn hg Plc.none rfl
    refine ⟨sv, rfl, trivial, Ent.sat ?_ h⟩
    refine ent_take ?_
    refine (ent_ro (p := bslAll (svs ps)) (q := bslAll (svs (ps.set i Plc.none))) (by repeat constructor) (fun r h1 => svs_set r h1 (roSl_nil rfl r)) (Ent.refl _)).trans ?_
    refine ent_nf ⟨b, ps.set i Plc.none, m, gdel at_ k, hand⟩ hok ?_
    exact ent_tail
  · refine wk_skip ?_
    refine wk_seq ?_
    refine wk_region ?_
    refine wo_v (v_loadN tyA_67 rfl (by repeat constructor) (by repeat constructor)) ?_
    refine wo_v (v_move rfl) ?_
    refine wo_w0 (w_storeN tyN_67 rfl rfl rfl rfl (by repeat constructor) (by repeat constructor) ?_)
    refine wo_v (v_assign rfl) ?_
    refine wo_nil ?_
    refine wk_ret Tryz.func63 rfl rfl (res_cellA tyA_67 rfl (by repeat constructor) rfl (res_tmp rfl res_nil)) fun W h => ?_
    have hn : mem k = none := by simpa using hs
    have he : mout mem k = mem := by
      funext j; unfold mout; split
      · rename_i h; rw [h, hn]
      · rfl
    rw [he]
    exact ⟨sv, rfl, trivial, Ent.sat (by refine ent_take ?_; refine ent_take ?_; exact ent_tail) h⟩

end Go.Proofs.YtealmijbkebipaaGreatDoor

namespace Go.Proofs.YtealmijbkebipaaGreatDoor
open Go
attribute [local irreducible] own pe nf

theorem v_indexN {P : Program} {C : Cx} {e : Env} {L : List HP} {ty t el s len : Nat} {x y : Operand} {k : IntKind} {i : Nat} {cs us : List Value} (hu : TyUnd P t (.array len el)) (hs : TyAgg P el s) (hx : ev e x = some (.agg cs.toArray)) (hy : ev e y = some (.int k (i : Int))) (hi : i < len) (hv : (cs.drop (i * s)).take s = us) :
    OpV P C (.index t x y) ty e L (.agg us.toArray) := fun w tm ds pos after guard dst st a' => by
  have h5 : cs.toArray.extract (i * s) (i * s + s) = us.toArray := by
    rw [List.extract_toArray, List.extract_eq_take_drop, Nat.add_sub_cancel_left, hv]
  have h5' : List.take s (List.drop (i * s) cs) = us := hv
  simp [execOp, a'.ev hx, a'.ev hy, Instr.index, asIntOf, underlying, show P.underlying t = _ from hu, hi, part, hs.agg, hs.size, h5']

/-- An array's places. -/
def arrPl (size : Nat) (n : Nat) : List (Nat × Nat) := (List.range n).map fun i => (i * size, size)
structure TyArr (P : Program) (t : TypeId) (z : List Value) (n size : Nat) : Prop where
  zero : ∃ zv, TyZero P t zv ∧ cellsL zv = z
  und : ∃ el, P.underlying t = some (.array n el) ∧ TySize P el size
theorem fill_mono {f g : Nat → Option (Nat × Nat)} (h : ∀ i p, f i = some p → g i = some p) : ∀ (ps : List (Nat × Value)) (cs out : Array Value), Instr.fill f cs ps = some out → Instr.fill g cs ps = some out
  | [], cs, out, h0 => h0
  | (i, v) :: rest, cs, out, h0 => by
    unfold Instr.fill at h0 ⊢
    cases hf : f i with
    | none => rw [hf] at h0; cases h0
    | some p =>
      rw [hf] at h0; rw [h i p hf]
      obtain ⟨off, size⟩ := p
      simp only at h0 ⊢
      split at h0
      · cases h0
      · rename_i hc
        rw [if_neg hc]
        exact fill_mono h rest _ _ h0
theorem v_buildArr {P : Program} {C : Cx} {e : Env} {L : List HP} {ty t : TypeId} {n size : Nat} {parts : List (Nat × Operand)} {pv : List (Nat × Value)} {z out : List Value} (hs : TyArr P t z n size) (hp : parts.mapM (fun p => (ev e p.2).map fun v => (p.1, v)) = some pv) (hf : FillN (arrPl size n) pv z out) :
    OpV P C (.build t parts.toArray) ty e L (.agg out.toArray) := fun w tm ds pos after guard dst s a' => by
  obtain ⟨zv, hz, hzc⟩ := hs.zero
  obtain ⟨el, hu, hsz⟩ := hs.und
  have hparts : (parts.toArray.map fun (i, x) => (i, (⟨tm, ds⟩ : Act).eval x)).toList = pv := by
    simp only [List.map_toArray]
    clear hf
    induction parts generalizing pv with
    | nil => simp at hp; simp [hp]
    | cons p parts ih =>
      rw [List.mapM_cons] at hp
      cases h1 : ev e p.2 with
      | none => rw [h1] at hp; cases hp
      | some v =>
        rw [h1] at hp
        simp only [Option.map_some, Option.bind_eq_bind, Option.bind_some] at hp
        cases h2 : parts.mapM (fun p => (ev e p.2).map fun v => (p.1, v)) with
        | none => rw [h2] at hp; cases hp
        | some pv' =>
          rw [h2] at hp
          simp only [Option.bind_some, Option.pure_def, Option.some.injEq] at hp
          subst hp
          simp only [List.map_cons, List.cons.injEq, a'.ev h1, true_and]
          exact ih h2
  have hfl := fill_run hf.eq
  have hzc' : zv.cells = z.toArray := by rw [← hzc, ← cells_toList]
  have hfl' : Instr.fill (fun i => some (i * size, size)) z.toArray pv = some out.toArray := by
    refine fill_mono (fun i p hp => ?_) _ _ _ hfl
    simp only [arrPl, List.getElem?_map] at hp
    obtain ⟨j, hj, rfl⟩ := Option.map_eq_some_iff.1 hp
    obtain ⟨h1, h2⟩ := List.getElem?_eq_some_iff.1 hj
    rw [List.getElem_range] at h2
    rw [h2]
  simp only [execOp, Instr.build, bind_assoc, Sem.run_bind, hz.run, Result.andThen_ok, underlying, run_program, hu, Sem.run_pure, hsz.run, hparts, hzc', hfl']

/-- A number under another name. -/
theorem OpV.int {P : Program} {C : Cx} {e : Env} {L : List HP} {op : Op} {ty : TypeId} {k : IntKind} {x y : Int} (h : OpV P C op ty e L (.int k x)) (he : x = y) : OpV P C op ty e L (.int k y) := he ▸ h

structure PlanA where
  sectors : Nat
  size : Nat
  regions : Nat
  rsec : Nat
  log : Nat
  depth : Nat
  memory : Nat
  seed : Nat
abbrev PlanA.cells (p : PlanA) : List Value := [.int .i64 p.sectors, .int .i64 p.size, .int .i64 p.regions, .int .i64 p.rsec, .int .i64 p.log, .int .i64 p.depth, .int .i64 p.memory, .int .u64 p.seed]
abbrev planV (p : PlanA) : Value := .agg p.cells.toArray
def PlanA.room (p : PlanA) : Nat := p.size - 19
def PlanA.page (p : PlanA) : Nat := 2 + p.log + p.regions * p.rsec
def PlanA.pages (p : PlanA) : Nat := p.sectors - p.page
def PlanA.per (p : PlanA) : Nat := p.room / 12
def PlanA.slots (p : PlanA) : Nat := (p.room - 10) / 20
def PlanA.tree (p : PlanA) : Nat := 1 + (2 ^ p.depth + p.per - 1) / p.per + 2 ^ p.depth
def PlanA.rroom (p : PlanA) : Nat := p.rsec * p.room

structure PlanA.Ok (p : PlanA) : Prop where
  s1 : 96 ≤ p.size
  s2 : p.size ≤ 512
  n1 : 1 ≤ p.sectors
  n2 : p.sectors ≤ 16384
  r1 : 3 ≤ p.regions
  r2 : p.regions ≤ 64
  q1 : 1 ≤ p.rsec
  q2 : p.rsec ≤ 32
  l1 : 4 ≤ p.log
  l2 : p.log ≤ 256
  d2 : p.depth ≤ 8
  m1 : 8 ≤ p.memory
  m2 : p.memory ≤ 256
  many : 2 ^ p.depth ≤ p.per * p.per
  fits : p.page + (3 * p.tree + 4) ≤ p.sectors

def PlanA.bnds (p : PlanA) : List Value :=
  [.int .i64 p.size, .int .i64 96, .int .i64 512, .int .i64 p.sectors, .int .i64 1, .int .i64 16384, .int .i64 p.regions, .int .i64 3, .int .i64 64, .int .i64 p.rsec, .int .i64 1, .int .i64 32,
   .int .i64 p.log, .int .i64 4, .int .i64 256, .int .i64 p.depth, .int .i64 0, .int .i64 8, .int .i64 p.memory, .int .i64 8, .int .i64 256]
theorem s_plan_Plan_bounds {p : PlanA} : FnSpec Tryz.prog 98 #[planV p] []
    (fun _ : Unit => .agg p.bnds.toArray) (fun _ => True) (fun _ R => R) := by
  refine fn_spec Tryz.func98 rfl rfl rfl rfl fun G R => ?_
  dsimp only [List.append_eq, List.cons_append, List.nil_append]
  refine wk_seq ?_
  refine wk_region ?_
  refine wo_w (w_boxA rfl fun b1 => ?_)
  refine wo_w (w_allocA tyZ_179 fun b2 => ?_)
  refine wo_nil ?_
  refine wk_seq ?_
  refine wk_region ?_
  refine wo_v (v_fieldAddr tyF_35_1 rfl) ?_
  refine wo_v (v_load tyS_3 rfl rfl) ?_
  refine wo_v (v_buildN tyBu_178 rfl (by repeat constructor)) ?_
  refine wo_v (v_fieldAddr tyF_35_0 rfl) ?_
  refine wo_v (v_load tyS_3 rfl rfl) ?_
  refine wo_v (v_buildN tyBu_178 rfl (by repeat constructor)) ?_
  refine wo_v (v_fieldAddr tyF_35_2 rfl) ?_
  refine wo_v (v_load tyS_3 rfl rfl) ?_
  refine wo_v (v_buildN tyBu_178 rfl (by repeat constructor)) ?_
  refine wo_v (v_fieldAddr tyF_35_3 rfl) ?_
  refine wo_v (v_load tyS_3 rfl rfl) ?_
  refine wo_v (v_buildN tyBu_178 rfl (by repeat constructor)) ?_
  refine wo_v (v_fieldAddr tyF_35_4 rfl) ?_
  refine wo_v (v_load tyS_3 rfl rfl) ?_
  refine wo_v (v_buildN tyBu_178 rfl (by repeat constructor)) ?_
  refine wo_v (v_fieldAddr tyF_35_5 rfl) ?_
  refine wo_v (v_load tyS_3 rfl rfl) ?_
  refine wo_v (v_buildN tyBu_178 rfl (by repeat constructor)) ?_
  refine wo_v (v_fieldAddr tyF_35_6 rfl) ?_
  refine wo_v (v_load tyS_3 rfl rfl) ?_
  refine wo_v (v_buildN tyBu_178 rfl (by repeat constructor)) ?_
  refine wo_v (v_buildArr ⟨⟨_, tyZ_179, rfl⟩, ⟨_, tyU_179, tyN_178⟩⟩ rfl (by repeat constructor)) ?_
  refine wo_w0 (w_storeN tyN_179 rfl rfl rfl rfl (by repeat constructor) (by repeat constructor) ?_)
  refine wo_nil ?_
  refine wk_ret Tryz.func98 rfl rfl (res_cellA tyA_179 rfl (by repeat constructor) rfl res_nil) fun W h => ?_
  exact ⟨(), rfl, trivial, Ent.sat ent_tail h⟩

theorem bnd_at {p : PlanA} (h : p.Ok) {i : Nat} (hi : i < 7) : ∃ n lo hi : Int, (p.bnds.drop (i * 3)).take 3 = [.int .i64 n, .int .i64 lo, .int .i64 hi] ∧ lo ≤ n ∧ n ≤ hi := by
  obtain ⟨h1, h2, h3, h4, h5, h6, h7, h8, h9, h10, h11, h12, h13, _, _⟩ := h
  have : i = 0 ∨ i = 1 ∨ i = 2 ∨ i = 3 ∨ i = 4 ∨ i = 5 ∨ i = 6 := by omega
  rcases this with rfl | rfl | rfl | rfl | rfl | rfl | rfl
  · exact ⟨_, _, _, rfl, by omega, by omega⟩
  · exact ⟨_, _, _, rfl, by omega, by omega⟩
  · exact ⟨_, _, _, rfl, by omega, by omega⟩
  · exact ⟨_, _, _, rfl, by omega, by omega⟩
  · exact ⟨_, _, _, rfl, by omega, by omega⟩
  · exact ⟨_, _, _, rfl, by omega, by omega⟩
  · exact ⟨_, _, _, rfl, by omega, by omega⟩

theorem s_plan_Plan_within {p : PlanA} (hp : p.Ok) : FnSpec Tryz.prog 77 #[planV p] []
    (fun _ : Unit => .bool true) (fun _ => True) (fun _ R => R) := by
  refine fn_spec Tryz.func77 rfl rfl rfl rfl fun G R => ?_
  dsimp only [List.append_eq, List.cons_append, List.nil_append]
  refine wk_seq ?_
  refine wk_region ?_
  refine wo_w (w_boxA rfl fun b1 => ?_)
  refine wo_v (v_assign rfl) ?_
  refine wo_nil ?_
  refine wk_scope ?_
  refine wk_seq ?_
  refine wk_region ?_
  refine wo_v (v_assign rfl) ?_
  refine wo_nil ?_
  refine wk_seq ?_
  refine wk_label ?_
  refine wk_seq ?_
  refine wk_seq ?_
  refine wk_region ?_
  refine wo_v (v_loadN tyA_35 rfl (by repeat constructor) (by repeat constructor)) ?_
  refine wo_w (w_call s_plan_Plan_bounds rfl (by repeat constructor) ?_)
  rintro ⟨⟩ -
  refine wo_v (v_move rfl) ?_
  refine wo_nil ?_
  refine wk_block ?_
  refine wk_loop (fun i : Nat => i ≤ 7) (fun i => [(3, .bool true), (7, .agg p.bnds.toArray), (8, .int .i64 i)]) (fun _ => R) (fun i => 7 - i) 0 (by decide) ⟨rfl, rfl, rfl, trivial⟩ ent_tail fun i hi next => ?_
  refine wk_seq ?_
  refine wk_region ?_
  refine wo_v (v_lss rfl rfl) ?_
  refine wo_nil ?_
  refine wk_seq ?_
  refine wk_if rfl (fun hb => ?_) (fun hb => ?_)
  · obtain ⟨n, lo, hh, hg, g1, g2⟩ := bnd_at hp (i := i) (by omega)
    refine wk_skip ?_
    refine wk_seq ?_
    refine wk_block ?_
    refine wk_seq ?_
    refine wk_region ?_
    refine wo_v (v_indexN tyU_179 tyA_178 rfl rfl (by omega) hg) ?_
    refine wo_w (w_allocA tyZ_178 fun b2 => ?_)
    refine wo_w0 (w_storeN tyN_178 rfl rfl rfl rfl (by repeat constructor) (by repeat constructor) ?_)
    refine wo_nil ?_
    refine wk_block ?_
    refine wk_seq ?_
    refine wk_seq ?_
    refine wk_region ?_
    refine wo_v (v_fieldAddr tyF_178_0 rfl) ?_
    refine wo_v (v_load tyS_3 rfl rfl) ?_
    refine wo_v (v_fieldAddr tyF_178_1 rfl) ?_
    refine wo_v (v_load tyS_3 rfl rfl) ?_
    refine wo_v (v_lss rfl rfl) ?_
    refine wo_v (v_assign rfl) ?_
    refine wo_nil ?_
    refine wk_if rfl (fun k1 => ?_) (fun k1 => ?_)
    · exact absurd k1 (by omega)
    · refine wk_region ?_
      refine wo_v (v_fieldAddr tyF_178_0 rfl) ?_
      refine wo_v (v_load tyS_3 rfl rfl) ?_
      refine wo_v (v_fieldAddr tyF_178_2 rfl) ?_
      refine wo_v (v_load tyS_3 rfl rfl) ?_
      refine wo_v (v_gtr rfl rfl) ?_
      refine wo_v (v_assign rfl) ?_
      refine wo_nil ?_
      refine wk_if rfl (fun k2 => ?_) (fun k2 => ?_)
      · exact absurd k2 (by omega)
      · refine wk_skip ?_
        refine wk_inBlock ?_
        refine wk_inBlock ?_
        refine wk_region ?_
        refine wo_v (v_addI rfl rfl) ?_
        refine wo_v (v_move rfl) ?_
        refine wo_nil ?_
        refine (next (i + 1) (by omega) (by omega)).use ⟨rfl, rfl, rfl, trivial⟩ ent_tail
  · refine wk_exit rfl ?_
    refine wk_seq ?_
    refine wk_region ?_
    refine wo_v (v_move rfl) ?_
    refine wo_v (v_assign rfl) ?_
    refine wo_nil ?_
    refine wk_ret Tryz.func77 rfl rfl (res_tmp rfl res_nil) fun W h => ?_
    exact ⟨(), rfl, trivial, Ent.sat ent_tail h⟩

abbrev layV (p : PlanA) : Value := .agg (List.toArray [.int .i64 2, .int .i64 (2 + p.log : Nat), .int .i64 p.page, .int .i64 p.pages, .int .i64 p.per, .int .i64 p.slots, .int .i64 p.tree, .int .i64 p.rroom])
theorem s_plan_Fit {p : PlanA} (hp : p.Ok) : FnSpec Tryz.prog 41 #[planV p] []
    (fun _ : Unit => .tuple #[layV p, .int .i64 0]) (fun _ => True) (fun _ R => R) := by
  refine fn_spec Tryz.func41 rfl rfl rfl rfl fun G R => ?_
  dsimp only [List.append_eq, List.cons_append, List.nil_append]
  have h1 := hp.s1
  have h2 := hp.s2
  have h3 := hp.n2
  have h4 := hp.r2
  have h5 := hp.q2
  have h6 := hp.l2
  have h7 := hp.d2
  have hrr : p.regions * p.rsec ≤ 64 * 32 := Nat.mul_le_mul hp.r2 hp.q2
  have hroom : p.room = p.size - 19 := rfl
  have hqr : p.rsec * p.room ≤ 32 * 512 := Nat.mul_le_mul hp.q2 (by omega)
  have hmany : 2 ^ p.depth ≤ 2 ^ 8 := Nat.pow_le_pow_right (by decide) hp.d2
  have hper : p.per = p.room / 12 := rfl
  have hper1 : 1 ≤ p.per := by omega
  have hpp : p.per * p.per ≤ 64 * 64 := Nat.mul_le_mul (by omega) (by omega)
  have hdiv : (2 ^ p.depth + p.per - 1) / p.per ≤ 2 ^ p.depth + p.per - 1 := Nat.div_le_self _ _
  have htree : p.tree = 1 + (2 ^ p.depth + p.per - 1) / p.per + 2 ^ p.depth := rfl
  have hpage : p.page = 2 + p.log + p.regions * p.rsec := rfl
  have hpages : p.pages = p.sectors - p.page := rfl
  have hslots : p.slots = (p.room - 10) / 20 := rfl
  have hrroom : p.rroom = p.rsec * p.room := rfl
  have hm := hp.many
  have hf := hp.fits
  refine wk_seq ?_
  refine wk_region ?_
  refine wo_w (w_boxA rfl fun b1 => ?_)
  refine wo_w (w_allocA tyZ_110 fun b2 => ?_)
  refine wo_v (v_assign rfl) ?_
  refine wo_nil ?_
  refine wk_seq ?_
  refine wk_seq ?_
  refine wk_region ?_
  refine wo_v (v_loadN tyA_35 rfl (by repeat constructor) (by repeat constructor)) ?_
  refine wo_w (w_call (s_plan_Plan_within hp) rfl (by repeat constructor) ?_)
  rintro ⟨⟩ -
  refine wo_v (v_not rfl) ?_
  refine wo_nil ?_
  refine wk_condF rfl ?_
  refine wk_skip ?_
  refine wk_seq ?_
  refine wk_region ?_
  refine wo_v (v_fieldAddr tyF_35_1 rfl) ?_
  refine wo_v (v_load tyS_3 rfl rfl) ?_
  refine wo_w (w_call (s_leaf_Room h1 h2) rfl (by repeat constructor) ?_)
  rintro ⟨⟩ -
  rw [show p.size - 19 = p.room from rfl]
  refine wo_v (v_assign rfl) ?_
  refine wo_nil ?_
  refine wk_seq ?_
  refine wk_region ?_
  refine wo_v (v_fieldAddr tyF_35_4 rfl) ?_
  refine wo_v (v_load tyS_3 rfl rfl) ?_
  refine wo_v (OpV.int (v_addI rfl rfl) (show _ = ((2 + p.log : Nat) : Int) by omega)) ?_
  refine wo_v (v_move rfl) ?_
  refine wo_v (OpV.int (v_quoI rfl rfl) (show _ = (p.per : Int) by omega)) ?_
  refine wo_v (v_move rfl) ?_
  refine wo_v (v_subI rfl rfl) ?_
  refine wo_v (OpV.int (v_quoI rfl rfl) (show _ = (p.slots : Int) by omega)) ?_
  refine wo_v (v_buildN tyBu_110 rfl (by repeat constructor)) ?_
  refine wo_w (w_allocA tyZ_110 fun b3 => ?_)
  refine wo_w0 (w_storeN tyN_110 rfl rfl rfl rfl (by repeat constructor) (by repeat constructor) ?_)
  refine wo_nil ?_
  refine wk_seq ?_
  refine wk_region ?_
  refine wo_v (v_fieldAddr tyF_110_1 rfl) ?_
  refine wo_v (v_load tyS_3 rfl rfl) ?_
  refine wo_v (v_fieldAddr tyF_35_2 rfl) ?_
  refine wo_v (v_load tyS_3 rfl rfl) ?_
  refine wo_v (v_fieldAddr tyF_35_3 rfl) ?_
  refine wo_v (v_load tyS_3 rfl rfl) ?_
  refine wo_v (OpV.int (v_mulI rfl rfl (by rw [← Int.natCast_mul]; omega) (by rw [← Int.natCast_mul]; omega)) (Int.natCast_mul _ _).symm) ?_
  refine wo_v (OpV.int (v_addI rfl rfl) (show _ = (p.page : Int) by omega)) ?_
  refine wo_v (v_fieldAddr tyF_110_2 rfl) ?_
  refine wo_w0 (w_storeN1 tyN_3 rfl rfl rfl (by repeat constructor) (by repeat constructor) ?_)
  refine wo_nil ?_
  refine wk_seq ?_
  refine wk_region ?_
  refine wo_v (v_fieldAddr tyF_35_0 rfl) ?_
  refine wo_v (v_load tyS_3 rfl rfl) ?_
  refine wo_v (v_fieldAddr tyF_110_2 rfl) ?_
  refine wo_v (v_load tyS_3 rfl rfl) ?_
  refine wo_v (OpV.int (v_subI rfl rfl) (show _ = (p.pages : Int) by omega)) ?_
  refine wo_v (v_fieldAddr tyF_110_3 rfl) ?_
  refine wo_w0 (w_storeN1 tyN_3 rfl rfl rfl (by repeat constructor) (by repeat constructor) ?_)
  refine wo_nil ?_
  refine wk_seq ?_
  refine wk_region ?_
  refine wo_v (v_fieldAddr tyF_35_3 rfl) ?_
  refine wo_v (v_load tyS_3 rfl rfl) ?_
  refine wo_v (v_move rfl) ?_
  refine wo_v (OpV.int (v_mulI rfl rfl (by rw [← Int.natCast_mul]; omega) (by rw [← Int.natCast_mul]; omega)) (show _ = (p.rroom : Int) by rw [← Int.natCast_mul]; rfl)) ?_
  have hmI : (1 : Int) * 2 ^ ((p.depth : Int)).toNat = ((2 ^ p.depth : Nat) : Int) := by rw [Int.one_mul, Int.toNat_natCast, Int.natCast_pow]; rfl
  generalize hM : 2 ^ p.depth = many at *
  refine wo_v (v_fieldAddr tyF_110_7 rfl) ?_
  refine wo_w0 (w_storeN1 tyN_3 rfl rfl rfl (by repeat constructor) (by repeat constructor) ?_)
  refine wo_nil ?_
  refine wk_seq ?_
  refine wk_region ?_
  refine wo_v (v_fieldAddr tyF_35_5 rfl) ?_
  refine wo_v (v_load tyS_3 rfl rfl) ?_
  refine wo_v (OpV.int (v_shlI rfl rfl (by omega) (by omega) (by rw [hmI]; omega) (by rw [hmI]; omega)) hmI) ?_
  refine wo_v (v_assign rfl) ?_
  refine wo_nil ?_
  refine wk_seq ?_
  refine wk_region ?_
  refine wo_v (v_move rfl) ?_
  refine wo_v (v_fieldAddr tyF_110_4 rfl) ?_
  refine wo_v (v_load tyS_3 rfl rfl) ?_
  refine wo_v (OpV.int (v_addI rfl rfl) (show _ = ((many + p.per : Nat) : Int) by omega)) ?_
  refine wo_v (OpV.int (v_subI rfl rfl) (show _ = ((many + p.per - 1 : Nat) : Int) by omega)) ?_
  refine wo_v (v_fieldAddr tyF_110_4 rfl) ?_
  refine wo_v (v_load tyS_3 rfl rfl) ?_
  refine wo_v (OpV.int (v_quoI rfl rfl) (Int.natCast_ediv _ _).symm) ?_
  refine wo_v (OpV.int (v_addI rfl rfl) (show _ = ((1 + (many + p.per - 1) / p.per : Nat) : Int) by omega)) ?_
  refine wo_v (v_move rfl) ?_
  refine wo_v (OpV.int (v_addI rfl rfl) (show _ = (p.tree : Int) by omega)) ?_
  refine wo_v (v_fieldAddr tyF_110_6 rfl) ?_
  refine wo_w0 (w_storeN1 tyN_3 rfl rfl rfl (by repeat constructor) (by repeat constructor) ?_)
  refine wo_nil ?_
  refine wk_seq ?_
  refine wk_seq ?_
  refine wk_region ?_
  refine wo_v (v_move rfl) ?_
  refine wo_v (v_fieldAddr tyF_110_4 rfl) ?_
  refine wo_v (v_load tyS_3 rfl rfl) ?_
  refine wo_v (v_fieldAddr tyF_110_4 rfl) ?_
  refine wo_v (v_load tyS_3 rfl rfl) ?_
  refine wo_v (OpV.int (v_mulI rfl rfl (by rw [← Int.natCast_mul]; omega) (by rw [← Int.natCast_mul]; omega)) (Int.natCast_mul _ _).symm) ?_
  refine wo_v (v_gtr rfl rfl) ?_
  refine wo_v (v_move rfl) ?_
  refine wo_if (t := 65) rfl (fun k1 => ?_) (fun k1 => ?_)
  · exact absurd k1 (by omega)
  · refine wo_gv (v_fieldAddr tyF_110_3 rfl) ?_
    refine wo_gv (v_load tyS_3 rfl rfl) ?_
    refine wo_gv (v_fieldAddr tyF_110_6 rfl) ?_
    refine wo_gv (v_load tyS_3 rfl rfl) ?_
    refine wo_gv (v_mulI rfl rfl) ?_
    refine wo_gv (v_addI rfl rfl) ?_
    refine wo_gv (v_lss rfl rfl) ?_
    refine wo_v (v_pickF rfl rfl) ?_
    refine wo_nil ?_
    refine wk_if rfl (fun k2 => ?_) (fun k2 => ?_)
    · exact absurd k2 (by omega)
    · refine wk_skip ?_
      refine wk_seq ?_
      refine wk_region ?_
      refine wo_v (v_loadN tyA_110 rfl (by repeat constructor) (by repeat constructor)) ?_
      refine wo_w0 (w_storeN tyN_110 rfl rfl rfl rfl (by repeat constructor) (by repeat constructor) ?_)
      refine wo_v (v_assign rfl) ?_
      refine wo_nil ?_
      refine wk_ret Tryz.func41 rfl rfl (res_cellA tyA_110 rfl (by repeat constructor) rfl (res_tmp rfl res_nil)) fun W h => ?_
      exact ⟨(), rfl, trivial, Ent.sat ent_tail h⟩

end Go.Proofs.YtealmijbkebipaaGreatDoor

namespace Go.Proofs.YtealmijbkebipaaGreatDoor
open Go
attribute [local irreducible] own pe nf

def onM (l : List Int) : MapL := l.map fun k => (k, .bool true)
theorem onM_get (l : List Int) (k : Int) : mget (onM l) k = if k ∈ l then some (.bool true) else none := by
  induction l with
  | nil => rfl
  | cons a l ih =>
    simp only [onM, List.map_cons, mget] at *
    by_cases h : k = a
    · rw [if_pos h, if_pos (by rw [h]; exact List.mem_cons_self)]
    · rw [if_neg h, ih]
      by_cases h2 : k ∈ l
      · rw [if_pos h2, if_pos (List.mem_cons_of_mem _ h2)]
      · rw [if_neg h2, if_neg (by simp [h, h2])]
theorem onM_getD (l : List Int) (k : Int) : (mget (onM l) k).getD (.bool false) = .bool (decide (k ∈ l)) := by
  rw [onM_get]; split <;> rename_i h <;> simp [h]
theorem onM_put (l : List Int) (k : Int) : ∃ l', mput (onM l) k (.bool true) = onM l' ∧ ∀ j, j ∈ l' ↔ j = k ∨ j ∈ l := by
  induction l with
  | nil => exact ⟨[k], rfl, fun j => by simp⟩
  | cons a l ih =>
    obtain ⟨l', h1, h2⟩ := ih
    by_cases h : k = a
    · refine ⟨a :: l, by simp [onM, mput, h], fun j => ?_⟩
      rw [h]; simp
    · refine ⟨a :: l', by simp [onM, mput, h]; exact h1, fun j => ?_⟩
      rw [List.mem_cons, h2, List.mem_cons]
      constructor
      · rintro (h | h | h)
        · exact .inr (.inl h)
        · exact .inl h
        · exact .inr (.inr h)
      · rintro (h | h | h)
        · exact .inr (.inl h)
        · exact .inl h
        · exact .inr (.inr h)
theorem onM_keys (l : List Int) : (onM l).map Prod.fst = l := by simp [onM, Function.comp_def]
theorem onM_del {l : List Int} (hn : l.Nodup) (k : Int) : ∃ l', mdel (onM l) k = onM l' ∧ ∀ j, j ∈ l' ↔ j ≠ k ∧ j ∈ l := by
  induction l with
  | nil => exact ⟨[], rfl, fun j => by simp⟩
  | cons a l ih =>
    rw [List.nodup_cons] at hn
    by_cases h : k = a
    · refine ⟨l, by simp [onM, mdel, h], fun j => ?_⟩
      rw [h, List.mem_cons]
      constructor
      · intro hj
        exact ⟨fun e => hn.1 (e ▸ hj), .inr hj⟩
      · rintro ⟨h1, h2 | h2⟩
        · exact absurd h2 h1
        · exact h2
    · obtain ⟨l', h1, h2⟩ := ih hn.2
      refine ⟨a :: l', by simp [onM, mdel, h]; exact h1, fun j => ?_⟩
      rw [List.mem_cons, h2, List.mem_cons]
      constructor
      · rintro (rfl | h3)
        · exact ⟨fun e => h e.symm, .inl rfl⟩
        · exact ⟨h3.1, .inr h3.2⟩
      · rintro ⟨h3, h4 | h4⟩
        · exact .inl h4
        · exact .inr ⟨h3, h4⟩

structure StX where
  t : Nat
  mf : Nat
  my : Nat
  md : Nat
  c : Nat
  LF : List Int
  LY : List Int
  LD : List Int

structure StOK (p : PlanA) (S : StA) (X : StX) : Prop where
  fr : ∀ k, S.fresh k = decide (k ∈ X.LF)
  dy : ∀ k, S.dying k = decide (k ∈ X.LY)
  de : ∀ k, S.dead k = decide (k ∈ X.LD)
  first : S.first = p.page
  pages : S.pages = p.pages
  room : S.room = p.room
  plan : p.Ok
  tn : S.taken.n = S.pages
  g1 : 1 ≤ S.gen
  g2 : S.gen ≤ 2199023255552
  mem : ∀ k q, S.mem k = some q → 0 ≤ k ∧ k < S.pages ∧ q.load.length ≤ 512 ∧ 0 ≤ q.stamp ∧ q.stamp ≤ 9223372036854775807

def stB (s d : Nat) (p : PlanA) (S : StA) (X : StX) : HP :=
  blk s [.pointer (some ⟨d, 0, none⟩), .int .i64 p.sectors, .int .i64 p.size, .int .i64 p.regions, .int .i64 p.rsec, .int .i64 p.log, .int .i64 p.depth, .int .i64 p.memory, .int .u64 p.seed,
    .int .i64 S.first, .int .i64 S.pages, .int .i64 S.room, .int .i64 S.gen, .pointer (some ⟨X.t, 0, none⟩), .map (some X.mf), .map (some X.my), .map (some X.md), .pointer (some ⟨X.c, 0, none⟩)] 74
def stL (s d : Nat) (p : PlanA) (S : StA) (X : StX) : List HP :=
  [stB s d p S X, SetH X.t S.taken, mapH X.mf (onM X.LF), mapH X.my (onM X.LY), mapH X.md (onM X.LD), ClkH X.c p.memory S.mem]
def StH (s d : Nat) (p : PlanA) (S : StA) : HP := nf (fun X : StX => StOK p S X) (stL s d p S)

abbrev refV (r : RefA) : Value := .agg (List.toArray [.int .i64 r.page, .int .i64 r.stamp])

theorem s_store_Store_in {s d : Nat} {p : PlanA} {S : StA} {r : RefA} : FnSpec Tryz.prog 57 #[.pointer (some ⟨s, 0, none⟩), refV r] [StH s d p S]
    (fun _ : Unit => .int .i64 (S.inE r.page)) (fun _ => True) (fun _ R => StH s d p S :: R) := by
  refine fn_spec Tryz.func57 rfl rfl rfl rfl fun G R => ?_
  refine wk_nf fun X hw => ?_
  dsimp only [List.append_eq, List.cons_append, List.nil_append, stL, stB]
  refine wk_seq ?_
  refine wk_region ?_
  refine wo_w (w_boxA rfl fun b1 => ?_)
  refine wo_v (v_assign rfl) ?_
  refine wo_nil ?_
  refine wk_seq ?_
  refine wk_block ?_
  refine wk_seq ?_
  refine wk_region ?_
  refine wo_v (v_move rfl) ?_
  refine wo_v (v_eqSome tyU_29 rfl rfl) ?_
  refine wo_v (v_assign rfl) ?_
  refine wo_nil ?_
  refine wk_condF rfl ?_
  refine wk_seq ?_
  refine wk_draw (n := 13) (pend := 8191) ⟨13, fun _ => True⟩ mixed (by kernel_rfl) rfl (fun _ _ => trivial) rfl ?_
  refine wd_a 0 rfl (v_fieldAddr tyF_82_0 rfl) ?_
  refine wd_a 1 rfl (v_load tyS_3 rfl rfl) ?_
  refine wd_a 2 rfl (v_lss rfl rfl) ?_
  refine wd_a 3 rfl (v_move rfl) ?_
  refine wd_if (t := 12) rfl (fun h1 => ?_) (fun h1 => ?_)
  · refine wd_gF 4 rfl rfl rfl rfl ?_
    refine wd_gF 5 rfl rfl rfl rfl ?_
    refine wd_gF 6 rfl rfl rfl rfl ?_
    refine wd_gF 7 rfl rfl rfl rfl ?_
    refine wd_gF 8 rfl rfl rfl rfl ?_
    refine wd_gF 9 rfl rfl rfl rfl ?_
    refine wd_gF 10 rfl rfl rfl rfl ?_
    refine wd_a 11 rfl (v_pickT rfl rfl) ?_
    refine wd_a 12 rfl (v_assign rfl) ?_
    refine wd_done ?_
    refine wk_condT rfl ?_
    refine wk_seq ?_
    refine wk_region ?_
    refine wo_v (v_assign rfl) ?_
    refine wo_nil ?_
    refine wk_ret Tryz.func57 rfl rfl (res_tmp rfl res_nil) fun W h => ?_
    rw [show S.inE r.page = 2 from if_pos (.inl h1)]
    exact ⟨(), rfl, trivial, Ent.sat (by refine ent_nf X hw ?_; exact ent_tail) h⟩
  · refine wd_ag 4 rfl rfl rfl (v_fieldAddr tyF_82_0 rfl) ?_
    refine wd_ag 5 rfl rfl rfl (v_load tyS_3 rfl rfl) ?_
    refine wd_ag 6 rfl rfl rfl (v_move rfl) ?_
    refine wd_ag 7 rfl rfl rfl (v_nilCheck rfl) ?_
    refine wd_ag 8 rfl rfl rfl (v_fieldAddr tyF_74_3 rfl) ?_
    refine wd_ag 9 rfl rfl rfl (v_load tyS_3 rfl rfl) ?_
    refine wd_ag 10 rfl rfl rfl (v_geq rfl rfl) ?_
    refine wd_a 11 rfl (v_pickF rfl rfl) ?_
    refine wd_a 12 rfl (v_assign rfl) ?_
    refine wd_done ?_
    refine wk_if rfl (fun h2 => ?_) (fun h2 => ?_)
    · refine wk_seq ?_
      refine wk_region ?_
      refine wo_v (v_assign rfl) ?_
      refine wo_nil ?_
      refine wk_ret Tryz.func57 rfl rfl (res_tmp rfl res_nil) fun W h => ?_
      rw [show S.inE r.page = 2 from if_pos (.inr h2)]
      exact ⟨(), rfl, trivial, Ent.sat (by refine ent_nf X hw ?_; exact ent_tail) h⟩
    · refine wk_skip ?_
      refine wk_inBlock ?_
      refine wk_seq ?_
      refine wk_region ?_
      refine wo_v (v_assign rfl) ?_
      refine wo_nil ?_
      refine wk_ret Tryz.func57 rfl rfl (res_tmp rfl res_nil) fun W h => ?_
      rw [show S.inE r.page = 0 from if_neg (by omega)]
      exact ⟨(), rfl, trivial, Ent.sat (by refine ent_nf X hw ?_; exact ent_tail) h⟩

structure DevB (st : DevA) : Prop where
  s1 : 96 ≤ st.size
  s2 : st.size ≤ 512
  acts : st.acts < 1099511627776
structure PgB (p : PageA) : Prop where
  l : p.load.length ≤ 512
  s1 : 0 ≤ p.stamp
  s2 : p.stamp ≤ 9223372036854775807
theorem StOK.bounds {p : PlanA} {S : StA} {X : StX} (h : StOK p S X) : S.first + S.pages ≤ 16384 ∧ S.pages ≤ 16384 := by
  have := h.plan.n2
  have h1 := h.first
  have h2 := h.pages
  unfold PlanA.pages at h2
  have h3 := h.plan.fits
  omega

theorem s_store_Store_out {s d : Nat} {p : PlanA} {S : StA} {st : DevA} {n : Int} {q : PageA} {sv : SV} (hd : DevB st) (hq : PgB q) (h0 : 0 ≤ n) (h1 : n < S.pages) : FnSpec Tryz.prog 20 #[.pointer (some ⟨s, 0, none⟩), .int .i64 n, pgV q sv] [StH s d p S, DevH d st, pe (bsl sv q.load)]
    (fun _ : Unit => .int .i64 (S.out st n q).1) (fun _ => True) (fun _ R => StH s d p S :: DevH d (S.out st n q).2 :: R) := by
  refine fn_spec Tryz.func20 rfl rfl rfl rfl fun G R => ?_
  refine wk_nf fun X hw => ?_
  dsimp only [List.append_eq, List.cons_append, List.nil_append, stL, stB]
  have hb := hw.bounds
  have hql := hq.l
  refine wk_seq ?_
  refine wk_region ?_
  refine wo_w (w_boxA rfl fun b1 => ?_)
  refine wo_v (v_assign rfl) ?_
  refine wo_nil ?_
  refine wk_seq ?_
  refine wk_draw (n := 18) (pend := 262143) ⟨18, fun _ => True⟩ mixed (by kernel_rfl) rfl (fun _ _ => trivial) rfl ?_
  refine wd_a 0 rfl (v_move rfl) ?_
  refine wd_a 1 rfl (v_nilCheck rfl) ?_
  refine wd_a 2 rfl (v_fieldAddr tyF_74_0 rfl) ?_
  refine wd_a 3 rfl (v_load tyS_27 rfl rfl) ?_
  refine wd_a 4 rfl (v_move rfl) ?_
  refine wd_a 5 rfl (v_nilCheck rfl) ?_
  refine wd_a 6 rfl (v_fieldAddr tyF_74_2 rfl) ?_
  refine wd_a 7 rfl (v_load tyS_3 rfl rfl) ?_
  refine wd_a 8 rfl (v_move rfl) ?_
  refine wd_a 9 rfl (v_addI rfl rfl) ?_
  refine wd_a 10 rfl (v_move rfl) ?_
  refine wd_a 11 rfl (v_fieldAddr tyF_67_0 rfl) ?_
  refine wd_a 12 rfl (v_load tyS_3 rfl rfl) ?_
  refine wd_a 13 rfl (v_fieldAddr tyF_67_1 rfl) ?_
  refine wd_a 14 rfl (v_load tyS_45 rfl rfl) ?_
  refine wd_a 15 rfl (v_buildN tyBu_122 rfl (by repeat constructor)) ?_
  refine wd_l 16 rfl (w_call (s_leaf_Put (st := st) (x := StA.leaf n q) (sv := sv) hd.s1 hd.s2 hd.acts (show q.load.length ≤ 1048576 by omega) hq.s2) rfl (by repeat constructor) ?_)
  rintro ⟨⟩ -
  refine ⟨fun _ _ _ => trivial, ?_⟩
  refine wd_a 17 rfl (v_assign rfl) ?_
  refine wd_done ?_
  refine wk_ret Tryz.func20 rfl rfl (res_tmp rfl res_nil) fun W h => ?_
  exact ⟨(), rfl, trivial, Ent.sat (by refine ent_nf X hw ?_; refine ent_take (p := DevH d (S.out st n q).2) ?_; exact ent_tail) h⟩

theorem StOK.withMem {p : PlanA} {S : StA} {X : StX} (h : StOK p S X) {m : MemA} (hm : ∀ k q, m k = some q → 0 ≤ k ∧ k < S.pages ∧ q.load.length ≤ 512 ∧ 0 ≤ q.stamp ∧ q.stamp ≤ 9223372036854775807) : StOK p { S with mem := m } X :=
  { h with mem := hm }
theorem PutR.memOK {m m' : MemA} {k : Int} {p : PageA} {res : Option (Int × PageA)} {P : Int → PageA → Prop} (h : PutR m k p res m') (hm : ∀ k q, m k = some q → P k q) (hk : P k p) : ∀ k q, m' k = some q → P k q := by
  intro j q hj
  cases h with
  | stay =>
    unfold mset at hj
    split at hj
    · rename_i h; cases hj; rw [h]; exact hk
    · exact hm j q hj
  | goes h1 h2 =>
    unfold mset mout at hj
    split at hj
    · rename_i h; cases hj; rw [h]; exact hk
    · split at hj
      · cases hj
      · exact hm j q hj

structure KeepX where
  e : Nat
  S : StA
  st : DevA
theorem s_store_Store_keep {s d : Nat} {p : PlanA} {S : StA} {st : DevA} {n : Int} {q : PageA} {sv : SV} (hd : DevB st) (hq : PgB q) (h0 : 0 ≤ n) (h1 : n < S.pages) : FnSpec Tryz.prog 54 #[.pointer (some ⟨s, 0, none⟩), .int .i64 n, pgV q sv] [StH s d p S, DevH d st, pe (bsl sv q.load)]
    (fun x : KeepX => .int .i64 x.e) (fun x => KeepR S st n q x.e x.S x.st) (fun x R => StH s d p x.S :: DevH d x.st :: R) := by
  refine fn_spec Tryz.func54 rfl rfl rfl rfl fun G R => ?_
  refine wk_nf fun X hw => ?_
  dsimp only [List.append_eq, List.cons_append, List.nil_append, stL, stB]
  refine wk_seq ?_
  refine wk_region ?_
  refine wo_w (w_boxA rfl fun b1 => ?_)
  refine wo_v (v_assign rfl) ?_
  refine wo_nil ?_
  refine wk_seq ?_
  refine wk_draw (n := 15) (pend := 32767) ⟨15, fun _ => True⟩ mixed (by kernel_rfl) rfl (fun _ _ => trivial) rfl ?_
  refine wd_x 0 rfl (v_move rfl) ?_
  refine wd_x 1 rfl (v_nilCheck rfl) ?_
  refine wd_x 2 rfl (v_fieldAddr tyF_74_10 rfl) ?_
  refine wd_x 3 rfl (v_load tyS_72 rfl rfl) ?_
  refine wd_x 4 rfl (v_move rfl) ?_
  refine wd_x 5 rfl (v_loadN tyA_67 rfl (by repeat constructor) (by repeat constructor)) ?_
  refine wd_alt [6, 11] (by kernel_rfl) ⟨6, by simp, by kernel_rfl⟩ ?_
  intro i hi
  simp only [List.mem_cons, List.not_mem_nil, or_false] at hi
  rcases hi with rfl | rfl
  · refine alt_l rfl (w_call (s_clock_Clock_Put (mem := S.mem) (p := q) (sv := sv)) rfl (by repeat constructor) ?_)
    rintro ⟨res, sv2, mem'⟩ hput
    refine ⟨fun _ _ _ => trivial, ?_⟩
    refine wd_x 7 rfl (v_move rfl) ?_
    refine wd_x 8 rfl (v_extract rfl rfl) ?_
    refine wd_x 9 rfl (v_extract rfl rfl) ?_
    refine wd_p 10 rfl (v_extract rfl rfl) ?_
    refine wd_l 11 rfl (w_allocA tyZ_67 fun b2 => ?_)
    refine ⟨fun _ _ _ => trivial, ?_⟩
    refine wd_a 12 rfl (v_assign rfl) ?_
    refine wd_l0 13 rfl (w_storeN tyN_67 rfl rfl rfl rfl (by repeat constructor) (by repeat constructor) ?_)
    refine ⟨fun _ _ _ => trivial, ?_⟩
    refine wd_a 14 rfl (v_assign rfl) ?_
    refine wd_done ?_
    refine wk_seq ?_
    refine wk_seq ?_
    refine wk_region ?_
    refine wo_v (v_move rfl) ?_
    refine wo_v (v_move rfl) ?_
    refine wo_if (t := 22) rfl (fun hr => ?_) (fun hr => ?_)
    · refine wo_gv (v_fieldAddr tyF_67_2 rfl) ?_
      refine wo_gv (v_load tyS_4 rfl rfl) ?_
      refine wo_v (v_pickT rfl rfl) ?_
      refine wo_nil ?_
      refine wk_if rfl (fun hdirty => ?_) (fun hdirty => ?_)
      · dsimp only at hput hr hdirty ⊢
        obtain ⟨⟨g, w⟩, rfl⟩ := Option.isSome_iff_exists.1 hr
        have hm2 := hput.memOK (P := fun k q => 0 ≤ k ∧ k < S.pages ∧ q.load.length ≤ 512 ∧ 0 ≤ q.stamp ∧ q.stamp ≤ 9223372036854775807) hw.mem ⟨h0, h1, hq.l, hq.s1, hq.s2⟩
        have hgw : S.mem g = some w := by cases hput; assumption
        obtain ⟨f1, f2, f3, f4, f5⟩ := hw.mem g w hgw
        dsimp only [goneK, goneP] at hdirty ⊢
        refine wk_ent (M := StH s d p { S with mem := mem' } :: _) (ent_nf X (hw.withMem hm2) (Ent.refl _)) ?_
        refine wk_seq ?_
        refine wk_region ?_
        refine wo_v (v_move rfl) ?_
        refine wo_v (v_move rfl) ?_
        refine wo_v (v_loadN tyA_67 rfl (by repeat constructor) (by repeat constructor)) ?_
        refine wo_w (w_call (s_store_Store_out (S := { S with mem := mem' }) (n := g) (q := w) (sv := sv2) hd ⟨f3, f4, f5⟩ f1 f2) rfl (by repeat constructor) ?_)
        rintro ⟨⟩ -
        refine wo_v (v_assign rfl) ?_
        refine wo_nil ?_
        refine wk_ret Tryz.func54 rfl rfl (res_tmp rfl res_nil) fun W h => ?_
        have e1 : S.gone1 st (some (g, w)) = S.out st g w := if_pos hdirty
        have hk := KeepR.mk (st := st) hput
        rw [e1] at hk
        exact ⟨⟨_, _, _⟩, rfl, hk, Ent.sat (by refine ent_take ?_; refine ent_take ?_; exact ent_tail) h⟩
      · refine wk_skip ?_
        refine wk_seq ?_
        refine wk_region ?_
        refine wo_v (v_assign rfl) ?_
        refine wo_nil ?_
        refine wk_ret Tryz.func54 rfl rfl (res_tmp rfl res_nil) fun W h => ?_
        dsimp only at hput hr hdirty h ⊢
        obtain ⟨⟨g, w⟩, rfl⟩ := Option.isSome_iff_exists.1 hr
        have hm2 := hput.memOK (P := fun k q => 0 ≤ k ∧ k < S.pages ∧ q.load.length ≤ 512 ∧ 0 ≤ q.stamp ∧ q.stamp ≤ 9223372036854775807) hw.mem ⟨h0, h1, hq.l, hq.s1, hq.s2⟩
        have e1 : S.gone1 st (some (g, w)) = (0, st) := if_neg (by show ¬ w.dirty = true; rw [show w.dirty = false from hdirty]; decide)
        have hk := KeepR.mk (st := st) hput
        rw [e1] at hk
        exact ⟨⟨0, { S with mem := mem' }, st⟩, rfl, hk, Ent.sat (by refine ent_nf X (hw.withMem hm2) ?_; refine ent_take (p := DevH d st) ?_; exact ent_tail) h⟩
    · refine wo_gF ?_
      refine wo_gF ?_
      refine wo_v (v_pickF rfl rfl) ?_
      refine wo_nil ?_
      refine wk_condF rfl ?_
      refine wk_skip ?_
      refine wk_seq ?_
      refine wk_region ?_
      refine wo_v (v_assign rfl) ?_
      refine wo_nil ?_
      refine wk_ret Tryz.func54 rfl rfl (res_tmp rfl res_nil) fun W h => ?_
      dsimp only at hput hr h ⊢
      have hrn : res = none := by simpa using hr
      subst hrn
      have hm2 := hput.memOK (P := fun k q => 0 ≤ k ∧ k < S.pages ∧ q.load.length ≤ 512 ∧ 0 ≤ q.stamp ∧ q.stamp ≤ 9223372036854775807) hw.mem ⟨h0, h1, hq.l, hq.s1, hq.s2⟩
      have hk := KeepR.mk (st := st) hput
      exact ⟨⟨0, { S with mem := mem' }, st⟩, rfl, hk, Ent.sat (by refine ent_nf X (hw.withMem hm2) ?_; refine ent_take (p := DevH d st) ?_; exact ent_tail) h⟩
  · refine alt_l rfl (w_allocA tyZ_67 fun b3 => ?_)
    refine ⟨fun _ _ _ => trivial, ?_⟩
    refine wd_l 6 rfl (w_call (s_clock_Clock_Put (mem := S.mem) (p := q) (sv := sv)) rfl (by repeat constructor) ?_)
    rintro ⟨res, sv2, mem'⟩ hput
    refine ⟨fun _ _ _ => trivial, ?_⟩
    refine wd_a 7 rfl (v_move rfl) ?_
    refine wd_a 8 rfl (v_extract rfl rfl) ?_
    refine wd_a 9 rfl (v_extract rfl rfl) ?_
    refine wd_a 12 rfl (v_assign rfl) ?_
    refine wd_p 10 rfl (v_extract rfl rfl) ?_
    refine wd_l0 13 rfl (w_storeN tyN_67 rfl rfl rfl rfl (by repeat constructor) (by repeat constructor) ?_)
    refine ⟨fun _ _ _ => trivial, ?_⟩
    refine wd_a 14 rfl (v_assign rfl) ?_
    refine wd_done ?_
    refine wk_seq ?_
    refine wk_seq ?_
    refine wk_region ?_
    refine wo_v (v_move rfl) ?_
    refine wo_v (v_move rfl) ?_
    refine wo_if (t := 22) rfl (fun hr => ?_) (fun hr => ?_)
    · refine wo_gv (v_fieldAddr tyF_67_2 rfl) ?_
      refine wo_gv (v_load tyS_4 rfl rfl) ?_
      refine wo_v (v_pickT rfl rfl) ?_
      refine wo_nil ?_
      refine wk_if rfl (fun hdirty => ?_) (fun hdirty => ?_)
      · dsimp only at hput hr hdirty ⊢
        obtain ⟨⟨g, w⟩, rfl⟩ := Option.isSome_iff_exists.1 hr
        have hm2 := hput.memOK (P := fun k q => 0 ≤ k ∧ k < S.pages ∧ q.load.length ≤ 512 ∧ 0 ≤ q.stamp ∧ q.stamp ≤ 9223372036854775807) hw.mem ⟨h0, h1, hq.l, hq.s1, hq.s2⟩
        have hgw : S.mem g = some w := by cases hput; assumption
        obtain ⟨f1, f2, f3, f4, f5⟩ := hw.mem g w hgw
        dsimp only [goneK, goneP] at hdirty ⊢
        refine wk_ent (M := StH s d p { S with mem := mem' } :: _) (ent_nf X (hw.withMem hm2) (Ent.refl _)) ?_
        refine wk_seq ?_
        refine wk_region ?_
        refine wo_v (v_move rfl) ?_
        refine wo_v (v_move rfl) ?_
        refine wo_v (v_loadN tyA_67 rfl (by repeat constructor) (by repeat constructor)) ?_
        refine wo_w (w_call (s_store_Store_out (S := { S with mem := mem' }) (n := g) (q := w) (sv := sv2) hd ⟨f3, f4, f5⟩ f1 f2) rfl (by repeat constructor) ?_)
        rintro ⟨⟩ -
        refine wo_v (v_assign rfl) ?_
        refine wo_nil ?_
        refine wk_ret Tryz.func54 rfl rfl (res_tmp rfl res_nil) fun W h => ?_
        have e1 : S.gone1 st (some (g, w)) = S.out st g w := if_pos hdirty
        have hk := KeepR.mk (st := st) hput
        rw [e1] at hk
        exact ⟨⟨_, _, _⟩, rfl, hk, Ent.sat (by refine ent_take ?_; refine ent_take ?_; exact ent_tail) h⟩
      · refine wk_skip ?_
        refine wk_seq ?_
        refine wk_region ?_
        refine wo_v (v_assign rfl) ?_
        refine wo_nil ?_
        refine wk_ret Tryz.func54 rfl rfl (res_tmp rfl res_nil) fun W h => ?_
        dsimp only at hput hr hdirty h ⊢
        obtain ⟨⟨g, w⟩, rfl⟩ := Option.isSome_iff_exists.1 hr
        have hm2 := hput.memOK (P := fun k q => 0 ≤ k ∧ k < S.pages ∧ q.load.length ≤ 512 ∧ 0 ≤ q.stamp ∧ q.stamp ≤ 9223372036854775807) hw.mem ⟨h0, h1, hq.l, hq.s1, hq.s2⟩
        have e1 : S.gone1 st (some (g, w)) = (0, st) := if_neg (by show ¬ w.dirty = true; rw [show w.dirty = false from hdirty]; decide)
        have hk := KeepR.mk (st := st) hput
        rw [e1] at hk
        exact ⟨⟨0, { S with mem := mem' }, st⟩, rfl, hk, Ent.sat (by refine ent_nf X (hw.withMem hm2) ?_; refine ent_take (p := DevH d st) ?_; exact ent_tail) h⟩
    · refine wo_gF ?_
      refine wo_gF ?_
      refine wo_v (v_pickF rfl rfl) ?_
      refine wo_nil ?_
      refine wk_condF rfl ?_
      refine wk_skip ?_
      refine wk_seq ?_
      refine wk_region ?_
      refine wo_v (v_assign rfl) ?_
      refine wo_nil ?_
      refine wk_ret Tryz.func54 rfl rfl (res_tmp rfl res_nil) fun W h => ?_
      dsimp only at hput hr h ⊢
      have hrn : res = none := by simpa using hr
      subst hrn
      have hm2 := hput.memOK (P := fun k q => 0 ≤ k ∧ k < S.pages ∧ q.load.length ≤ 512 ∧ 0 ≤ q.stamp ∧ q.stamp ≤ 9223372036854775807) hw.mem ⟨h0, h1, hq.l, hq.s1, hq.s2⟩
      have hk := KeepR.mk (st := st) hput
      exact ⟨⟨0, { S with mem := mem' }, st⟩, rfl, hk, Ent.sat (by refine ent_nf X (hw.withMem hm2) ?_; refine ent_take (p := DevH d st) ?_; exact ent_tail) h⟩

end Go.Proofs.YtealmijbkebipaaGreatDoor
