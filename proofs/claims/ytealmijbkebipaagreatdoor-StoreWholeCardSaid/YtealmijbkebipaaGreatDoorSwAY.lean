/- Law 13: small, ref, light. The plain law of layer 13: what an act comes to. -/
import Derived.Test.YtealmijbkebipaaGreatDoorSwAX
import Derived.Test.YtealmijbkebipaaGreatDoorSwAT
namespace Go.Proofs.YtealmijbkebipaaGreatDoor
open Go
attribute [local irreducible] own pe nf

theorem s_sgraffitolaw13_small : FnSpec Tryz.prog 7 #[] []
    (fun _ : Unit => planV smallP) (fun _ => True) (fun _ R => R) := by
  refine fn_spec Tryz.func7 rfl rfl rfl rfl fun G R => ?_
  dsimp only [List.append_eq, List.cons_append, List.nil_append]
  refine wk_seq ?_
  refine wk_region ?_
  refine wo_w (w_allocA tyZ_35 fun b1 => ?_)
  refine wo_nil ?_
  refine wk_seq ?_
  refine wk_region ?_
  refine wo_v (v_buildN tyBu_35 rfl (by repeat constructor)) ?_
  refine wo_w0 (w_storeN tyN_35 rfl rfl rfl rfl (by repeat constructor) (by repeat constructor) ?_)
  refine wo_nil ?_
  refine wk_ret Tryz.func7 rfl rfl (res_cellA tyA_35 rfl (by repeat constructor) rfl res_nil) fun W h => ?_
  exact ⟨(), rfl, trivial, Ent.sat ent_tail h⟩

theorem s_sgraffitolaw13_ref {p : PgR} : FnSpec Tryz.prog 27 #[pgRV p] []
    (fun _ : Unit => refV ⟨p.page, p.stamp⟩) (fun _ => True) (fun _ R => R) := by
  refine fn_spec Tryz.func27 rfl rfl rfl rfl fun G R => ?_
  dsimp only [List.append_eq, List.cons_append, List.nil_append]
  refine wk_seq ?_
  refine wk_region ?_
  refine wo_w (w_boxA rfl fun b1 => ?_)
  refine wo_w (w_allocA tyZ_82 fun b2 => ?_)
  refine wo_nil ?_
  refine wk_seq ?_
  refine wk_region ?_
  refine wo_v (v_fieldAddr tyF_86_0 rfl) ?_
  refine wo_v (v_load tyS_3 rfl rfl) ?_
  refine wo_v (v_fieldAddr tyF_86_1 rfl) ?_
  refine wo_v (v_load tyS_3 rfl rfl) ?_
  refine wo_v (v_buildN tyBu_82 rfl (by repeat constructor)) ?_
  refine wo_w0 (w_storeN tyN_82 rfl rfl rfl rfl (by repeat constructor) (by repeat constructor) ?_)
  refine wo_nil ?_
  refine wk_ret Tryz.func27 rfl rfl (res_cellA tyA_82 rfl (by repeat constructor) rfl res_nil) fun W h => ?_
  exact ⟨(), rfl, trivial, Ent.sat ent_tail h⟩

/-- An act. -/
structure ActA where
  kind : Int
  n : Int
  sv : SV
  bs : List UInt8
abbrev actC (a : ActA) : List Value := [.int .i64 a.kind, .int .i64 a.n, a.sv.v]
theorem actC_len (a : ActA) : (actC a).length = 3 := rfl
abbrev actV (a : ActA) : Value := .agg (actC a).toArray
abbrev actsB (l : List ActA) : Pe := bslAll (l.map fun a => (a.sv, a.bs))
theorem actsB_one {l : List ActA} {a : ActA} (h : a ∈ l) {r : PH} (hq : (actsB l).q r) : (bsl a.sv a.bs).q r := bslAll_one (List.mem_map.2 ⟨a, h, rfl⟩) r hq

def Light (l : List ActA) : Prop := l.length ≤ 100 ∧ ∀ a ∈ l, a.bs.length ≤ 80

theorem s_sgraffitolaw13_light {x : SV} {l : List ActA} : FnSpec Tryz.prog 4 #[x.v] [pe (roSl x (rowC actC l) 3), pe (actsB l)]
    (fun b : Bool => .bool b) (fun b => b = true → Light l) (fun _ R => R) := by
  refine fn_spec Tryz.func4 rfl rfl rfl rfl fun G R => ?_
  dsimp only [List.append_eq, List.cons_append, List.nil_append]
  refine wk_ro (x := x) (cells := rowC actC l) (size := 3) (by repeat constructor) fun hx => ?_
  have hxn : x.n = l.length := by have := hx.1; rw [rowC_len actC_len] at this; omega
  refine wk_seq ?_
  refine wk_region ?_
  refine wo_v (v_assign rfl) ?_
  refine wo_nil ?_
  refine wk_seq ?_
  refine wk_seq ?_
  refine wk_region ?_
  refine wo_v (v_move rfl) ?_
  refine wo_v (v_len tyU_22 rfl) ?_
  refine wo_v (v_gtr rfl rfl) ?_
  refine wo_nil ?_
  refine wk_if rfl (fun hb => ?_) (fun hb => ?_)
  · refine wk_seq ?_
    refine wk_region ?_
    refine wo_v (v_assign rfl) ?_
    refine wo_nil ?_
    refine wk_ret Tryz.func4 rfl rfl (res_tmp rfl res_nil) fun W h => ?_
    exact ⟨false, rfl, fun h => (by cases h), Ent.sat ent_tail h⟩
  · refine wk_skip ?_
    refine wk_seq ?_
    refine wk_seq ?_
    refine wk_region ?_
    refine wo_v (v_assign rfl) ?_
    refine wo_nil ?_
    refine wk_block ?_
    refine wk_loop (fun i : Nat => i ≤ l.length ∧ ∀ a ∈ l.take i, a.bs.length ≤ 80) (fun i => [(0, x.v), (3, .int .i64 i)]) (fun _ => pe (roSl x (rowC actC l) 3) :: pe (actsB l) :: R) (fun i => l.length - i) 0 ⟨Nat.zero_le _, fun a h => (by cases h)⟩ ⟨rfl, rfl, trivial⟩ (Ent.refl _) fun i hi next => ?_
    obtain ⟨hi, hlt⟩ := hi
    refine wk_seq ?_
    refine wk_seq ?_
    refine wk_region ?_
    refine wo_v (v_move rfl) ?_
    refine wo_v (v_move rfl) ?_
    refine wo_v (v_len tyU_22 rfl) ?_
    refine wo_v (v_lss rfl rfl) ?_
    refine wo_nil ?_
    refine wk_if rfl (fun hc => ?_) (fun hc => ?_)
    · have hil : i < l.length := by omega
      have hg : l[i]? = some l[i] := List.getElem?_eq_getElem hil
      have htk : l.take (i + 1) = l.take i ++ [l[i]] := List.take_succ_eq_append_getElem hil
      generalize l[i] = a at hg htk
      have hm : a ∈ l := List.mem_of_getElem? hg
      refine wk_ent (ent_ro (p := actsB l) (q := bsl a.sv a.bs) (by repeat constructor) (fun r => actsB_one hm) (Ent.refl _)) ?_
      refine wk_ro (x := a.sv) (cells := u8s a.bs) (size := 1) (by repeat constructor) fun ha => ?_
      have han : a.sv.n = a.bs.length := by have := ha.1; simpa using this.symm
      refine wk_block' (x := x) (cells := rowC actC l) (size := 3) (by repeat constructor) (by omega) fun b5 o5 vs5 T5 fz5 ha5 hv5 hle5 => ?_
      refine wk_skip ?_
      refine wk_seq ?_
      refine wk_block ?_
      refine wk_seq ?_
      refine wk_region ?_
      refine wo_v (v_move rfl) ?_
      refine wo_v (v_move rfl) ?_
      refine wo_v (v_indexAddrS tyU_22 tyN_47 rfl rfl ha5 (by omega)) ?_
      refine wo_v (v_fieldAddr tyF_47_2 rfl) ?_
      refine wo_v (v_load tyS_45 rfl (ro_row (j := 2) actC_len hv5 hg (by omega))) ?_
      refine wo_v (v_len tyU_45 rfl) ?_
      refine wo_v (v_gtr rfl rfl) ?_
      refine wo_nil ?_
      refine wk_if rfl (fun hd => ?_) (fun hd => ?_)
      · refine wk_seq ?_
        refine wk_region ?_
        refine wo_v (v_assign rfl) ?_
        refine wo_nil ?_
        refine wk_ret Tryz.func4 rfl rfl (res_tmp rfl res_nil) fun W h => ?_
        exact ⟨false, rfl, fun h => (by cases h), Ent.sat ent_tail h⟩
      · refine wk_skip ?_
        refine wk_inBlock ?_
        refine wk_region ?_
        refine wo_v (v_move rfl) ?_
        refine wo_v (v_addI rfl rfl) ?_
        refine wo_v (v_assign rfl) ?_
        refine wo_nil ?_
        refine (next (i + 1) ⟨by omega, fun q hq => ?_⟩ (by omega)).use ⟨rfl, rfl, trivial⟩ (by refine ent_take ?_; refine ent_take ?_; exact ent_tail)
        rw [htk] at hq
        rcases List.mem_append.1 hq with hq | hq
        · exact hlt q hq
        · simp at hq; subst hq; omega
    · refine wk_exit rfl ?_
      refine wk_seq ?_
      refine wk_region ?_
      refine wo_v (v_assign rfl) ?_
      refine wo_nil ?_
      refine wk_ret Tryz.func4 rfl rfl (res_tmp rfl res_nil) fun W h => ?_
      refine ⟨true, rfl, fun _ => ⟨by omega, fun a hm => hlt a ?_⟩, Ent.sat ent_tail h⟩
      rw [List.take_of_length_le (by omega)]; exact hm

end Go.Proofs.YtealmijbkebipaaGreatDoor

namespace Go.Proofs.YtealmijbkebipaaGreatDoor
open Go

def kindOf (k : Int) : Int := (k.tmod 9 + 9).tmod 9
theorem kindOf_ok (k : Int) : 0 ≤ kindOf k ∧ kindOf k < 9 := fate_ok k 9 (by decide)

theorem DidOK.up {c c' : Nat} {S : StA} {st : DevA} {r r' : RefS} (h : DidOK c S st r r') (hc : c ≤ c') : DidOK c' S st r r' := ⟨h.inv.up hc, h.safe, h.dead, h.gen⟩

/-- What an act comes to. -/
inductive DidR (c : Nat) (k : Int) (S : StA) (st : DevA) (r : RefS) : StA → DevA → RefS → Nat → Prop
  | commit : k = 8 → DidR c k S st r S.commit st r.commit 0
  | other {S' : StA} {st' : DevA} {r' : RefS} {f : Nat} : k ≠ 8 → Went r 8 st st' → (f = 4 ∨ f = 0 ∧ DidOK (c + 2) S' st' r r') → DidR c k S st r S' st' r' f

section
variable {c : Nat} {k : Int} {S S' : StA} {st st' : DevA} {r r' : RefS}
theorem DidR.same (h : Inv c S st r) (hk : k ≠ 8) : DidR c k S st r S st r 0 := .other hk (DStep.refl _) (.inr ⟨rfl, h.up (Nat.le_add_right _ _), fun _ h => h, rfl, rfl⟩)
theorem new_long {load : List UInt8} {q : RefA} {e : Nat} (h : Inv c S st r) (hl : 77 < load.length) (hN : NewR S st load q e S' st') : e = 9 ∧ S' = S ∧ st' = st := by
  have hr := h.m.room
  cases hN with
  | long _ => exact ⟨rfl, rfl, rfl⟩
  | full hn _ => omega
  | made hn _ _ => omega
theorem make_refB {load : List UInt8} {r1 : RefS} {q : PgR} (h : Inv c S st r) (hc : c ≤ 60000) (hM : MakeR r load r1 q true) : RefB r1 ∧ ∀ (i : Nat) p, r.live[i]? = some p → r1.live[i]? = some p := by
  have l1 := h.l1
  have l2 := h.l2
  have l3 := h.l3
  have l4 := h.l4
  have g1 := h.g1
  cases hM with
  | made hpk hW =>
    refine ⟨⟨SetA.took_B h.B, ?_, ?_, ?_, ?_, ?_, h.g2⟩, fun i p hp => ?_⟩
    · show (r.live ++ _).length ≤ _; rw [List.length_append]; simp; omega
    · show List.length _ ≤ _; rw [hW.len]; omega
    · show r.dying.length ≤ _; omega
    · show r.dead.length ≤ _; omega
    · show 0 ≤ r.gen; omega
    · show (r.live ++ _)[i]? = _
      rw [List.getElem?_append_left (List.getElem?_eq_some_iff.1 hp).1]; exact hp
theorem free_ok {p : PgR} (h : Inv c S st r) (hp : p ∈ r.live) : S.freeE ⟨p.page, p.stamp⟩ = 0 := by
  have hv := h.live p hp
  have hin := inE_zero h.m hv.p0 hv.p1
  unfold StA.freeE
  dsimp only
  rw [if_neg (fun hh => hh hin), if_neg]
  rintro (hh | hh | hh)
  · rw [h.T, hv.has] at hh; cases hh
  · exact hv.dy ((h.dy _).1 hh)
  · exact hv.de ((h.de _).1 hh)
theorem did_new {load : List UInt8} {w : RefA} {q : PgR} {e : Nat} (h : Inv c S st r) (hl : load.length ≤ 77) (hk : k ≠ 8) (hN : NewR S st load w e S' st') (hM : MakeR r load r' q true) :
    (e = 4 ∨ e = 0 ∧ w = ⟨q.page, q.stamp⟩) ∧ DidR c k S st r S' st' r' e := by
  rcases new_law2 h hl hN hM with ⟨hf, _⟩ | ⟨_, hw, hor⟩
  · cases hf
  · refine ⟨hor.imp id fun hh => ⟨hh.1, hh.2.1⟩, .other hk (hw.mono (fun _ h => h) (by omega)) (hor.imp id fun hh => ⟨hh.1, hh.2.2.up (by omega)⟩)⟩
theorem did_new0 {load : List UInt8} {w : RefA} {q : PgR} {e : Nat} (h : Inv c S st r) (hl : load.length ≤ 77) (hN : NewR S st load w e S' st') (hM : MakeR r load r' q false) : e = 6 ∧ S' = S ∧ st' = st := by
  rcases new_law2 h hl hN hM with ⟨_, a, b, d⟩ | ⟨hf, _⟩
  · exact ⟨a, b, d⟩
  · cases hf
theorem did_write {i : Nat} {p : PgR} {load : List UInt8} {w : RefA} {q : PgR} {e : Nat} (h : Inv c S st r) (hp : r.live[i]? = some p) (hl : load.length ≤ 77) (hk : k ≠ 8) (hN : WriteR S st ⟨p.page, p.stamp⟩ load w e S' st') (hM : WrR r i load r' q true) :
    (e = 4 ∨ e = 0 ∧ w = ⟨q.page, q.stamp⟩) ∧ DidR c k S st r S' st' r' e := by
  rcases write_law h hp hl hN hM with ⟨hf, _⟩ | ⟨_, hw, hor⟩
  · cases hf
  · exact ⟨hor.imp id fun hh => ⟨hh.1, hh.2.1⟩, .other hk (hw.mono (fun _ h => h) (by omega)) (hor.imp id fun hh => ⟨hh.1, hh.2.2⟩)⟩
theorem did_write0 {i : Nat} {p : PgR} {load : List UInt8} {w : RefA} {q : PgR} {e : Nat} (h : Inv c S st r) (hp : r.live[i]? = some p) (hl : load.length ≤ 77) (hN : WriteR S st ⟨p.page, p.stamp⟩ load w e S' st') (hM : WrR r i load r' q false) : e = 6 ∧ S' = S ∧ st' = st := by
  rcases write_law h hp hl hN hM with ⟨_, a, b, d⟩ | ⟨hf, _⟩
  · exact ⟨a, b, d⟩
  · cases hf
theorem did_free {i : Nat} {p : PgR} (h : Inv c S st r) (hp : r.live[i]? = some p) (hk : k ≠ 8) (hD : DropR r i r') : DidR c k S st r (S.goneS p.page) st r' 0 := by
  obtain ⟨a, b, d, e⟩ := drop_law h hp hD
  exact .other hk (DStep.refl _) (.inr ⟨rfl, a.up (by omega), b, d, e⟩)
theorem did_read {p : PgR} {load : List UInt8} {e : Nat} (h : Inv c S st r) (hp : p ∈ r.live) (hk : k ≠ 8) (hR : ReadR S st ⟨p.page, p.stamp⟩ load e S' st') : (e = 4 ∨ e = 0 ∧ load = p.load) ∧ DidR c k S st r S' st' r e := by
  obtain ⟨hw, hor⟩ := read_law h hp hR
  exact ⟨hor.imp id fun hh => ⟨hh.1, hh.2.1⟩, .other hk (hw.mono (fun _ h => h) (by omega)) (hor.imp id fun hh => ⟨hh.1, hh.2.2.up (by omega), fun _ h => h, rfl, rfl⟩)⟩
theorem did_flush {ks : List Int} (h : Inv c S st r) (hk : k ≠ 8) (hks : KeysR S.mem ks 8) : ((S.flushL st ks).1 = 4 ∨ (S.flushL st ks).1 = 0) ∧ DidR c k S st r (S.flushL st ks).2.1 (S.flushL st ks).2.2 r (S.flushL st ks).1 := by
  obtain ⟨hw, hor⟩ := flush_law r c ks S st h
  exact ⟨hor.imp id And.left, .other hk (hw.mono (fun _ h => h) hks.len) (hor.imp id fun hh => ⟨hh.1, hh.2.1.up (by omega), fun _ h => h, rfl, rfl⟩)⟩
end
end Go.Proofs.YtealmijbkebipaaGreatDoor
