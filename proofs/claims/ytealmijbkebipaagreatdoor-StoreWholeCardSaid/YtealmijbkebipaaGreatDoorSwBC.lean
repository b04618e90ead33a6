/- StoreWhole: for every input the call returns true, and the input reads as it did; the card is tied to the program's text. No condition. -/
import Derived.Test.YtealmijbkebipaaGreatDoorSwBB
import Derived.Test.YtealmijbkebipaaGreatDoorCards
import Derived.Test.YtealmijbkebipaaGreatDoorTie
import Derived.WalkKit
import Derived.ProofKit
import Derived.Deep.DeepHandedRow
namespace Go.Proofs.YtealmijbkebipaaGreatDoor
open Go
open Go.ChangeShapes Go.WideShapes Go.ChangeAt Go.RowKit Go.Deep

theorem swKnob : ownKnob Tryz.prog.godebug = none := by kernel_rfl
theorem swTab : Tryz.prog.globalNamed "math/bits.deBruijn64tab" = some 0 := by kernel_rfl

/-- What the row's list gives: the table lies in block 0. -/
theorem swTable {W : World} (h : laidMetH Tryz.prog Rows.storeWholeRow.laid W) : ∃ T fz, (tabP T fz).q (heapP W) := by
  have ht : (Tryz.prog.globals[0]?).map (·.type) = some 203 := by kernel_rfl
  have h1 : Tryz.prog.cellsOf 203 = 64 := by kernel_rfl
  have h2 : Tryz.prog.cellsOf 5 = 1 := by kernel_rfl
  have h3 : Lib.TabIs Tryz.prog W "math/bits.deBruijn64tab" .u8 (Lib.deBruijn64tab.map fun (n : Nat) => (n : Int)) :=
    Lib.tabIs_of_head (rest := []) swTab ht Tryz.underlying203 Tryz.underlying5 h2 h1 h
  unfold Lib.TabIs World.var? at h3
  rw [swTab] at h3
  simp only [Option.bind_some] at h3
  split at h3
  · rename_i cs T fz hb
    refine ⟨T, fz, ?_⟩
    show W.heap[0]? = some (.cells debC.toArray T fz)
    rw [hb]
    have : cs = debC.toArray := by
      injection h3
    rw [this]
  · cases h3

set_option maxRecDepth 100000 in
theorem swContract (H : Type) (enc : TypeId × Value → H) (W : World) (base : Nat) (args : Array Value) (ds gs : List (DataW H)) (before : List MemPlace)
    (hval : ∀ (j : Nat) t v, Tryz.f3.params[j]? = some t → args[j]? = some v → Value.okWide Tryz.prog W .any base t v)
    (hW : DataW.Whole enc Tryz.prog Tryz.f3.params.toList Rows.storeWholeSpec.vars false W args.toList ds gs before) (hL : laidMetH Tryz.prog Rows.storeWholeRow.laid W) :
    Calls Tryz.prog 3 args W fun e W' => ∃ v, e = .returned v ∧ Rows.storeWholeSpec.post enc Tryz.prog Tryz.f3 false true false false W args v W' := by
  have hW' := hW
  obtain ⟨p, q, hA0, hV, hbe, hfz, hnd⟩ := hW
  have hA : DataW.TrodAll enc Tryz.prog W 0 (fun _ => true) true Tryz.f3.params.toList args.toList ds p := hA0
  rw [Tryz.params3] at hA hval
  obtain ⟨v0, vs0, d0, ds0, p0, q0, hargs, hds, hp, h0, r0⟩ := trodAll_cons hA
  obtain ⟨rfl, rfl, rfl⟩ := trodAll_nil r0
  obtain rfl : args = #[v0] := by cases args; simp_all
  obtain ⟨rfl, rfl⟩ := trodVars_none hV
  have hC : Tryz.prog.cellsOf 25 = 3 := by kernel_rfl
  have hC47 : Tryz.prog.cellsOf 47 = 3 := by kernel_rfl
  have hC5 : Tryz.prog.cellsOf 5 = 1 := by kernel_rfl
  have hC3 : Tryz.prog.cellsOf 3 = 1 := by kernel_rfl
  obtain ⟨u0, u1, u2, y0, y1, y2, n, rfl, hd0, hp0, r0, r1, r2⟩ := Joins.open_agg3 Tryz.underlying25 (by kernel_rfl) hC (hval 0 25 v0 rfl rfl) h0
  obtain ⟨xa, l, rfl, hq1, hq2⟩ := read_acts Tryz.underlying22 Tryz.underlying47 (by kernel_rfl) hC47 Tryz.underlying3 Tryz.underlying3 Tryz.underlying45 Tryz.underlying5 hC5 r0
  obtain ⟨down, e1, _, hwf⟩ := DataW.trod_int Tryz.underlying3 r1
  obtain rfl : u1 = .int .i64 down := by simpa using e1
  obtain ⟨xf, fates, rfl, hq3⟩ := read_nums Tryz.underlying23 Tryz.underlying3 hC3 r2
  obtain ⟨T, fz, hq0⟩ := swTable hL
  have hdn := (bounds_i64 hwf).2
  have hsat := sat_pes W [tabP T fz, roSl xa (rowC actC l) 3, actsB l, roSl xf (fates.map fun f => .int .i64 f) 1, same W] (fun x hx => by
    simp only [List.mem_cons, List.not_mem_nil, or_false] at hx
    rcases hx with rfl | rfl | rfl | rfl | rfl
    · exact hq0
    · exact hq1
    · exact hq2
    · exact hq3
    · exact fun b o hb => hb)
  have hcall := (s_sgraffitolaw13_StoreWhole (xa := xa) (xf := xf) (down := down) (l := l) (fates := fates) (T := T) (fz := fz) hdn).2 (glOf W) W [pe (same W)] hsat
  refine hcall.mono fun e W' ⟨v, he, ⟨⟩, hv, _, hs⟩ => ?_
  obtain ⟨k1, k2, k3⟩ := sat_same (L := []) hs
  subst hv
  subst hds
  have hlt := hW'.lt
  refine ⟨_, he, [d0], [], before, [], p, [], hW', ?_, ?_, rfl, kept_of k1 k2 k3, fun h => by cases h⟩
  · exact trodAll_cons_mk (shut_bool Tryz.underlying4 _) trodAll_mk0
  · have K := kids_rows (P := Tryz.prog) (by kernel_rfl) (by kernel_rfl)
    have hz := slices_full_of Tryz.prog (by kernel_rfl)
    have h25 : 25 < Tryz.prog.types.size := Nat.le_of_ble_eq_true (by kernel_rfl)
    obtain ⟨m, hm⟩ := h0.respare (spare' := fun b => decide (b < W.heap.size)) K hz h25 (fun x hx => decide_eq_true (hlt x (by rw [hbe, hp]; simp [hx])))
    rw [Tryz.params3]
    rw [hp]
    exact trodAll_cons_mk ⟨m, DataW.trod_carry m _ _ _ hm fun x hx => sameAt_of k3 (hlt x (by rw [hbe, hp]; simp [show x ∈ p0 from hx]))⟩ trodAll_mk0

/-- A world for the witness: the settled one, the table as its initialiser lays it. -/
noncomputable def swWorld (os : Os) : World :=
  { World.holding Tryz.prog os ⟨#[], #[], []⟩ with heap := (World.holding Tryz.prog os ⟨#[], #[], []⟩).heap.modify 0 fun
      | .cells _ t frozen => .cells debC.toArray t frozen
      | o => o }
theorem swMet (os : Os) : laidMet Tryz.prog Rows.storeWholeRow.laid ((swWorld os).forCall (fun _ _ => 0) ⟨#[], #[.agg #[.slice none 0 0, .int .i64 0, .slice none 0 0]], []⟩).memory :=
  laidMet_of_run' 8 (by kernel_rfl) (by kernel_rfl)
theorem swReads (os : Os) {H : Type} (enc : TypeId × Value → H) : ∃ places, DataW.whole enc Tryz.prog ((swWorld os).forCall (fun _ _ => 0) ⟨#[], #[.agg #[.slice none 0 0, .int .i64 0, .slice none 0 0]], []⟩).memory Tryz.f3.params.toList Rows.storeWholeSpec.vars false (#[.agg #[.slice none 0 0, .int .i64 0, .slice none 0 0]] : Array Value).toList 8 = some ([.agg [.nil, .lit (.int .i64 0), .nil]], [], places) :=
  ⟨[], by kernel_rfl⟩

set_option maxRecDepth 100000 in
theorem swLifted (os : Os) (started : os.Started) (H : Type) (enc : TypeId × Value → H) (F : Stop.Interp) :
    ReturnsInHanded {} Tryz.checked os 3 .any ((OpenSpec.ofChange Rows.storeWholeSpec).preRow enc Tryz.prog Tryz.f3 Rows.storeWholeRow.domain false Rows.storeWholeRow.laid) (((OpenSpec.ofChange Rows.storeWholeSpec).at F).post enc Tryz.prog Tryz.f3 false true false false) := by
  obtain ⟨places, hx⟩ := swReads os enc
  refine returnsInHanded_of_row (C := Tryz.checked) (s := OpenSpec.ofChange Rows.storeWholeSpec) swKnob started (by kernel_rfl) Tryz.func3
    (witness_row_at (enc := enc) (C := Tryz.checked) false (swWorld os) #[.agg #[.slice none 0 0, .int .i64 0, .slice none 0 0]] rfl (by kernel_rfl) (by kernel_rfl) (by kernel_rfl)
      (OpenSpec.preRow_of_cond 8 hx (by kernel_rfl) (fun k hk => by cases hk) (by kernel_rfl) (swMet os))) ?_
  intro W base args ds gs before hval hW _ _ _ hL _ _
  exact swContract H enc W base args ds gs before hval hW hL

theorem swSaid : Rows.StoreWholeSaid :=
  OpenClaim.holds_of_cond 3 Tryz.f3 rfl rfl rfl rfl rfl rfl rfl ⟨rfl, rfl, rfl, rfl, rfl⟩ rfl rfl rfl rfl rfl (by kernel_rfl) Tryz.func3 (by kernel_rfl)
    (of_decide_eq_true (by kernel_rfl)) (by unfold Func.isWrapper; first | (rw [if_pos (by decide +kernel)]; kernel_rfl) | (rw [if_neg (by decide +kernel)]; exact ⟨rfl, rfl⟩))
    (fun os started H enc _ F => by rw [OpenClaim.pre_eq_preRow]; exact swLifted os started H enc F)

theorem swPlain (f : FuncId) (fn : Func) (hf : Tryz.pinned.checked.prog.funcNamed "sgraffito/sgraffitolaw13.StoreWhole" = some f) (hfn : Tryz.pinned.checked.prog.funcs[f]? = some fn) :
    false = Tryz.pinned.checked.prog.looks [] ∧ ∀ (j : Nat) t, fn.params[j]? = some t → Tryz.pinned.checked.prog.wantsStandIn t = false := by
  obtain rfl : f = 3 := Option.some.inj ((show Tryz.prog.funcNamed "sgraffito/sgraffitolaw13.StoreWhole" = some 3 by kernel_rfl).symm.trans hf) |>.symm
  obtain rfl : fn = Tryz.f3 := (Option.some.inj (Tryz.func3.symm.trans hfn)).symm
  refine ⟨by kernel_rfl, fun j t ht => ?_⟩
  rw [Tryz.params3] at ht
  obtain rfl : t = 25 := by simpa using Array.mem_of_getElem? ht
  exact (show Tryz.prog.wantsStandIn 25 = false by kernel_rfl)

/-- The card. -/
theorem storeWhole_card : Rows.StoreWholeCardSaid :=
  Claim7.holds_tied_plain_at .later [] _ _ _ _ swSaid (fun _ h => by cases h) (by kernel_rfl) (fun _ h => by cases h) storeWhole_row_tie rfl ⟨rfl, rfl⟩ (by kernel_rfl) rfl swPlain (by kernel_rfl)
#print axioms storeWhole_card
end Go.Proofs.YtealmijbkebipaaGreatDoor
