/- What each operation is owed, one rule an operation. Memory: what stores, makes, appends and maps are owed. -/
import Derived.Test.YtealmijbkebipaaGreatDoorSwAA
namespace Go.Proofs.YtealmijbkebipaaGreatDoor
open Go

/-! ### Facts on types -/

/-- A type of one cell. -/
def scalarB (P : Program) (t : TypeId) : Bool :=
  match P.underlying t, P.info? t with
  | some d, some i => (match d with | .struct _ | .array _ _ => false | _ => true) && i.size == 1
  | _, _ => false
structure TyScalar (P : Program) (t : TypeId) : Prop where
  notAgg : (isAgg t : Sem Bool) = isAgg t ∧ ∀ w, (isAgg t).run P w = .ok false w
  size : ∀ w, (sizeOf t).run P w = .ok 1 w

theorem TyScalar.of {P : Program} {t : TypeId} (h : scalarB P t = true) : TyScalar P t := by
  unfold scalarB at h
  split at h
  · rename_i d i h2 h3
    rw [Bool.and_eq_true] at h
    obtain ⟨ha, hs⟩ := h
    refine ⟨⟨rfl, fun w => ?_⟩, fun w => ?_⟩
    · cases d <;> simp_all [isAgg, underlying]
    · have : i.size = 1 := by simpa using hs
      simp [sizeOf, typeInfo, h3, this]
  · cases h

/-- A struct or an array, of so many cells. -/
def aggB (P : Program) (t : TypeId) (n : Nat) : Bool :=
  match P.underlying t, P.info? t with
  | some d, some i => (match d with | .struct _ | .array _ _ => true | _ => false) && i.size == n
  | _, _ => false
structure TyAgg (P : Program) (t : TypeId) (n : Nat) : Prop where
  agg : ∀ w, (isAgg t).run P w = .ok true w
  size : ∀ w, (sizeOf t).run P w = .ok n w
theorem TyAgg.of {P : Program} {t : TypeId} {n : Nat} (h : aggB P t n = true) : TyAgg P t n := by
  unfold aggB at h
  split at h
  · rename_i d i h2 h3
    rw [Bool.and_eq_true] at h
    obtain ⟨ha, hs⟩ := h
    refine ⟨fun w => ?_, fun w => ?_⟩
    · cases d <;> simp_all [isAgg, underlying]
    · have : i.size = n := by simpa using hs
      simp [sizeOf, typeInfo, h3, this]
  · cases h

/-- A type's zero value. -/
def TyZero (P : Program) (t : TypeId) (z : Value) : Prop := (P.info? t).bind (·.zero) = some z
theorem TyZero.run {P : Program} {t : TypeId} {z : Value} (h : TyZero P t z) (w : World) : (zeroValue t).run P w = .ok z w := by
  unfold TyZero at h
  cases hi : P.info? t with
  | none => rw [hi] at h; cases h
  | some i => rw [hi] at h; simp only [Option.bind_some] at h; simp [zeroValue, typeInfo, hi, h]

/-- A type's size. -/
def TySize (P : Program) (t : TypeId) (n : Nat) : Prop := (P.info? t).map (·.size) = some n
theorem TySize.run {P : Program} {t : TypeId} {n : Nat} (h : TySize P t n) (w : World) : (sizeOf t).run P w = .ok n w := by
  unfold TySize at h
  cases hi : P.info? t with
  | none => rw [hi] at h; cases h
  | some i => rw [hi] at h; simp only [Option.map_some, Option.some.injEq] at h; simp [sizeOf, typeInfo, hi, h]

def TyUnd (P : Program) (t : TypeId) (d : TypeDesc) : Prop := P.underlying t = some d
theorem TyUnd.run {P : Program} {t : TypeId} {d : TypeDesc} (h : TyUnd P t d) (w : World) : (underlying t).run P w = .ok d w := by
  unfold TyUnd at h
  simp [underlying, h]

/-- A struct's field lies so many cells behind its beginning. -/
def fieldB (P : Program) (s f off : Nat) : Bool :=
  match P.underlying s with
  | some (.struct fields) => (match fields[f]? with
    | some fd => fd.offset == off && (match P.info? fd.type with | some i => i.size != 0 | none => false)
    | none => false)
  | _ => false
def TyField (P : Program) (s f off : Nat) : Prop := fieldB P s f off = true
theorem TyField.run {P : Program} {s f off : Nat} (h : TyField P s f off) (w : World) (b o : Nat) :
    (Instr.fieldAt s (.pointer (some ⟨b, o, none⟩)) f).run P w = .ok (.pointer (some ⟨b, o + off, none⟩)) w := by
  unfold TyField fieldB at h
  split at h <;> rename_i h1
  · split at h <;> rename_i h2
    · rename_i fields fd
      rw [Bool.and_eq_true] at h
      obtain ⟨ha, hb⟩ := h
      split at hb <;> rename_i h3
      · rename_i i
        have e1 : fd.offset = off := by simpa using ha
        have e2 : ¬ i.size = 0 := by simpa using hb
        have hadd : (⟨b, o, none⟩ : Addr).add off = ⟨b, o + off, none⟩ := by unfold Addr.add; split <;> simp_all
        simp [Instr.fieldAt, underlying, h1, h2, Instr.sureAddr, fieldPlace, sizeOf, typeInfo, h3, e1, e2, hadd]
      · cases hb
    · cases h
  · cases h

theorem add_lit (b o n : Nat) : (⟨b, o, none⟩ : Addr).add n = ⟨b, o + n, none⟩ := by unfold Addr.add; split <;> simp_all

/-! ### What a row of assertions tells of a block -/

abbrev blk (b : Nat) (vs : List Value) (T : TypeId) : HP := own b (.cells vs.toArray T (0, 0))
abbrev rob (b : Nat) (vs : List Value) (T : TypeId) (fz : Nat × Nat) : Pe := roB b (.cells vs.toArray T fz)

inductive HasC : List HP → Nat → List Value → Prop
  | own {b : Nat} {vs : List Value} {T : TypeId} {fz : Nat × Nat} {L : List HP} : HasC (own b (.cells vs.toArray T fz) :: L) b vs
  | ro {b : Nat} {vs : List Value} {T : TypeId} {fz : Nat × Nat} {L : List HP} : HasC (pe (roB b (.cells vs.toArray T fz)) :: L) b vs
  | there {p : HP} {b : Nat} {vs : List Value} {L : List HP} : HasC L b vs → HasC (p :: L) b vs

theorem Sat.tail {G : Gl} {w : World} {p : HP} {L : List HP} (h : Sat G w (p :: L)) : Sat G w L := Ent.drop.sat h

theorem HasC.get {L : List HP} {b : Nat} {vs : List Value} (h : HasC L b vs) : ∀ {G : Gl} {w : World}, Sat G w L → ∃ T fz, w.heap[b]? = some (.cells vs.toArray T fz) := by
  induction h with
  | own => exact fun s => ⟨_, _, s.own_get⟩
  | ro => exact fun s => ⟨_, _, s.ro_get⟩
  | there _ ih => exact fun s => ih s.tail

theorem HasC.cell {L : List HP} {b : Nat} {vs : List Value} (h : HasC L b vs) {G : Gl} {w : World} (s : Sat G w L) (o : Nat) : w.cell? ⟨b, o, none⟩ = vs[o]? := by
  obtain ⟨T, fz, hg⟩ := h.get s
  simp [World.cell?, hg]

theorem run_loadCellsFrom {P : Program} {w : World} {b o : Nat} {vs : List Value} (hc : ∀ j, w.cell? ⟨b, j, none⟩ = vs[j]?) : ∀ (n i : Nat) (acc : Array Value), o + i + n ≤ vs.length →
    (loadCellsFrom ⟨b, o, none⟩ i n acc).run P w = .ok (acc ++ ((vs.drop (o + i)).take n).toArray) w := by
  intro n
  induction n with
  | zero => intro i acc _; simp [loadCellsFrom]
  | succ n ih =>
    intro i acc hle
    have hlt : o + i < vs.length := by omega
    have h1 : w.cell? ((⟨b, o, none⟩ : Addr).add i) = some vs[o + i] := by rw [add_lit, hc]; simp [hlt]
    simp only [loadCellsFrom, Sem.run_bind, run_load, h1, Result.andThen_ok]
    rw [ih (i + 1) _ (by omega)]
    congr 1
    rw [List.drop_eq_getElem_cons hlt, List.take_succ_cons, ← Array.toList_inj]
    simp [Nat.add_assoc]

theorem run_loadCells {P : Program} {w : World} {b o n : Nat} {vs : List Value} (hc : ∀ j, w.cell? ⟨b, j, none⟩ = vs[j]?) (hle : o + n ≤ vs.length) :
    (loadCells ⟨b, o, none⟩ n).run P w = .ok ((vs.drop o).take n).toArray w := by
  unfold loadCells
  rw [run_loadCellsFrom hc n 0 #[] (by omega)]
  simp

section vals
variable {P : Program} {C : Cx} {e : Env} {L : List HP} {ty : TypeId}

theorem v_move {x : Operand} {v : Value} (h : ev e x = some v) : OpV P C (.move x) ty e L v := fun w tm ds pos after guard dst s a' => by
  simp [execOp, a'.ev h]
theorem v_assign {x : Operand} {v : Value} (h : ev e x = some v) : OpV P C (.assign x) ty e L v := fun w tm ds pos after guard dst s a' => by
  simp [execOp, a'.ev h]
theorem v_pick {c x y : Operand} {b : Bool} {v u : Value} (hc : ev e c = some (.bool b)) (hx : b = true → ev e x = some v) (hy : b = false → ev e y = some u) : OpV P C (.pick c x y) ty e L (if b = true then v else u) := fun w tm ds pos after guard dst s a' => by
  cases b
  · simp [execOp, a'.ev hc, asBool, a'.ev (hy rfl)]
  · simp [execOp, a'.ev hc, asBool, a'.ev (hx rfl)]
theorem v_pickT {c x y : Operand} {v : Value} (hc : ev e c = some (.bool true)) (hx : ev e x = some v) : OpV P C (.pick c x y) ty e L v := fun w tm ds pos after guard dst s a' => by
  simp [execOp, a'.ev hc, asBool, a'.ev hx]
theorem v_pickF {c x y : Operand} {v : Value} (hc : ev e c = some (.bool false)) (hx : ev e y = some v) : OpV P C (.pick c x y) ty e L v := fun w tm ds pos after guard dst s a' => by
  simp [execOp, a'.ev hc, asBool, a'.ev hx]
theorem v_nilCheck {x : Operand} {a : Addr} (h : ev e x = some (.pointer (some a))) : OpV P C (.nilCheck x) ty e L (.pointer (some a)) := fun w tm ds pos after guard dst s a' => by
  simp [execOp, a'.ev h]
theorem v_nilCheckF {x : Operand} {f : FuncId} {a b : Array Value} (h : ev e x = some (.func (.func f) a b)) : OpV P C (.nilCheck x) ty e L (.func (.func f) a b) := fun w tm ds pos after guard dst s a' => by
  simp [execOp, a'.ev h]
theorem v_nilCheckY {x : Operand} {f : Nat} {a b : Array Value} (h : ev e x = some (.func (.yield f) a b)) : OpV P C (.nilCheck x) ty e L (.func (.yield f) a b) := fun w tm ds pos after guard dst s a' => by
  simp [execOp, a'.ev h]
theorem v_fieldAddr {t f off b o : Nat} {x : Operand} (hf : TyField P t f off) (h : ev e x = some (.pointer (some ⟨b, o, none⟩))) : OpV P C (.fieldAddr t x f) ty e L (.pointer (some ⟨b, o + off, none⟩)) := fun w tm ds pos after guard dst s a' => by
  simp [execOp, a'.ev h, hf.run]
theorem v_extract {x : Operand} {i : Nat} {vs : Array Value} {v : Value} (h : ev e x = some (.tuple vs)) (hv : vs[i]? = some v) : OpV P C (.extract x i) ty e L v := fun w tm ds pos after guard dst s a' => by
  simp [execOp, a'.ev h, Instr.extract, hv]
theorem v_makeFunc {fn : Fn} {xs ys : Array Operand} {vs us : List Value} (h1 : evs e xs.toList = some vs) (h2 : evs e ys.toList = some us) : OpV P C (.makeFunc fn xs ys) ty e L (.func fn vs.toArray us.toArray) := fun w tm ds pos after guard dst s a' => by
  have e1 : xs.map (Act.eval ⟨tm, ds⟩) = vs.toArray := by apply Array.toList_inj.1; simpa using a'.evs ds h1
  have e2 : ys.map (Act.eval ⟨tm, ds⟩) = us.toArray := by apply Array.toList_inj.1; simpa using a'.evs ds h2
  simp [execOp, e1, e2, Instr.makeFunc]

/-- A load of one cell. -/
theorem v_load {t b o : Nat} {x : Operand} {vs : List Value} {v : Value} (ht : TyScalar P t) (h : ev e x = some (.pointer (some ⟨b, o, none⟩))) (hv : vs[o]? = some v) (hc : HasC L b vs := by repeat constructor) : OpV P C (.load t x) ty e L v := fun w tm ds pos after guard dst s a' => by
  have h1 := hc.cell s o
  rw [hv] at h1
  simp [execOp, a'.ev h, Instr.loadAt, Instr.sureAddr, loadVar, ht.notAgg.2, h1]
/-- A load of several. -/
theorem v_loadA {t b o n : Nat} {x : Operand} {vs us : List Value} (ht : TyAgg P t n) (h : ev e x = some (.pointer (some ⟨b, o, none⟩))) (hv : (vs.drop o).take n = us) (hn : Nat.beq us.length n = true) (hc : HasC L b vs := by repeat constructor) : OpV P C (.load t x) ty e L (.agg us.toArray) := fun w tm ds pos after guard dst s a' => by
  have hlen : us.length = n := Nat.eq_of_beq_eq_true hn
  by_cases h0 : n = 0
  · subst h0
    have hu : us = [] := List.eq_nil_of_length_eq_zero hlen
    subst hu
    simp [execOp, a'.ev h, Instr.loadAt, Instr.sureAddr, loadVar, ht.agg, ht.size, loadCells, loadCellsFrom]
  · have hle : o + n ≤ vs.length := by
      have := congrArg List.length hv
      simp only [List.length_take, List.length_drop] at this
      omega
    have h1 := run_loadCells (P := P) (w := w) (b := b) (o := o) (n := n) (vs := vs) (fun j => hc.cell s j) hle
    simp [execOp, a'.ev h, Instr.loadAt, Instr.sureAddr, loadVar, ht.agg, ht.size, h1, hv]

end vals

/-! ### Integers -/

theorem wrap_i64 {n : Int} (h1 : -9223372036854775808 ≤ n) (h2 : n ≤ 9223372036854775807) : IntKind.i64.wrap n = n := by
  have e : (2 : Int) ^ (IntKind.i64.bits) = 18446744073709551616 := by rfl
  have e' : (2 : Int) ^ (IntKind.i64.bits - 1) = 9223372036854775808 := by rfl
  simp only [IntKind.wrap, e, e', IntKind.signed, Bool.true_and, decide_eq_true_eq, ge_iff_le]
  split <;> omega
theorem wrap_u64 (n : Int) : IntKind.u64.wrap n = n % 18446744073709551616 := by
  have e : (2 : Int) ^ (IntKind.u64.bits) = 18446744073709551616 := by rfl
  simp [IntKind.wrap, e, IntKind.signed]
theorem wrap_u32 (n : Int) : IntKind.u32.wrap n = n % 4294967296 := by
  have e : (2 : Int) ^ (IntKind.u32.bits) = 4294967296 := by rfl
  simp [IntKind.wrap, e, IntKind.signed]
theorem wrap_u16 (n : Int) : IntKind.u16.wrap n = n % 65536 := by
  have e : (2 : Int) ^ (IntKind.u16.bits) = 65536 := by rfl
  simp [IntKind.wrap, e, IntKind.signed]
theorem wrap_u8 (n : Int) : IntKind.u8.wrap n = n % 256 := by
  have e : (2 : Int) ^ (IntKind.u8.bits) = 256 := by rfl
  simp [IntKind.wrap, e, IntKind.signed]

section ints
variable {P : Program} {C : Cx} {e : Env} {L : List HP} {ty t t' : TypeId} {x y : Operand} {k : IntKind} {a b : Int}

theorem ibeq (a b : Int) : (a == b) = decide (a = b) := by by_cases h : a = b <;> simp [h]
theorem run_guard_int {P : Program} {op : BinOp} {t : TypeId} {x y : Operand} {k k' : IntKind} {a b : Int} (w : World) : (eqGuard op t x y (.int k a) (.int k' b)).run P w = .ok () w := by
  unfold eqGuard; split <;> rfl

/-- Whatever the operation comes to. -/
theorem v_bin {op : BinOp} {v : Value} (hx : ev e x = some (.int k a)) (hy : ev e y = some (.int k b)) (h : ∀ w, (binOp op t (.int k a) (.int k b)).run P w = .ok v w) : OpV P C (.binOp op t x y t') ty e L v := fun w tm ds pos after guard dst s a' => by
  simp [execOp, a'.ev hx, a'.ev hy, run_guard_int, h]

theorem v_addI (hx : ev e x = some (.int .i64 a)) (hy : ev e y = some (.int .i64 b)) (h1 : -9223372036854775808 ≤ a + b := by omega) (h2 : a + b ≤ 9223372036854775807 := by omega) : OpV P C (.binOp .add t x y t') ty e L (.int .i64 (a + b)) :=
  v_bin hx hy fun w => by simp [binOp, Op.intArith, wrap_i64 h1 h2]
theorem v_subI (hx : ev e x = some (.int .i64 a)) (hy : ev e y = some (.int .i64 b)) (h1 : -9223372036854775808 ≤ a - b := by omega) (h2 : a - b ≤ 9223372036854775807 := by omega) : OpV P C (.binOp .sub t x y t') ty e L (.int .i64 (a - b)) :=
  v_bin hx hy fun w => by simp [binOp, Op.intArith, wrap_i64 h1 h2]
theorem v_mulI (hx : ev e x = some (.int .i64 a)) (hy : ev e y = some (.int .i64 b)) (h1 : -9223372036854775808 ≤ a * b := by omega) (h2 : a * b ≤ 9223372036854775807 := by omega) : OpV P C (.binOp .mul t x y t') ty e L (.int .i64 (a * b)) :=
  v_bin hx hy fun w => by simp [binOp, Op.intArith, wrap_i64 h1 h2]
/-- Division of what is not below 0. -/
theorem v_quoI (hx : ev e x = some (.int .i64 a)) (hy : ev e y = some (.int .i64 b)) (h1 : 0 ≤ a := by omega) (h2 : 0 < b := by omega) (h3 : a ≤ 9223372036854775807 := by omega) : OpV P C (.binOp .quo t x y t') ty e L (.int .i64 (a / b)) :=
  v_bin hx hy fun w => by
    have e1 : a.tdiv b = a / b := Int.tdiv_eq_ediv_of_nonneg h1
    have e2 : 0 ≤ a / b := Int.ediv_nonneg h1 (by omega)
    have e3 : a / b ≤ a := Int.ediv_le_self _ h1
    have e4 : ¬ b = 0 := by omega
    simp [binOp, Op.intDiv, e1, e4, wrap_i64 (n := a / b) (by omega) (by omega)]
theorem v_remI (hx : ev e x = some (.int .i64 a)) (hy : ev e y = some (.int .i64 b)) (h1 : 0 ≤ a := by omega) (h2 : 0 < b := by omega) : OpV P C (.binOp .rem t x y t') ty e L (.int .i64 (a % b)) :=
  v_bin hx hy fun w => by
    have e4 : ¬ b = 0 := by omega
    simp [binOp, Op.intDiv, e4, Int.tmod_eq_emod_of_nonneg h1]
/-- Go's own remainder, of whatever sign. -/
theorem v_tremI (hx : ev e x = some (.int .i64 a)) (hy : ev e y = some (.int .i64 b)) (h2 : b ≠ 0 := by omega) : OpV P C (.binOp .rem t x y t') ty e L (.int .i64 (a.tmod b)) :=
  v_bin hx hy fun w => by simp [binOp, Op.intDiv, h2]

theorem v_lss (hx : ev e x = some (.int k a)) (hy : ev e y = some (.int k b)) : OpV P C (.binOp .lss t x y t') ty e L (.bool (decide (a < b))) := v_bin hx hy fun w => by simp [binOp, Op.intCmp]
theorem v_leq (hx : ev e x = some (.int k a)) (hy : ev e y = some (.int k b)) : OpV P C (.binOp .leq t x y t') ty e L (.bool (decide (a ≤ b))) := v_bin hx hy fun w => by simp [binOp, Op.intCmp]
theorem v_gtr (hx : ev e x = some (.int k a)) (hy : ev e y = some (.int k b)) : OpV P C (.binOp .gtr t x y t') ty e L (.bool (decide (a > b))) := v_bin hx hy fun w => by simp [binOp, Op.intCmp]
theorem v_geq (hx : ev e x = some (.int k a)) (hy : ev e y = some (.int k b)) : OpV P C (.binOp .geq t x y t') ty e L (.bool (decide (a ≥ b))) := v_bin hx hy fun w => by simp [binOp, Op.intCmp]
theorem v_eql (hx : ev e x = some (.int k a)) (hy : ev e y = some (.int k b)) : OpV P C (.binOp .eql t x y t') ty e L (.bool (decide (a = b))) := v_bin hx hy fun w => by simp [binOp, Op.intCmp, ibeq]
theorem v_neq (hx : ev e x = some (.int k a)) (hy : ev e y = some (.int k b)) : OpV P C (.binOp .neq t x y t') ty e L (.bool (!decide (a = b))) := v_bin hx hy fun w => by simp [binOp, Op.intCmp, bne, ibeq]

/-- Unsigned: sums and products go round. -/
theorem v_addU (hx : ev e x = some (.int .u64 a)) (hy : ev e y = some (.int .u64 b)) : OpV P C (.binOp .add t x y t') ty e L (.int .u64 ((a + b) % 18446744073709551616)) := v_bin hx hy fun w => by simp [binOp, Op.intArith, wrap_u64]
theorem v_subU (hx : ev e x = some (.int .u64 a)) (hy : ev e y = some (.int .u64 b)) : OpV P C (.binOp .sub t x y t') ty e L (.int .u64 ((a - b) % 18446744073709551616)) := v_bin hx hy fun w => by simp [binOp, Op.intArith, wrap_u64]
theorem v_mulU (hx : ev e x = some (.int .u64 a)) (hy : ev e y = some (.int .u64 b)) : OpV P C (.binOp .mul t x y t') ty e L (.int .u64 ((a * b) % 18446744073709551616)) := v_bin hx hy fun w => by simp [binOp, Op.intArith, wrap_u64]
theorem v_addU32 (hx : ev e x = some (.int .u32 a)) (hy : ev e y = some (.int .u32 b)) : OpV P C (.binOp .add t x y t') ty e L (.int .u32 ((a + b) % 4294967296)) := v_bin hx hy fun w => by simp [binOp, Op.intArith, wrap_u32]
theorem v_mulU32 (hx : ev e x = some (.int .u32 a)) (hy : ev e y = some (.int .u32 b)) : OpV P C (.binOp .mul t x y t') ty e L (.int .u32 ((a * b) % 4294967296)) := v_bin hx hy fun w => by simp [binOp, Op.intArith, wrap_u32]
theorem v_quoU (hx : ev e x = some (.int .u64 a)) (hy : ev e y = some (.int .u64 b)) (h1 : 0 ≤ a := by omega) (h2 : 0 < b := by omega) (h3 : a < 18446744073709551616 := by omega) : OpV P C (.binOp .quo t x y t') ty e L (.int .u64 (a / b)) :=
  v_bin hx hy fun w => by
    have e1 : a.tdiv b = a / b := Int.tdiv_eq_ediv_of_nonneg h1
    have e2 : 0 ≤ a / b := Int.ediv_nonneg h1 (by omega)
    have e3 : a / b ≤ a := Int.ediv_le_self _ h1
    have e4 : ¬ b = 0 := by omega
    have e5 : a / b % 18446744073709551616 = a / b := Int.emod_eq_of_lt e2 (by omega)
    simp [binOp, Op.intDiv, e1, e4, wrap_u64, e5]
theorem v_remU (hx : ev e x = some (.int .u64 a)) (hy : ev e y = some (.int .u64 b)) (h1 : 0 ≤ a := by omega) (h2 : 0 < b := by omega) : OpV P C (.binOp .rem t x y t') ty e L (.int .u64 (a % b)) :=
  v_bin hx hy fun w => by
    have e4 : ¬ b = 0 := by omega
    simp [binOp, Op.intDiv, e4, Int.tmod_eq_emod_of_nonneg h1]

/-! Bits, of numbers that are not below 0. -/

theorem ofInt_toNat {n : Nat} {a : Int} (h0 : 0 ≤ a) (h1 : a < 2 ^ n) : (BitVec.ofInt n a).toNat = a.toNat := by
  have : (BitVec.ofInt n a).toNat = (a % (2 ^ n : Int)).toNat := by simp [BitVec.toNat_ofInt]
  rw [this, Int.emod_eq_of_lt h0 h1]

theorem wrap_nat_lt {k : IntKind} (hk : k.signed = false) {n : Nat} (h : n < 2 ^ k.bits) : k.wrap n = n := by
  have : ((n : Int) % (2 ^ k.bits : Int)) = n := Int.emod_eq_of_lt (by omega) (by exact_mod_cast h)
  simp only [IntKind.wrap, hk, Bool.false_and, Bool.false_eq_true, if_false, this]

section bits
variable (hk : k.signed = false) (hx : ev e x = some (.int k a)) (hy : ev e y = some (.int k b)) (h1 : 0 ≤ a) (h2 : a < 2 ^ k.bits) (h3 : 0 ≤ b) (h4 : b < 2 ^ k.bits)
include hk hx hy h1 h2 h3 h4
theorem v_and' : OpV P C (.binOp .and t x y t') ty e L (.int k ((a.toNat &&& b.toNat : Nat) : Int)) := v_bin hx hy fun w => by
  have e1 := ofInt_toNat h1 h2
  have e2 := ofInt_toNat h3 h4
  have hlt : a.toNat &&& b.toNat < 2 ^ k.bits := by rw [← e1, ← e2, ← BitVec.toNat_and]; exact BitVec.isLt _
  simp only [binOp, ne_eq, not_true_eq_false, if_false, Op.intBits, BitVec.toNat_and, e1, e2, wrap_nat_lt hk hlt, Sem.run_pure]
theorem v_or' : OpV P C (.binOp .or t x y t') ty e L (.int k ((a.toNat ||| b.toNat : Nat) : Int)) := v_bin hx hy fun w => by
  have e1 := ofInt_toNat h1 h2
  have e2 := ofInt_toNat h3 h4
  have hlt : a.toNat ||| b.toNat < 2 ^ k.bits := by rw [← e1, ← e2, ← BitVec.toNat_or]; exact BitVec.isLt _
  simp only [binOp, ne_eq, not_true_eq_false, if_false, Op.intBits, BitVec.toNat_or, e1, e2, wrap_nat_lt hk hlt, Sem.run_pure]
theorem v_xor' : OpV P C (.binOp .xor t x y t') ty e L (.int k ((a.toNat ^^^ b.toNat : Nat) : Int)) := v_bin hx hy fun w => by
  have e1 := ofInt_toNat h1 h2
  have e2 := ofInt_toNat h3 h4
  have hlt : a.toNat ^^^ b.toNat < 2 ^ k.bits := by rw [← e1, ← e2, ← BitVec.toNat_xor]; exact BitVec.isLt _
  simp only [binOp, ne_eq, not_true_eq_false, if_false, Op.intBits, BitVec.toNat_xor, e1, e2, wrap_nat_lt hk hlt, Sem.run_pure]
/-- a &^ b -/
theorem v_andNot' : OpV P C (.binOp .andNot t x y t') ty e L (.int k ((a.toNat &&& (2 ^ k.bits - 1 - b.toNat) : Nat) : Int)) := v_bin hx hy fun w => by
  have e1 := ofInt_toNat h1 h2
  have e2 := ofInt_toNat h3 h4
  have e3 : (BitVec.ofInt k.bits a &&& ~~~ BitVec.ofInt k.bits b).toNat = a.toNat &&& (2 ^ k.bits - 1 - b.toNat) := by
    rw [BitVec.toNat_and, BitVec.toNat_not, e1, e2]
  have hlt : a.toNat &&& (2 ^ k.bits - 1 - b.toNat) < 2 ^ k.bits := by rw [← e3]; exact BitVec.isLt _
  simp only [binOp, ne_eq, not_true_eq_false, if_false, Op.intBits, e3, wrap_nat_lt hk hlt, Sem.run_pure]
end bits
theorem v_andU (hx : ev e x = some (.int .u64 a)) (hy : ev e y = some (.int .u64 b)) (h1 : 0 ≤ a := by omega) (h2 : a < 18446744073709551616 := by omega) (h3 : 0 ≤ b := by omega) (h4 : b < 18446744073709551616 := by omega) : OpV P C (.binOp .and t x y t') ty e L (.int .u64 ((a.toNat &&& b.toNat : Nat) : Int)) := v_and' rfl hx hy h1 h2 h3 h4
theorem v_andU32 (hx : ev e x = some (.int .u32 a)) (hy : ev e y = some (.int .u32 b)) (h1 : 0 ≤ a := by omega) (h2 : a < 4294967296 := by omega) (h3 : 0 ≤ b := by omega) (h4 : b < 4294967296 := by omega) : OpV P C (.binOp .and t x y t') ty e L (.int .u32 ((a.toNat &&& b.toNat : Nat) : Int)) := v_and' rfl hx hy h1 h2 h3 h4
theorem v_andU8 (hx : ev e x = some (.int .u8 a)) (hy : ev e y = some (.int .u8 b)) (h1 : 0 ≤ a := by omega) (h2 : a < 256 := by omega) (h3 : 0 ≤ b := by omega) (h4 : b < 256 := by omega) : OpV P C (.binOp .and t x y t') ty e L (.int .u8 ((a.toNat &&& b.toNat : Nat) : Int)) := v_and' rfl hx hy h1 h2 h3 h4
theorem v_orU (hx : ev e x = some (.int .u64 a)) (hy : ev e y = some (.int .u64 b)) (h1 : 0 ≤ a := by omega) (h2 : a < 18446744073709551616 := by omega) (h3 : 0 ≤ b := by omega) (h4 : b < 18446744073709551616 := by omega) : OpV P C (.binOp .or t x y t') ty e L (.int .u64 ((a.toNat ||| b.toNat : Nat) : Int)) := v_or' rfl hx hy h1 h2 h3 h4
theorem v_orU32 (hx : ev e x = some (.int .u32 a)) (hy : ev e y = some (.int .u32 b)) (h1 : 0 ≤ a := by omega) (h2 : a < 4294967296 := by omega) (h3 : 0 ≤ b := by omega) (h4 : b < 4294967296 := by omega) : OpV P C (.binOp .or t x y t') ty e L (.int .u32 ((a.toNat ||| b.toNat : Nat) : Int)) := v_or' rfl hx hy h1 h2 h3 h4
theorem v_orU8 (hx : ev e x = some (.int .u8 a)) (hy : ev e y = some (.int .u8 b)) (h1 : 0 ≤ a := by omega) (h2 : a < 256 := by omega) (h3 : 0 ≤ b := by omega) (h4 : b < 256 := by omega) : OpV P C (.binOp .or t x y t') ty e L (.int .u8 ((a.toNat ||| b.toNat : Nat) : Int)) := v_or' rfl hx hy h1 h2 h3 h4
theorem v_xorU (hx : ev e x = some (.int .u64 a)) (hy : ev e y = some (.int .u64 b)) (h1 : 0 ≤ a := by omega) (h2 : a < 18446744073709551616 := by omega) (h3 : 0 ≤ b := by omega) (h4 : b < 18446744073709551616 := by omega) : OpV P C (.binOp .xor t x y t') ty e L (.int .u64 ((a.toNat ^^^ b.toNat : Nat) : Int)) := v_xor' rfl hx hy h1 h2 h3 h4
theorem v_xorU32 (hx : ev e x = some (.int .u32 a)) (hy : ev e y = some (.int .u32 b)) (h1 : 0 ≤ a := by omega) (h2 : a < 4294967296 := by omega) (h3 : 0 ≤ b := by omega) (h4 : b < 4294967296 := by omega) : OpV P C (.binOp .xor t x y t') ty e L (.int .u32 ((a.toNat ^^^ b.toNat : Nat) : Int)) := v_xor' rfl hx hy h1 h2 h3 h4
theorem v_xorU8 (hx : ev e x = some (.int .u8 a)) (hy : ev e y = some (.int .u8 b)) (h1 : 0 ≤ a := by omega) (h2 : a < 256 := by omega) (h3 : 0 ≤ b := by omega) (h4 : b < 256 := by omega) : OpV P C (.binOp .xor t x y t') ty e L (.int .u8 ((a.toNat ^^^ b.toNat : Nat) : Int)) := v_xor' rfl hx hy h1 h2 h3 h4
theorem v_andNotU (hx : ev e x = some (.int .u64 a)) (hy : ev e y = some (.int .u64 b)) (h1 : 0 ≤ a := by omega) (h2 : a < 18446744073709551616 := by omega) (h3 : 0 ≤ b := by omega) (h4 : b < 18446744073709551616 := by omega) : OpV P C (.binOp .andNot t x y t') ty e L (.int .u64 ((a.toNat &&& (18446744073709551615 - b.toNat) : Nat) : Int)) := v_andNot' rfl hx hy h1 h2 h3 h4
theorem v_andNotU32 (hx : ev e x = some (.int .u32 a)) (hy : ev e y = some (.int .u32 b)) (h1 : 0 ≤ a := by omega) (h2 : a < 4294967296 := by omega) (h3 : 0 ≤ b := by omega) (h4 : b < 4294967296 := by omega) : OpV P C (.binOp .andNot t x y t') ty e L (.int .u32 ((a.toNat &&& (4294967295 - b.toNat) : Nat) : Int)) := v_andNot' rfl hx hy h1 h2 h3 h4
theorem v_andNotU8 (hx : ev e x = some (.int .u8 a)) (hy : ev e y = some (.int .u8 b)) (h1 : 0 ≤ a := by omega) (h2 : a < 256 := by omega) (h3 : 0 ≤ b := by omega) (h4 : b < 256 := by omega) : OpV P C (.binOp .andNot t x y t') ty e L (.int .u8 ((a.toNat &&& (255 - b.toNat) : Nat) : Int)) := v_andNot' rfl hx hy h1 h2 h3 h4

/-- A shift to the right by what is not below 0. -/
theorem v_shr {k2 : IntKind} (hx : ev e x = some (.int k a)) (hy : ev e y = some (.int k2 b)) (h1 : 0 ≤ a := by omega) (h2 : a < 2 ^ k.bits) (h3 : 0 ≤ b := by omega) : OpV P C (.binOp .shr t x y t') ty e L (.int k ((a.toNat / 2 ^ b.toNat : Nat) : Int)) := fun w tm ds pos after guard dst s a' => by
  have h3' : ¬ b < 0 := by omega
  have e1 : a.fdiv (2 ^ min b.toNat k.bits) = ((a.toNat / 2 ^ b.toNat : Nat) : Int) := by
    have ha : a = (a.toNat : Int) := by omega
    have hlt : a.toNat < 2 ^ k.bits := by
      have : (a.toNat : Int) < ((2 ^ k.bits : Nat) : Int) := by rw [← ha]; exact_mod_cast h2
      exact_mod_cast this
    rw [Int.fdiv_eq_ediv_of_nonneg _ (by exact_mod_cast Nat.zero_le _)]
    conv => lhs; rw [ha]
    rw [show ((2 : Int) ^ min b.toNat k.bits) = ((2 ^ min b.toNat k.bits : Nat) : Int) from by simp, ← Int.natCast_ediv]
    congr 1
    rcases Nat.le_total b.toNat k.bits with hle | hle
    · rw [Nat.min_eq_left hle]
    · rw [Nat.min_eq_right hle, Nat.div_eq_of_lt hlt, Nat.div_eq_of_lt (Nat.lt_of_lt_of_le hlt (Nat.pow_le_pow_right (by omega) hle))]
  simp [execOp, a'.ev hx, a'.ev hy, run_guard_int, binOp, Op.shift, h3', e1]
theorem v_shrU {k2 : IntKind} (hx : ev e x = some (.int .u64 a)) (hy : ev e y = some (.int k2 b)) (h1 : 0 ≤ a := by omega) (h2 : a < 18446744073709551616 := by omega) (h3 : 0 ≤ b := by omega) : OpV P C (.binOp .shr t x y t') ty e L (.int .u64 ((a.toNat / 2 ^ b.toNat : Nat) : Int)) := v_shr hx hy h1 h2 h3
theorem v_shrU32 {k2 : IntKind} (hx : ev e x = some (.int .u32 a)) (hy : ev e y = some (.int k2 b)) (h1 : 0 ≤ a := by omega) (h2 : a < 4294967296 := by omega) (h3 : 0 ≤ b := by omega) : OpV P C (.binOp .shr t x y t') ty e L (.int .u32 ((a.toNat / 2 ^ b.toNat : Nat) : Int)) := v_shr hx hy h1 h2 h3
/-- A shift to the left, of an unsigned number. -/
theorem v_shlU {k2 : IntKind} (hx : ev e x = some (.int k a)) (hy : ev e y = some (.int k2 b)) (hk : k.signed = false) (h3 : 0 ≤ b := by omega) : OpV P C (.binOp .shl t x y t') ty e L (.int k (a * 2 ^ b.toNat % 2 ^ k.bits)) := fun w tm ds pos after guard dst s a' => by
  have h3' : ¬ b < 0 := by omega
  have e1 : k.wrap (a * 2 ^ min b.toNat k.bits) = a * 2 ^ b.toNat % 2 ^ k.bits := by
    simp only [IntKind.wrap, hk, Bool.false_and, Bool.false_eq_true, if_false]
    rcases Nat.le_total b.toNat k.bits with hle | hle
    · rw [Nat.min_eq_left hle]
    · rw [Nat.min_eq_right hle]
      have hd : ∀ m, k.bits ≤ m → a * 2 ^ m % (2 ^ k.bits : Int) = 0 := by
        intro m hm
        apply Int.emod_eq_zero_of_dvd
        have : (2 : Int) ^ k.bits ∣ 2 ^ m := ⟨2 ^ (m - k.bits), by rw [← Int.pow_add]; congr 1; omega⟩
        exact Int.dvd_trans this (Int.dvd_mul_left _ _)
      rw [hd _ (Nat.le_refl _), hd _ hle]
  simp [execOp, a'.ev hx, a'.ev hy, run_guard_int, binOp, Op.shift, h3', e1]
/-- A shift to the left of an int that stays in its bounds. -/
theorem v_shlI {k2 : IntKind} (hx : ev e x = some (.int .i64 a)) (hy : ev e y = some (.int k2 b)) (h3 : 0 ≤ b := by omega) (h4 : b ≤ 64 := by omega) (h5 : -9223372036854775808 ≤ a * 2 ^ b.toNat) (h6 : a * 2 ^ b.toNat ≤ 9223372036854775807) : OpV P C (.binOp .shl t x y t') ty e L (.int .i64 (a * 2 ^ b.toNat)) := fun w tm ds pos after guard dst s a' => by
  have h3' : ¬ b < 0 := by omega
  have hm : min b.toNat IntKind.i64.bits = b.toNat := Nat.min_eq_left (by show b.toNat ≤ 64; omega)
  simp [execOp, a'.ev hx, a'.ev hy, run_guard_int, binOp, Op.shift, h3', hm, wrap_i64 h5 h6]

theorem v_convI {src dst : TypeId} (hd : TyUnd P dst (.int .i64)) {du : TypeDesc} (hs : TyUnd P src du) (hx : ev e x = some (.int k a)) (h1 : -9223372036854775808 ≤ a := by omega) (h2 : a ≤ 9223372036854775807 := by omega) : OpV P C (.convert src dst x) ty e L (.int .i64 a) := fun w tm ds pos after guard dst s a' => by
  simp [execOp, a'.ev hx, convert, hd.run, hs.run, Conv.intToInt, wrap_i64 h1 h2]
/-- Whatever kind it becomes. -/
theorem v_conv {src dst : TypeId} {k2 : IntKind} (hd : TyUnd P dst (.int k2)) {du : TypeDesc} (hs : TyUnd P src du) (hx : ev e x = some (.int k a)) : OpV P C (.convert src dst x) ty e L (.int k2 (k2.wrap a)) := fun w tm ds pos after guard dst s a' => by
  simp [execOp, a'.ev hx, convert, hd.run, hs.run, Conv.intToInt]
theorem v_not {b : Bool} (hx : ev e x = some (.bool b)) : OpV P C (.unOp .not t x) ty e L (.bool !b) := fun w tm ds pos after guard dst s a' => by
  simp [execOp, a'.ev hx, Op.unary]
end ints

end Go.Proofs.YtealmijbkebipaaGreatDoor

namespace Go.Proofs.YtealmijbkebipaaGreatDoor
open Go

/-! ### Slices -/

/-- A value that is a slice. -/
structure SV where
  a : Option Addr
  n : Nat
  c : Nat
abbrev SV.v (x : SV) : Value := .slice x.a x.n x.c
abbrev nilSV : SV := ⟨none, 0, 0⟩

/-- A slice whose cells stay as they are. -/
def roSl (x : SV) (cells : List Value) (size : Nat) : Pe :=
  peEx (fun (p : Nat × Nat × List Value × TypeId × (Nat × Nat)) => cells.length = x.n * size ∧ x.n ≤ x.c ∧ (x.n = 0 ∨ (x.a = some ⟨p.1, p.2.1, none⟩ ∧ (p.2.2.1.drop p.2.1).take (x.n * size) = cells ∧ p.2.1 + x.n * size ≤ p.2.2.1.length)))
    (fun p => if x.n = 0 then [] else [rob p.1 p.2.2.1 p.2.2.2.1 p.2.2.2.2])

/-- A slice whose block is owned, from its beginning on. -/
def osl (x : SV) (cells : List Value) (size : Nat) (T : TypeId) : HP :=
  nf (fun (p : Nat × List Value) => cells.length = x.n * size ∧ x.n ≤ x.c ∧ x.c ≤ 9223372036854775807 ∧ ((x = nilSV ∧ p.2 = []) ∨ (x.a = some ⟨p.1, 0, none⟩ ∧ (cells ++ p.2).length = x.c * size)))
    (fun p => if x.a = none then [] else [blk p.1 (cells ++ p.2) T])

/-! ### Stores, new blocks -/

theorem run_storeCells {P : Program} : ∀ (us : List Value) (i : Nat) (w : World) (b o : Nat) (vs : List Value) (T : TypeId), w.heap[b]? = some (.cells vs.toArray T (0, 0)) → o + i + us.length ≤ vs.length → (∀ u ∈ us, u.oneCell' = true) →
    ∃ w', (storeCells ⟨b, o, none⟩ us i).run P w = .ok () w' ∧ w'.os = w.os ∧ w'.output = w.output ∧ w'.tape = w.tape ∧
      w'.heap[b]? = some (.cells (vs.take (o + i) ++ us ++ vs.drop (o + i + us.length)).toArray T (0, 0)) ∧ ∀ c, c ≠ b → w'.heap[c]? = w.heap[c]?
  | [], i, w, b, o, vs, T, hg, _, _ => ⟨w, by simp [storeCells], rfl, rfl, rfl, by simpa using hg, fun _ _ => rfl⟩
  | u :: us, i, w, b, o, vs, T, hg, hle, hone => by
    simp only [List.length_cons] at hle
    have hlt : o + i < vs.length := by omega
    have hcell : w.cell? ⟨b, o + i, none⟩ = some vs[o + i] := by simp [World.cell?, hg, hlt]
    have hfr : w.frozen? ⟨b, o + i, none⟩ = false := by simp [World.frozen?, hg]
    have hst : (store ((⟨b, o, none⟩ : Addr).add i) u).run P w = .ok () (w.setCell ⟨b, o + i, none⟩ u) := by
      rw [add_lit, run_store P w _ u .plain (hone u (by simp)), hcell]; simp [hfr]
    have hb : b < w.heap.size := (Array.getElem?_eq_some_iff.1 hg).1
    have hg' : (w.setCell ⟨b, o + i, none⟩ u).heap[b]? = some (.cells (vs.set (o + i) u).toArray T (0, 0)) := by
      simp only [World.setCell, Array.getElem?_modify, if_true, hg, Option.map_some]
      simp
    obtain ⟨w', h1, h2, h3, h4, h5, h6⟩ := run_storeCells us (i + 1) _ b o (vs.set (o + i) u) T hg' (by simp; omega) (fun x hx => hone x (by simp [hx]))
    refine ⟨w', ?_, h2, h3, h4, ?_, ?_⟩
    · simp only [storeCells, Sem.run_bind, hst, Result.andThen_ok]; exact h1
    · rw [h5]
      congr 2
      rw [List.take_set, List.drop_set_of_lt (by omega)]
      rw [show o + (i + 1) = (o + i) + 1 from by omega, List.take_succ_eq_append_getElem hlt, List.set_append]
      simp only [List.length_take, Nat.min_eq_left (Nat.le_of_lt hlt), Nat.lt_irrefl, if_false, Nat.sub_self, List.set_cons_zero, List.append_assoc, List.cons_append, List.nil_append, List.length_cons]
      rw [show o + i + 1 + us.length = o + i + (us.length + 1) from by omega]
    · intro c hc
      rw [h6 c hc]
      simp only [World.setCell]
      rw [Array.getElem?_modify]
      simp [Ne.symm hc]

section ops
variable {P : Program} {C : Cx} {e : Env} {L M : List HP} {ty : TypeId} {pos : String} {after : Array Edge} {guard : Option (Nat × Bool)} {dst : Option Tmp} {K : Value → List HP → Prop}

/-- The cells of a value. -/
def cellsL : Value → List Value
  | .agg cs => cs.toList
  | v => [v]
theorem cells_toList (v : Value) : v.cells.toList = cellsL v := by cases v <;> simp [Value.cells, cellsL]

def allOne : List Value → Bool
  | [] => true
  | v :: vs => v.oneCell' && allOne vs
theorem allOne_spec {vs : List Value} (h : allOne vs = true) : ∀ u ∈ vs, u.oneCell' = true := by
  induction vs with
  | nil => intro u hu; cases hu
  | cons v vs ih =>
    simp only [allOne, Bool.and_eq_true] at h
    intro u hu
    cases hu with
    | head => exact h.1
    | tail _ hu => exact ih h.2 u hu

/-- A store: of a value of one cell, or of several. -/
theorem w_store {t b o n : Nat} {x y : Operand} {vs us : List Value} {T : TypeId} {v : Value} (hz : TySize P t n) (hx : ev e x = some (.pointer (some ⟨b, o, none⟩))) (hy : ev e y = some v) (hu : cellsL v = us) (h1 : allOne us = true)
    (hn : Nat.beq us.length n = true) (hle : o + n ≤ vs.length) (ht : Take (blk b vs T) L M) (h : K undef (blk b (vs.take o ++ us ++ vs.drop (o + n)) T :: M)) : OpW P C ⟨dst, .store t x y, ty, pos, after, guard⟩ e L K := by
  intro w tm ds s a'
  have s' := ht.sat s
  have hlen : us.length = n := Nat.eq_of_beq_eq_true hn
  obtain ⟨w', r1, r2, r3, r4, r5, r6⟩ := run_storeCells (P := P) us 0 w b o vs T s'.own_get (by omega) (allOne_spec h1)
  have hsz : v.cells.size = n := by rw [← Array.length_toList, cells_toList, hu, hlen]
  refine SemC.skip (w' := w') ?_ ⟨_, s'.own_set r2 r3 r4 r5 r6, ?_⟩
  · simp [execOp, a'.ev hx, a'.ev hy, Instr.storeAt, Instr.sureAddr, storeVar, hz.run, hsz, cells_toList, hu, r1]
  · simpa [hlen] using h

/-- The same where one cell is stored. -/
theorem w_store1 {t b o : Nat} {x y : Operand} {vs : List Value} {T : TypeId} {v : Value} (hz : TySize P t 1) (hx : ev e x = some (.pointer (some ⟨b, o, none⟩))) (hy : ev e y = some v) (h1 : v.oneCell' = true)
    (hle : Nat.blt o vs.length = true) (ht : Take (blk b vs T) L M) (h : K undef (blk b (vs.set o v) T :: M)) : OpW P C ⟨dst, .store t x y, ty, pos, after, guard⟩ e L K := by
  have hlt : o < vs.length := Nat.le_of_ble_eq_true hle
  have hc : cellsL v = [v] := by cases v <;> simp_all [cellsL, Value.oneCell']
  refine w_store hz hx hy hc (by simp [allOne, h1]) rfl (by omega) ht ?_
  have : vs.take o ++ [v] ++ vs.drop (o + 1) = vs.set o v := by rw [List.set_eq_take_append_cons_drop]; simp [hlt]
  rw [this]; exact h

/-- A new block. -/
theorem w_new {o : Oper} {obj : Obj} {f : Nat → Value} (hr : ∀ w tm ds, Sat C.G w L → Agree C.n e tm → ∃ w', (execOp (Act.eval ⟨tm, ds⟩) o).run P w = .ok (.value (f w.heap.size)) w' ∧ w'.os = w.os ∧ w'.output = w.output ∧ w'.tape = w.tape ∧ w'.heap = w.heap.push obj)
    (h : ∀ b, K (f b) (own b obj :: L)) : OpW P C o e L K := by
  intro w tm ds s a'
  obtain ⟨w', h1, h2, h3, h4, h5⟩ := hr w tm ds s a'
  exact SemC.value h1 ⟨_, s.push h2 h3 h4 h5, h _⟩

theorem w_alloc {t : TypeId} {z : Value} {us : List Value} (hz : TyZero P t z) (hu : cellsL z = us) (h : ∀ b, K (.pointer (some ⟨b, 0, none⟩)) (blk b us t :: L)) : OpW P C ⟨dst, .alloc t, ty, pos, after, guard⟩ e L K := by
  refine w_new (obj := .cells us.toArray t) (f := fun b => .pointer (some ⟨b, 0, none⟩)) (fun w tm ds s a' => ⟨{ w with heap := w.heap.push (.cells us.toArray t) }, ?_, rfl, rfl, rfl, rfl⟩) h
  have hc : z.cells = us.toArray := by rw [← hu, ← cells_toList]
  simp [execOp, Instr.alloc, hz.run, newVar, newRow, hc]

theorem w_box {t : TypeId} {x : Operand} {v : Value} {us : List Value} (hx : ev e x = some v) (hu : cellsL v = us) (h : ∀ b, K (.pointer (some ⟨b, 0, none⟩)) (blk b us t :: L)) : OpW P C ⟨dst, .box t x, ty, pos, after, guard⟩ e L K := by
  refine w_new (obj := .cells us.toArray t) (f := fun b => .pointer (some ⟨b, 0, none⟩)) (fun w tm ds s a' => ⟨{ w with heap := w.heap.push (.cells us.toArray t) }, ?_, rfl, rfl, rfl, rfl⟩) h
  have hc : v.cells = us.toArray := by rw [← hu, ← cells_toList]
  simp [execOp, a'.ev hx, Instr.box, newVar, newRow, hc]

theorem w_makeMap {t : TypeId} (h : ∀ b, K (.map (some b)) (own b (.map #[] 0) :: L)) : OpW P C ⟨dst, .makeMap t none, ty, pos, after, guard⟩ e L K := by
  refine w_new (obj := .map #[] 0) (f := fun b => .map (some b)) (fun w tm ds s a' => ⟨{ w with heap := w.heap.push (.map #[] 0) }, ?_, rfl, rfl, rfl, rfl⟩) h
  simp [execOp, Instr.makeMap]
end ops

/-! ### Slices: places, pieces, new ones -/

section sl
variable {P : Program} {C : Cx} {e : Env} {L M : List HP} {ty : TypeId} {pos : String} {after : Array Edge} {guard : Option (Nat × Bool)} {dst : Option Tmp} {K : Value → List HP → Prop}

theorem v_indexAddr {t el b o n c s : Nat} {x y : Operand} {k : IntKind} {i : Int} (hu : TyUnd P t (.slice el)) (hs : TySize P el s) (hx : ev e x = some (.slice (some ⟨b, o, none⟩) n c)) (hy : ev e y = some (.int k i)) (h1 : 0 ≤ i := by omega) (h2 : i < n := by omega) :
    OpV P C (.indexAddr t x y) ty e L (.pointer (some ⟨b, o + i.toNat * s, none⟩)) := fun w tm ds pos after guard dst st a' => by
  simp [execOp, a'.ev hx, a'.ev hy, Instr.indexAt, asIntOf, hu.run, h1, h2, hs.run, add_lit]
theorem v_indexAddrA {t el b o n s : Nat} {x y : Operand} {k : IntKind} {i : Int} (hu : TyUnd P t (.array n el)) (hs : TySize P el s) (hx : ev e x = some (.pointer (some ⟨b, o, none⟩))) (hy : ev e y = some (.int k i)) (h1 : 0 ≤ i := by omega) (h2 : i < n := by omega) :
    OpV P C (.indexAddr t x y) ty e L (.pointer (some ⟨b, o + i.toNat * s, none⟩)) := fun w tm ds pos after guard dst st a' => by
  simp [execOp, a'.ev hx, a'.ev hy, Instr.indexAt, asIntOf, hu.run, h1, h2, hs.run, add_lit, Instr.sureAddr]
theorem v_len {x : Operand} {t el : TypeId} {a : Option Addr} {n c : Nat} (hu : TyUnd P t (.slice el)) (hx : ev e x = some (.slice a n c)) : OpV P C (.call ⟨.builtin .len, #[x], #[t]⟩) ty e L (.int .i64 n) := fun w tm ds pos after guard dst st a' => by
  simp [execOp, resolve, a'.ev hx, invoke, builtin, Builtin.len_, hu.run, goInt]
theorem v_cap {x : Operand} {t el : TypeId} {a : Option Addr} {n c : Nat} (hu : TyUnd P t (.slice el)) (hx : ev e x = some (.slice a n c)) : OpV P C (.call ⟨.builtin .cap, #[x], #[t]⟩) ty e L (.int .i64 c) := fun w tm ds pos after guard dst st a' => by
  simp [execOp, resolve, a'.ev hx, invoke, builtin, Builtin.cap_, hu.run, goInt]
theorem v_lenS {x : Operand} {t : TypeId} {s : ByteArray} (hu : TyUnd P t .string) (hx : ev e x = some (.string s)) : OpV P C (.call ⟨.builtin .len, #[x], #[t]⟩) ty e L (.int .i64 s.size) := fun w tm ds pos after guard dst st a' => by
  simp [execOp, resolve, a'.ev hx, invoke, builtin, Builtin.len_, hu.run, goInt]

theorem run_sliceBound {P : Program} {k : IntKind} {i : Int} {y : Nat} {code : BoundsCode} (h1 : 0 ≤ i) (h2 : i ≤ y) (w : World) : (Instr.sliceBound (.int k i) y code).run P w = .ok i.toNat w := by
  simp [Instr.sliceBound, asIntOf, h1, h2]

def slOff (o l s c : Nat) : Nat := if c = l then o else o + l * s

/-- x[lo:hi] of a slice that is not nil. -/
theorem v_slice {t el b o n c s : Nat} {x lo hi : Operand} {k1 k2 : IntKind} {l h : Int} (hu : TyUnd P t (.slice el)) (hs : TySize P el s) (hx : ev e x = some (.slice (some ⟨b, o, none⟩) n c)) (hlo : ev e lo = some (.int k1 l)) (hhi : ev e hi = some (.int k2 h))
    (h1 : 0 ≤ l := by omega) (h2 : l ≤ h := by omega) (h3 : h ≤ c := by omega) : OpV P C (.slice t x (some lo) (some hi) none) ty e L (.slice (some ⟨b, slOff o l.toNat s c, none⟩) (h.toNat - l.toNat) (c - l.toNat)) := fun w tm ds pos after guard dst st a' => by
  have r1 := fun code => run_sliceBound (P := P) (k := k2) (i := h) (y := c) (code := code) (by omega) h3 w
  have r2 := fun code => run_sliceBound (P := P) (k := k1) (i := l) (y := h.toNat) (code := code) h1 (by omega) w
  simp [execOp, a'.ev hx, a'.ev hlo, a'.ev hhi, Instr.sliceAt, hu.run, Instr.slice, Instr.sliceBounds, r1, r2, hs.run, add_lit, slOff]
  split <;> rfl
theorem v_sliceLo {t el b o n c s : Nat} {x lo : Operand} {k1 : IntKind} {l : Int} (hu : TyUnd P t (.slice el)) (hs : TySize P el s) (hx : ev e x = some (.slice (some ⟨b, o, none⟩) n c)) (hlo : ev e lo = some (.int k1 l))
    (h1 : 0 ≤ l := by omega) (h2 : l ≤ n := by omega) : OpV P C (.slice t x (some lo) none none) ty e L (.slice (some ⟨b, slOff o l.toNat s c, none⟩) (n - l.toNat) (c - l.toNat)) := fun w tm ds pos after guard dst st a' => by
  have r2 := fun code => run_sliceBound (P := P) (k := k1) (i := l) (y := n) (code := code) h1 h2 w
  simp [execOp, a'.ev hx, a'.ev hlo, Instr.sliceAt, hu.run, Instr.slice, Instr.sliceBounds, r2, hs.run, add_lit, slOff]
  split <;> rfl
theorem v_sliceHi {t el b o n c s : Nat} {x hi : Operand} {k2 : IntKind} {h : Int} (hu : TyUnd P t (.slice el)) (hs : TySize P el s) (hx : ev e x = some (.slice (some ⟨b, o, none⟩) n c)) (hhi : ev e hi = some (.int k2 h))
    (h1 : 0 ≤ h := by omega) (h3 : h ≤ c := by omega) : OpV P C (.slice t x none (some hi) none) ty e L (.slice (some ⟨b, o, none⟩) h.toNat c) := fun w tm ds pos after guard dst st a' => by
  have r1 := fun code => run_sliceBound (P := P) (k := k2) (i := h) (y := c) (code := code) h1 h3 w
  simp [execOp, a'.ev hx, a'.ev hhi, Instr.sliceAt, hu.run, Instr.slice, Instr.sliceBounds, r1, hs.run, add_lit]

/-- A new row of cells: 'make'. -/
theorem w_makeSlice {t el s bytes : Nat} {x y : Operand} {k1 k2 : IntKind} {n c : Int} {z : Value} (hu : TyUnd P t (.slice el)) (hb : (P.info? el).map (·.bytes) = some bytes) (hs : TySize P el s) (hz : TyZero P el z) (hzs : (cellsL z).length = s) (hx : ev e x = some (.int k1 n)) (hy : ev e y = some (.int k2 c))
    (h1 : 0 ≤ n) (h2 : n ≤ c) (h3 : bytes * c ≤ 281474976710656) (h4 : c ≤ 9223372036854775807) (h : ∀ b, K (.slice (some ⟨b, 0, none⟩) n.toNat c.toNat) (blk b (List.replicate c.toNat (cellsL z)).flatten el :: L)) :
    OpW P C ⟨dst, .makeSlice t x y, ty, pos, after, guard⟩ e L K := by
  refine w_new (obj := .cells (List.replicate c.toNat (cellsL z)).flatten.toArray el) (f := fun b => .slice (some ⟨b, 0, none⟩) n.toNat c.toNat) (fun w tm ds st a' => ?_) h
  have w1 : IntKind.i64.wrap n = n := wrap_i64 (by omega) (by omega)
  have w2 : IntKind.i64.wrap c = c := wrap_i64 (by omega) h4
  obtain ⟨i, hi, hby⟩ : ∃ i, P.info? el = some i ∧ i.bytes = bytes := by
    cases hi : P.info? el with
    | none => rw [hi] at hb; cases hb
    | some i => rw [hi] at hb; exact ⟨i, rfl, by simpa using hb⟩
  have g1 : ¬ c < 0 := by omega
  have g2 : ¬ n < 0 := by omega
  have g3 : ¬ c < n := by omega
  have g4 : ¬ (281474976710656 < (bytes : Int) * c) := by omega
  have hzc : z.cells.size = s := by rw [← Array.length_toList, cells_toList, hzs]
  have hcells : (Array.range (c.toNat * s)).map ((if c.toNat * s = 0 then #[] else z.cells)[· % (if c.toNat * s = 0 then #[] else z.cells).size]!) = (List.replicate c.toNat (cellsL z)).flatten.toArray := by
    apply Array.ext
    · simp [List.length_flatten, hzs]
    · intro j h1 h2
      simp only [Array.size_map, Array.size_range] at h1
      have hne : ¬ c.toNat * s = 0 := by omega
      simp only [hne, if_false, Array.getElem_map, Array.getElem_range, hzc, List.getElem_toArray]
      have hsp : 0 < s := by rcases Nat.eq_zero_or_pos s with h0 | h0; (subst h0; simp at hne); exact h0
      have hmod : j % s < z.cells.size := by rw [hzc]; exact Nat.mod_lt _ hsp
      rw [getElem!_pos z.cells (j % s) hmod]
      have hl : ∀ (m : Nat) (l : List Value) (j : Nat) (hj : j < (List.replicate m l).flatten.length) (hm : j % l.length < l.length), (List.replicate m l).flatten[j] = l[j % l.length] := by
        intro m l
        induction m with
        | zero => intro j hj; simp at hj
        | succ m ih =>
          intro j hj hm
          simp only [List.replicate_succ, List.flatten_cons] at hj ⊢
          by_cases hlt : j < l.length
          · rw [List.getElem_append_left hlt]; congr 1; exact (Nat.mod_eq_of_lt hlt).symm
          · have hge : l.length ≤ j := by omega
            rw [List.getElem_append_right hge]
            have e1 : (j - l.length) % l.length = j % l.length := (Nat.mod_eq_sub_mod hge).symm
            rw [ih (j - l.length) (by simp only [List.length_append] at hj; omega) (by rw [e1]; exact hm)]
            congr 1
      rw [hl c.toNat (cellsL z) j (by simpa using h2) (by rw [hzs]; exact Nat.mod_lt _ hsp)]
      have : z.cells = (cellsL z).toArray := by rw [← cells_toList]
      simp only [this, List.getElem_toArray, hzs]
  refine ⟨{ w with heap := w.heap.push (.cells (List.replicate c.toNat (cellsL z)).flatten.toArray el) }, ?_, rfl, rfl, rfl, rfl⟩
  by_cases h0 : c.toNat * s = 0
  · simp only [h0, if_true] at hcells
    simp only [execOp, a'.ev hx, a'.ev hy, Instr.makeSlice, bind_assoc, pure_bind, Sem.run_bind, hu.run, Result.andThen_ok, asInt, asIntOf, Sem.run_pure, typeInfo, run_program, hi, hby, w1, w2]
    simp [g1, g2, g3, g4, hs.run, h0, newRow]
    rw [← hcells]
    simp
  · simp only [h0, if_false] at hcells
    simp only [execOp, a'.ev hx, a'.ev hy, Instr.makeSlice, bind_assoc, pure_bind, Sem.run_bind, hu.run, Result.andThen_ok, asInt, asIntOf, Sem.run_pure, typeInfo, run_program, hi, hby, w1, w2]
    simp [g1, g2, g3, g4, hs.run, h0, hz.run, newRow]
    rw [hcells]
end sl

end Go.Proofs.YtealmijbkebipaaGreatDoor
