/- The last of the rules. -/
import Derived.Test.YtealmijbkebipaaGreatDoorSwAD
namespace Go.Proofs.YtealmijbkebipaaGreatDoor
open Go

section
variable {P : Program} {C : Cx} {e : Env} {L M : List HP} {ty t t' : TypeId} {x y : Operand} {pos : String} {after : Array Edge} {guard : Option (Nat × Bool)} {dst : Option Tmp} {K : Value → List HP → Prop}

theorem v_pickB {c : Operand} {b : Bool} {v u : Value} (hc : ev e c = some (.bool b)) (hx : ev e x = some v) (hy : ev e y = some u) : OpV P C (.pick c x y) ty e L (bif b then v else u) := fun w tm ds pos after guard dst s a' => by
  cases b <;> simp [execOp, a'.ev hc, asBool, a'.ev hx, a'.ev hy]

/-- What a bool says, either way. -/
class BoolP (b : Bool) (p q : outParam Prop) : Prop where
  yes : b = true → p
  no : b = false → q
instance (priority := 10) BoolP.var {b : Bool} : BoolP b (b = true) (b = false) := ⟨id, id⟩
instance BoolP.dec {p : Prop} [Decidable p] : BoolP (decide p) p (¬ p) := ⟨of_decide_eq_true, of_decide_eq_false⟩
instance BoolP.not {b : Bool} {p q : Prop} [h : BoolP b p q] : BoolP (!b) q p := ⟨fun hb => h.no (by simpa using hb), fun hb => h.yes (by simpa using hb)⟩
instance BoolP.and {a b : Bool} {p q p' q' : Prop} [h : BoolP a p q] [h' : BoolP b p' q'] : BoolP (a && b) (p ∧ p') (q ∨ q') := ⟨fun hb => by rw [Bool.and_eq_true] at hb; exact ⟨h.yes hb.1, h'.yes hb.2⟩, fun hb => by
  cases a
  · exact .inl (h.no rfl)
  · exact .inr (h'.no (by simpa using hb))⟩
instance BoolP.or {a b : Bool} {p q p' q' : Prop} [h : BoolP a p q] [h' : BoolP b p' q'] : BoolP (a || b) (p ∨ p') (q ∧ q') := ⟨(fun hb => by
  cases a
  · exact .inr (h'.yes (by simpa using hb))
  · exact .inl (h.yes rfl)), fun hb => by rw [Bool.or_eq_false_iff] at hb; exact ⟨h.no hb.1, h'.no hb.2⟩⟩

theorem wk_if {ds : List Deferred} {k : List Item} {c : Operand} {x y : Code} {b : Bool} {p q : Prop} (hc : ev e c = some (.bool b)) [h : BoolP b p q] (h1 : p → Wk P C ds (.code x :: k) e L) (h2 : q → Wk P C ds (.code y :: k) e L) :
    Wk P C ds (.code (.cond c x y) :: k) e L := wk_cond hc (fun hb => h1 (h.yes hb)) (fun hb => h2 (h.no hb))
theorem wo_if {ds : List Deferred} {k : List Item} {all : Array Oper} {i t : Nat} {b : Bool} {os : List Oper} {p q : Prop} (ht : lk e t = some (.bool b)) [h : BoolP b p q]
    (h1 : p → Wo P C ds all i os k ((t, .bool true) :: e) L) (h2 : q → Wo P C ds all i os k ((t, .bool false) :: e) L) : Wo P C ds all i os k e L := wo_split ht (fun hb => h1 (h.yes hb)) (fun hb => h2 (h.no hb))

theorem wd_if {ds : List Deferred} {k : List Item} {all : Array Oper} {W : Wat} {n pend t : Nat} {b : Bool} {p q : Prop} (ht : lk e t = some (.bool b)) [h : BoolP b p q]
    (h1 : p → Wd P C ds all W n pend k ((t, .bool true) :: e) L) (h2 : q → Wd P C ds all W n pend k ((t, .bool false) :: e) L) : Wd P C ds all W n pend k e L := wd_split ht (fun hb => h1 (h.yes hb)) (fun hb => h2 (h.no hb))

theorem ent_nf {α : Type} {p : α → Prop} {l : α → List HP} {L' : List HP} (a : α) (hp : p a) (h : Ent L' M) (t : TakeL (l a) L L' := by repeat constructor) : Ent L (nf p l :: M) := (Ent.close a hp t).trans (Ent.cons _ h)
theorem ent_take {p : HP} {L' : List HP} (h : Ent L' M) (t : Take p L L' := by repeat constructor) : Ent L (p :: M) := (Ent.take t).trans (Ent.cons _ h)
theorem ent_tail (t : Tail L M := by repeat constructor) : Ent L M := t.ent
theorem v_un_negU {a : Int} (hx : ev e x = some (.int .u64 a)) : OpV P C (.unOp .neg t x) ty e L (.int .u64 ((0 - a) % 18446744073709551616)) := fun w tm ds pos after guard dst s a' => by
  simp [execOp, a'.ev hx, Op.unary, Op.intArith, wrap_u64]
theorem v_un_negI {a : Int} (hx : ev e x = some (.int .i64 a)) (h1 : -9223372036854775807 ≤ a := by omega) (h2 : a ≤ 9223372036854775807 := by omega) : OpV P C (.unOp .neg t x) ty e L (.int .i64 (0 - a)) := fun w tm ds pos after guard dst s a' => by
  have : IntKind.i64.wrap (0 - a) = 0 - a := wrap_i64 (by omega) (by omega)
  simp only [execOp, a'.ev hx, Op.unary, Op.intArith, this, pure_bind, Sem.run_pure]
theorem v_un_xor' {k : IntKind} {a : Int} (hk : k.signed = false) (hx : ev e x = some (.int k a)) (h1 : 0 ≤ a) (h2 : a < 2 ^ k.bits) : OpV P C (.unOp .xor t x) ty e L (.int k (((2 ^ k.bits - 1) ^^^ a.toNat : Nat) : Int)) := fun w tm ds pos after guard dst s a' => by
  have hp : (0 : Int) < 2 ^ k.bits := Int.pow_pos (by decide)
  have hm : k.max = 2 ^ k.bits - 1 := by simp [IntKind.max, hk]
  have e1 := ofInt_toNat h1 h2
  have e2 : (BitVec.ofInt k.bits k.max).toNat = 2 ^ k.bits - 1 := by
    rw [hm, ofInt_toNat (by omega) (by omega)]
    have : ((2 : Int) ^ k.bits) = ((2 ^ k.bits : Nat) : Int) := by simp
    omega
  have hlt : (2 ^ k.bits - 1) ^^^ a.toNat < 2 ^ k.bits := by rw [← e1, ← e2, ← BitVec.toNat_xor]; exact BitVec.isLt _
  have hb : (Op.intBits .xor k k.max a).run P w = .ok (.int k (((2 ^ k.bits - 1) ^^^ a.toNat : Nat) : Int)) w := by
    simp only [Op.intBits, BitVec.toNat_xor, e1, e2, wrap_nat_lt hk hlt, Sem.run_pure]
  simp only [execOp, a'.ev hx, Op.unary, hk, Bool.false_eq_true, if_false, Sem.run_bind, hb, Result.andThen_ok, Sem.run_pure]
theorem v_un_xorU {a : Int} (hx : ev e x = some (.int .u64 a)) (h1 : 0 ≤ a := by omega) (h2 : a < 18446744073709551616 := by omega) : OpV P C (.unOp .xor t x) ty e L (.int .u64 ((18446744073709551615 ^^^ a.toNat : Nat) : Int)) := v_un_xor' rfl hx h1 h2
theorem v_un_xorU32 {a : Int} (hx : ev e x = some (.int .u32 a)) (h1 : 0 ≤ a := by omega) (h2 : a < 4294967296 := by omega) : OpV P C (.unOp .xor t x) ty e L (.int .u32 ((4294967295 ^^^ a.toNat : Nat) : Int)) := v_un_xor' rfl hx h1 h2

theorem v_andUN {a b : Nat} (hx : ev e x = some (.int .u64 (a : Int))) (hy : ev e y = some (.int .u64 (b : Int))) (ha : a < 18446744073709551616 := by omega) (hb : b < 18446744073709551616 := by omega) : OpV P C (.binOp .and t x y t') ty e L (.int .u64 ((a &&& b : Nat) : Int)) := v_andU hx hy (Int.natCast_nonneg _) (Int.ofNat_lt.2 ha) (Int.natCast_nonneg _) (Int.ofNat_lt.2 hb)
theorem v_orUN {a b : Nat} (hx : ev e x = some (.int .u64 (a : Int))) (hy : ev e y = some (.int .u64 (b : Int))) (ha : a < 18446744073709551616 := by omega) (hb : b < 18446744073709551616 := by omega) : OpV P C (.binOp .or t x y t') ty e L (.int .u64 ((a ||| b : Nat) : Int)) := v_orU hx hy (Int.natCast_nonneg _) (Int.ofNat_lt.2 ha) (Int.natCast_nonneg _) (Int.ofNat_lt.2 hb)
theorem v_xorUN {a b : Nat} (hx : ev e x = some (.int .u64 (a : Int))) (hy : ev e y = some (.int .u64 (b : Int))) (ha : a < 18446744073709551616 := by omega) (hb : b < 18446744073709551616 := by omega) : OpV P C (.binOp .xor t x y t') ty e L (.int .u64 ((a ^^^ b : Nat) : Int)) := v_xorU hx hy (Int.natCast_nonneg _) (Int.ofNat_lt.2 ha) (Int.natCast_nonneg _) (Int.ofNat_lt.2 hb)
theorem v_andNotUN {a b : Nat} (hx : ev e x = some (.int .u64 (a : Int))) (hy : ev e y = some (.int .u64 (b : Int))) (ha : a < 18446744073709551616 := by omega) (hb : b < 18446744073709551616 := by omega) : OpV P C (.binOp .andNot t x y t') ty e L (.int .u64 ((a &&& (18446744073709551615 - b) : Nat) : Int)) := v_andNotU hx hy (Int.natCast_nonneg _) (Int.ofNat_lt.2 ha) (Int.natCast_nonneg _) (Int.ofNat_lt.2 hb)
theorem v_shrUN {a b : Nat} {k2 : IntKind} (hx : ev e x = some (.int .u64 (a : Int))) (hy : ev e y = some (.int k2 (b : Int))) (ha : a < 18446744073709551616 := by omega) : OpV P C (.binOp .shr t x y t') ty e L (.int .u64 ((a / 2 ^ b : Nat) : Int)) := v_shr hx hy (Int.natCast_nonneg _) (Int.ofNat_lt.2 ha) (Int.natCast_nonneg _)
theorem v_shlUN {a b : Nat} {k2 : IntKind} (hx : ev e x = some (.int .u64 (a : Int))) (hy : ev e y = some (.int k2 (b : Int))) : OpV P C (.binOp .shl t x y t') ty e L (.int .u64 ((a * 2 ^ b % 18446744073709551616 : Nat) : Int)) := by
  have h := v_shlU (C := C) (L := L) (ty := ty) (t := t) (t' := t') (P := P) hx hy rfl (Int.natCast_nonneg _)
  have e1 : ((a : Int) * 2 ^ ((b : Int)).toNat % 2 ^ (IntKind.u64).bits) = ((a * 2 ^ b % 18446744073709551616 : Nat) : Int) := by simp [IntKind.bits]
  rw [e1] at h; exact h
theorem v_eqlUN {a b : Nat} {k : IntKind} (hx : ev e x = some (.int k (a : Int))) (hy : ev e y = some (.int k (b : Int))) : OpV P C (.binOp .eql t x y t') ty e L (.bool (decide (a = b))) := by
  have h := v_eql (C := C) (L := L) (ty := ty) (t := t) (t' := t') (P := P) hx hy
  have e1 : decide ((a : Int) = (b : Int)) = decide (a = b) := decide_eq_decide.2 (by omega)
  rw [e1] at h; exact h
theorem v_neqUN {a b : Nat} {k : IntKind} (hx : ev e x = some (.int k (a : Int))) (hy : ev e y = some (.int k (b : Int))) : OpV P C (.binOp .neq t x y t') ty e L (.bool (!decide (a = b))) := by
  have h := v_neq (C := C) (L := L) (ty := ty) (t := t) (t' := t') (P := P) hx hy
  have e1 : decide ((a : Int) = (b : Int)) = decide (a = b) := decide_eq_decide.2 (by omega)
  rw [e1] at h; exact h
theorem v_addUN {a b : Nat} (hx : ev e x = some (.int .u64 (a : Int))) (hy : ev e y = some (.int .u64 (b : Int))) : OpV P C (.binOp .add t x y t') ty e L (.int .u64 (((a + b) % 18446744073709551616 : Nat) : Int)) := v_bin hx hy fun w => by simp [binOp, Op.intArith, wrap_u64]
theorem v_mulUN {a b : Nat} (hx : ev e x = some (.int .u64 (a : Int))) (hy : ev e y = some (.int .u64 (b : Int))) : OpV P C (.binOp .mul t x y t') ty e L (.int .u64 (((a * b) % 18446744073709551616 : Nat) : Int)) := v_bin hx hy fun w => by simp [binOp, Op.intArith, wrap_u64]
theorem v_subUN {a b : Nat} (hx : ev e x = some (.int .u64 (a : Int))) (hy : ev e y = some (.int .u64 (b : Int))) (h : b ≤ a := by omega) (ha : a < 18446744073709551616 := by omega) : OpV P C (.binOp .sub t x y t') ty e L (.int .u64 ((a - b : Nat) : Int)) := v_bin hx hy fun w => by
  have e1 : ((a : Int) - b) % 18446744073709551616 = ((a - b : Nat) : Int) := by omega
  simp only [binOp, ne_eq, not_true_eq_false, if_false, Op.intArith, wrap_u64, e1, Sem.run_pure]
theorem v_andU32N {a b : Nat} (hx : ev e x = some (.int .u32 (a : Int))) (hy : ev e y = some (.int .u32 (b : Int))) (ha : a < 4294967296 := by omega) (hb : b < 4294967296 := by omega) : OpV P C (.binOp .and t x y t') ty e L (.int .u32 ((a &&& b : Nat) : Int)) := v_andU32 hx hy (Int.natCast_nonneg _) (Int.ofNat_lt.2 ha) (Int.natCast_nonneg _) (Int.ofNat_lt.2 hb)
theorem v_orU32N {a b : Nat} (hx : ev e x = some (.int .u32 (a : Int))) (hy : ev e y = some (.int .u32 (b : Int))) (ha : a < 4294967296 := by omega) (hb : b < 4294967296 := by omega) : OpV P C (.binOp .or t x y t') ty e L (.int .u32 ((a ||| b : Nat) : Int)) := v_orU32 hx hy (Int.natCast_nonneg _) (Int.ofNat_lt.2 ha) (Int.natCast_nonneg _) (Int.ofNat_lt.2 hb)
theorem v_xorU32N {a b : Nat} (hx : ev e x = some (.int .u32 (a : Int))) (hy : ev e y = some (.int .u32 (b : Int))) (ha : a < 4294967296 := by omega) (hb : b < 4294967296 := by omega) : OpV P C (.binOp .xor t x y t') ty e L (.int .u32 ((a ^^^ b : Nat) : Int)) := v_xorU32 hx hy (Int.natCast_nonneg _) (Int.ofNat_lt.2 ha) (Int.natCast_nonneg _) (Int.ofNat_lt.2 hb)
theorem v_andNotU32N {a b : Nat} (hx : ev e x = some (.int .u32 (a : Int))) (hy : ev e y = some (.int .u32 (b : Int))) (ha : a < 4294967296 := by omega) (hb : b < 4294967296 := by omega) : OpV P C (.binOp .andNot t x y t') ty e L (.int .u32 ((a &&& (4294967295 - b) : Nat) : Int)) := v_andNotU32 hx hy (Int.natCast_nonneg _) (Int.ofNat_lt.2 ha) (Int.natCast_nonneg _) (Int.ofNat_lt.2 hb)
theorem v_shrU32N {a b : Nat} {k2 : IntKind} (hx : ev e x = some (.int .u32 (a : Int))) (hy : ev e y = some (.int k2 (b : Int))) (ha : a < 4294967296 := by omega) : OpV P C (.binOp .shr t x y t') ty e L (.int .u32 ((a / 2 ^ b : Nat) : Int)) := v_shr hx hy (Int.natCast_nonneg _) (Int.ofNat_lt.2 ha) (Int.natCast_nonneg _)
theorem v_shlU32N {a b : Nat} {k2 : IntKind} (hx : ev e x = some (.int .u32 (a : Int))) (hy : ev e y = some (.int k2 (b : Int))) : OpV P C (.binOp .shl t x y t') ty e L (.int .u32 ((a * 2 ^ b % 4294967296 : Nat) : Int)) := by
  have h := v_shlU (C := C) (L := L) (ty := ty) (t := t) (t' := t') (P := P) hx hy rfl (Int.natCast_nonneg _)
  have e1 : ((a : Int) * 2 ^ ((b : Int)).toNat % 2 ^ (IntKind.u32).bits) = ((a * 2 ^ b % 4294967296 : Nat) : Int) := by simp [IntKind.bits]
  rw [e1] at h; exact h
theorem v_eqlU32N {a b : Nat} {k : IntKind} (hx : ev e x = some (.int k (a : Int))) (hy : ev e y = some (.int k (b : Int))) : OpV P C (.binOp .eql t x y t') ty e L (.bool (decide (a = b))) := by
  have h := v_eql (C := C) (L := L) (ty := ty) (t := t) (t' := t') (P := P) hx hy
  have e1 : decide ((a : Int) = (b : Int)) = decide (a = b) := decide_eq_decide.2 (by omega)
  rw [e1] at h; exact h
theorem v_neqU32N {a b : Nat} {k : IntKind} (hx : ev e x = some (.int k (a : Int))) (hy : ev e y = some (.int k (b : Int))) : OpV P C (.binOp .neq t x y t') ty e L (.bool (!decide (a = b))) := by
  have h := v_neq (C := C) (L := L) (ty := ty) (t := t) (t' := t') (P := P) hx hy
  have e1 : decide ((a : Int) = (b : Int)) = decide (a = b) := decide_eq_decide.2 (by omega)
  rw [e1] at h; exact h
theorem v_addU32N {a b : Nat} (hx : ev e x = some (.int .u32 (a : Int))) (hy : ev e y = some (.int .u32 (b : Int))) : OpV P C (.binOp .add t x y t') ty e L (.int .u32 (((a + b) % 4294967296 : Nat) : Int)) := v_bin hx hy fun w => by simp [binOp, Op.intArith, wrap_u32]
theorem v_mulU32N {a b : Nat} (hx : ev e x = some (.int .u32 (a : Int))) (hy : ev e y = some (.int .u32 (b : Int))) : OpV P C (.binOp .mul t x y t') ty e L (.int .u32 (((a * b) % 4294967296 : Nat) : Int)) := v_bin hx hy fun w => by simp [binOp, Op.intArith, wrap_u32]
theorem v_subU32N {a b : Nat} (hx : ev e x = some (.int .u32 (a : Int))) (hy : ev e y = some (.int .u32 (b : Int))) (h : b ≤ a := by omega) (ha : a < 4294967296 := by omega) : OpV P C (.binOp .sub t x y t') ty e L (.int .u32 ((a - b : Nat) : Int)) := v_bin hx hy fun w => by
  have e1 : ((a : Int) - b) % 4294967296 = ((a - b : Nat) : Int) := by omega
  simp only [binOp, ne_eq, not_true_eq_false, if_false, Op.intArith, wrap_u32, e1, Sem.run_pure]
theorem v_andU8N {a b : Nat} (hx : ev e x = some (.int .u8 (a : Int))) (hy : ev e y = some (.int .u8 (b : Int))) (ha : a < 256 := by omega) (hb : b < 256 := by omega) : OpV P C (.binOp .and t x y t') ty e L (.int .u8 ((a &&& b : Nat) : Int)) := v_andU8 hx hy (Int.natCast_nonneg _) (Int.ofNat_lt.2 ha) (Int.natCast_nonneg _) (Int.ofNat_lt.2 hb)
theorem v_orU8N {a b : Nat} (hx : ev e x = some (.int .u8 (a : Int))) (hy : ev e y = some (.int .u8 (b : Int))) (ha : a < 256 := by omega) (hb : b < 256 := by omega) : OpV P C (.binOp .or t x y t') ty e L (.int .u8 ((a ||| b : Nat) : Int)) := v_orU8 hx hy (Int.natCast_nonneg _) (Int.ofNat_lt.2 ha) (Int.natCast_nonneg _) (Int.ofNat_lt.2 hb)
theorem v_xorU8N {a b : Nat} (hx : ev e x = some (.int .u8 (a : Int))) (hy : ev e y = some (.int .u8 (b : Int))) (ha : a < 256 := by omega) (hb : b < 256 := by omega) : OpV P C (.binOp .xor t x y t') ty e L (.int .u8 ((a ^^^ b : Nat) : Int)) := v_xorU8 hx hy (Int.natCast_nonneg _) (Int.ofNat_lt.2 ha) (Int.natCast_nonneg _) (Int.ofNat_lt.2 hb)
theorem v_andNotU8N {a b : Nat} (hx : ev e x = some (.int .u8 (a : Int))) (hy : ev e y = some (.int .u8 (b : Int))) (ha : a < 256 := by omega) (hb : b < 256 := by omega) : OpV P C (.binOp .andNot t x y t') ty e L (.int .u8 ((a &&& (255 - b) : Nat) : Int)) := v_andNotU8 hx hy (Int.natCast_nonneg _) (Int.ofNat_lt.2 ha) (Int.natCast_nonneg _) (Int.ofNat_lt.2 hb)
theorem v_shrU8N {a b : Nat} {k2 : IntKind} (hx : ev e x = some (.int .u8 (a : Int))) (hy : ev e y = some (.int k2 (b : Int))) (ha : a < 256 := by omega) : OpV P C (.binOp .shr t x y t') ty e L (.int .u8 ((a / 2 ^ b : Nat) : Int)) := v_shr hx hy (Int.natCast_nonneg _) (Int.ofNat_lt.2 ha) (Int.natCast_nonneg _)
theorem v_shlU8N {a b : Nat} {k2 : IntKind} (hx : ev e x = some (.int .u8 (a : Int))) (hy : ev e y = some (.int k2 (b : Int))) : OpV P C (.binOp .shl t x y t') ty e L (.int .u8 ((a * 2 ^ b % 256 : Nat) : Int)) := by
  have h := v_shlU (C := C) (L := L) (ty := ty) (t := t) (t' := t') (P := P) hx hy rfl (Int.natCast_nonneg _)
  have e1 : ((a : Int) * 2 ^ ((b : Int)).toNat % 2 ^ (IntKind.u8).bits) = ((a * 2 ^ b % 256 : Nat) : Int) := by simp [IntKind.bits]
  rw [e1] at h; exact h
theorem v_eqlU8N {a b : Nat} {k : IntKind} (hx : ev e x = some (.int k (a : Int))) (hy : ev e y = some (.int k (b : Int))) : OpV P C (.binOp .eql t x y t') ty e L (.bool (decide (a = b))) := by
  have h := v_eql (C := C) (L := L) (ty := ty) (t := t) (t' := t') (P := P) hx hy
  have e1 : decide ((a : Int) = (b : Int)) = decide (a = b) := decide_eq_decide.2 (by omega)
  rw [e1] at h; exact h
theorem v_neqU8N {a b : Nat} {k : IntKind} (hx : ev e x = some (.int k (a : Int))) (hy : ev e y = some (.int k (b : Int))) : OpV P C (.binOp .neq t x y t') ty e L (.bool (!decide (a = b))) := by
  have h := v_neq (C := C) (L := L) (ty := ty) (t := t) (t' := t') (P := P) hx hy
  have e1 : decide ((a : Int) = (b : Int)) = decide (a = b) := decide_eq_decide.2 (by omega)
  rw [e1] at h; exact h
theorem v_addU8N {a b : Nat} (hx : ev e x = some (.int .u8 (a : Int))) (hy : ev e y = some (.int .u8 (b : Int))) : OpV P C (.binOp .add t x y t') ty e L (.int .u8 (((a + b) % 256 : Nat) : Int)) := v_bin hx hy fun w => by simp [binOp, Op.intArith, wrap_u8]
theorem v_mulU8N {a b : Nat} (hx : ev e x = some (.int .u8 (a : Int))) (hy : ev e y = some (.int .u8 (b : Int))) : OpV P C (.binOp .mul t x y t') ty e L (.int .u8 (((a * b) % 256 : Nat) : Int)) := v_bin hx hy fun w => by simp [binOp, Op.intArith, wrap_u8]
theorem v_subU8N {a b : Nat} (hx : ev e x = some (.int .u8 (a : Int))) (hy : ev e y = some (.int .u8 (b : Int))) (h : b ≤ a := by omega) (ha : a < 256 := by omega) : OpV P C (.binOp .sub t x y t') ty e L (.int .u8 ((a - b : Nat) : Int)) := v_bin hx hy fun w => by
  have e1 : ((a : Int) - b) % 256 = ((a - b : Nat) : Int) := by omega
  simp only [binOp, ne_eq, not_true_eq_false, if_false, Op.intArith, wrap_u8, e1, Sem.run_pure]
theorem v_un_xorUN {a : Nat} (hx : ev e x = some (.int .u64 (a : Int))) (h : a < 18446744073709551616 := by omega) : OpV P C (.unOp .xor t x) ty e L (.int .u64 ((18446744073709551615 ^^^ a : Nat) : Int)) := v_un_xorU hx (Int.natCast_nonneg _) (Int.ofNat_lt.2 h)
theorem v_un_xorU32N {a : Nat} (hx : ev e x = some (.int .u32 (a : Int))) (h : a < 4294967296 := by omega) : OpV P C (.unOp .xor t x) ty e L (.int .u32 ((4294967295 ^^^ a : Nat) : Int)) := v_un_xorU32 hx (Int.natCast_nonneg _) (Int.ofNat_lt.2 h)
theorem v_un_negUN {a : Nat} (hx : ev e x = some (.int .u64 (a : Int))) (h : a < 18446744073709551616 := by omega) : OpV P C (.unOp .neg t x) ty e L (.int .u64 (((18446744073709551616 - a) % 18446744073709551616 : Nat) : Int)) := by
  have h1 := v_un_negU (C := C) (L := L) (ty := ty) (t := t) (P := P) hx
  have e1 : (0 - (a : Int)) % 18446744073709551616 = (((18446744073709551616 - a) % 18446744073709551616 : Nat) : Int) := by omega
  rw [e1] at h1; exact h1
/-- A number that is not below 0, as another kind. -/
theorem v_convN {src dst : TypeId} {k k2 : IntKind} {a m : Nat} (hd : TyUnd P dst (.int k2)) {du : TypeDesc} (hs : TyUnd P src du) (hx : ev e x = some (.int k (a : Int))) (hw : k2.wrap (a : Int) = (m : Int)) : OpV P C (.convert src dst x) ty e L (.int k2 (m : Int)) := by
  have h := v_conv (C := C) (L := L) (ty := ty) (P := P) hd hs hx
  rw [hw] at h; exact h
theorem wrapN_u64 {a : Nat} (h : a < 18446744073709551616) : IntKind.u64.wrap (a : Int) = (a : Int) := by rw [wrap_u64]; omega
theorem wrapN_u32 {a : Nat} (h : a < 4294967296) : IntKind.u32.wrap (a : Int) = (a : Int) := by rw [wrap_u32]; omega
theorem wrapN_u8 {a : Nat} : IntKind.u8.wrap (a : Int) = ((a % 256 : Nat) : Int) := by rw [wrap_u8]; omega
theorem wrapN_i64 {a : Nat} (h : a ≤ 9223372036854775807) : IntKind.i64.wrap (a : Int) = (a : Int) := wrap_i64 (by omega) (by omega)

theorem v_remN {a b : Nat} (hx : ev e x = some (.int .i64 (a : Int))) (hy : ev e y = some (.int .i64 (b : Int))) (h : 0 < b := by omega) : OpV P C (.binOp .rem t x y t') ty e L (.int .i64 ((a % b : Nat) : Int)) := by
  have := v_remI (C := C) (L := L) (ty := ty) (t := t) (t' := t') (P := P) hx hy (Int.natCast_nonneg _) (by omega)
  rw [← Int.natCast_emod] at this; exact this
theorem v_quoN {a b : Nat} (hx : ev e x = some (.int .i64 (a : Int))) (hy : ev e y = some (.int .i64 (b : Int))) (h : 0 < b := by omega) (ha : a ≤ 9223372036854775807 := by omega) : OpV P C (.binOp .quo t x y t') ty e L (.int .i64 ((a / b : Nat) : Int)) := by
  have := v_quoI (C := C) (L := L) (ty := ty) (t := t) (t' := t') (P := P) hx hy (Int.natCast_nonneg _) (by omega) (by omega)
  rw [← Int.natCast_ediv] at this; exact this

/-- Some assertions as one. -/
def nfL (l : List HP) : HP := nf (fun (_ : Unit) => True) fun _ => l
theorem ent_nfL {l L' : List HP} (h : Ent L' M) (t : TakeL l L L' := by repeat constructor) : Ent L (nfL l :: M) := ent_nf () trivial h t
theorem ent_openL {l : List HP} (h : Ent (l ++ L) M) : Ent (nfL l :: L) M := Ent.open_ fun _ _ => h
/-- A contract's first assertions as one. -/
theorem FvSpec.pre1 {fv : Value} {args : Array Value} {Pre : List HP} {α : Type} {ret : α → Value} {fact : α → Prop} {Post : α → List HP → List HP} (h : FvSpec P fv args Pre ret fact Post) : FvSpec P fv args [nfL Pre] ret fact Post :=
  fun G w R hs => h G w R (Ent.sat (ent_openL (Ent.refl _)) hs)
theorem wk_openL {ds : List Deferred} {k : List Item} {l : List HP} (h : Wk P C ds k e (l ++ L)) : Wk P C ds k e (nfL l :: L) := wk_nf fun _ _ => h

theorem blt_of {a b : Nat} (h : a < b) : Nat.blt a b = true := Nat.ble_eq_true_of_le h

/-- A struct, or an array, put together. -/
def fillL (places : List (Nat × Nat)) : List Value → List (Nat × Value) → Option (List Value)
  | cs, [] => some cs
  | cs, (i, v) :: rest => match places[i]? with
    | some (off, size) => bif Nat.beq (cellsL v).length size && Nat.ble (off + size) cs.length then fillL places (cs.take off ++ cellsL v ++ cs.drop (off + size)) rest else none
    | none => none

theorem setRange (off : Nat) : ∀ (us : List Value) (k : Nat) (cs : List Value), off + k + us.length ≤ cs.length →
    ((us.zipIdx k).foldl (fun (cs : Array Value) (c, j) => cs.setIfInBounds (off + j) c) cs.toArray) = (cs.take (off + k) ++ us ++ cs.drop (off + k + us.length)).toArray
  | [], k, cs, h => by simp
  | u :: us, k, cs, h => by
    simp only [List.length_cons] at h
    simp only [List.zipIdx_cons, List.foldl_cons]
    rw [List.setIfInBounds_toArray, setRange off us (k + 1) (cs.set (off + k) u) (by simp; omega)]
    congr 1
    have hlt : off + k < cs.length := by omega
    rw [List.take_set, List.drop_set_of_lt (by omega)]
    rw [show off + (k + 1) = (off + k) + 1 from by omega, List.take_succ_eq_append_getElem hlt, List.set_append]
    simp only [List.length_take, Nat.min_eq_left (Nat.le_of_lt hlt), Nat.lt_irrefl, if_false, Nat.sub_self, List.set_cons_zero, List.append_assoc, List.cons_append, List.nil_append, List.length_cons]
    rw [show off + k + 1 + us.length = off + k + (us.length + 1) from by omega]

theorem fill_run {places : List (Nat × Nat)} : ∀ {ps : List (Nat × Value)} {cs out : List Value}, fillL places cs ps = some out → Instr.fill (fun i => places[i]?) cs.toArray ps = some out.toArray
  | [], cs, out, h => by simp only [fillL, Option.some.injEq] at h; subst h; rfl
  | (i, v) :: rest, cs, out, h => by
    simp only [fillL] at h
    cases hp : places[i]? with
    | none => rw [hp] at h; cases h
    | some q =>
      obtain ⟨off, size⟩ := q
      rw [hp] at h
      simp only at h
      cases hb : (Nat.beq (cellsL v).length size && Nat.ble (off + size) cs.length) with
      | false => rw [hb, cond_false] at h; cases h
      | true =>
        rw [hb, cond_true] at h
        rw [Bool.and_eq_true] at hb
        have h1 : (cellsL v).length = size := Nat.eq_of_beq_eq_true hb.1
        have h2 : off + size ≤ cs.length := Nat.le_of_ble_eq_true hb.2
        have hvs : v.cells = (cellsL v).toArray := by rw [← cells_toList]
        simp only [Instr.fill, hp, hvs, List.size_toArray, h1, ne_eq, not_true_eq_false, decide_false, Bool.false_or, decide_eq_true_eq]
        rw [if_neg (by omega)]
        have h3 := setRange off (cellsL v) 0 cs (by omega)
        have h4 : (cellsL v).toArray.zipIdx.foldl (fun (cs : Array Value) (c, j) => cs.setIfInBounds (off + j) c) cs.toArray = (cs.take off ++ cellsL v ++ cs.drop (off + size)).toArray := by
          rw [← Array.foldl_toList]
          simp only [Array.toList_zipIdx]
          rw [h3, h1]; rfl
        rw [h4]
        exact fill_run h

/-- A struct's places. -/
structure TyStruct (P : Program) (t : TypeId) (z : List Value) (places : List (Nat × Nat)) : Prop where
  zero : ∃ zv, TyZero P t zv ∧ cellsL zv = z
  und : ∃ fields, P.underlying t = some (.struct fields) ∧ (fields.toList.map fun f => (f.offset, (P.info? f.type).map (·.size))) = (places.map fun p => (p.1, some p.2))

theorem run_places {P : Program} (w : World) : ∀ (fields : List Field) (places : List (Nat × Nat)), (fields.map fun f => (f.offset, (P.info? f.type).map (·.size))) = (places.map fun p => (p.1, some p.2)) →
    (fields.mapM (fun f => do pure (f.offset, ← sizeOf f.type) : Field → Sem (Nat × Nat))).run P w = .ok places w
  | [], [], _ => by simp
  | [], p :: places, h => by cases h
  | f :: fields, [], h => by cases h
  | f :: fields, p :: places, h => by
    simp only [List.map_cons, List.cons.injEq, Prod.mk.injEq] at h
    obtain ⟨⟨h1, h2⟩, h3⟩ := h
    have ih := run_places w fields places h3
    have hs : (sizeOf f.type).run P w = .ok p.2 w := TySize.run h2 w
    rw [List.mapM_cons]
    simp only [bind_assoc, pure_bind, Sem.run_bind, hs, Result.andThen_ok, ih, Sem.run_pure, h1]

theorem v_build {parts : List (Nat × Operand)} {pv : List (Nat × Value)} {z out : List Value} {places : List (Nat × Nat)} (hs : TyStruct P t z places) (hp : parts.mapM (fun p => (ev e p.2).map fun v => (p.1, v)) = some pv) (hf : fillL places z pv = some out) :
    OpV P C (.build t parts.toArray) ty e L (.agg out.toArray) := fun w tm ds pos after guard dst s a' => by
  obtain ⟨zv, hz, hzc⟩ := hs.zero
  obtain ⟨fields, hu, hpl⟩ := hs.und
  have hparts : (parts.toArray.map fun (i, x) => (i, (⟨tm, ds⟩ : Act).eval x)).toList = pv := by
    simp only [List.map_toArray]
    clear hf
    induction parts generalizing pv with
    | nil => simp at hp; simp [hp]
    | cons p parts ih =>
      rw [List.mapM_cons] at hp
      cases h1 : ev e p.2 with
      | none => rw [h1] at hp; cases hp
      | some v =>
        rw [h1] at hp
        simp only [Option.map_some, Option.bind_eq_bind, Option.bind_some] at hp
        cases h2 : parts.mapM (fun p => (ev e p.2).map fun v => (p.1, v)) with
        | none => rw [h2] at hp; cases hp
        | some pv' =>
          rw [h2] at hp
          simp only [Option.bind_some, Option.pure_def, Option.some.injEq] at hp
          subst hp
          simp only [List.map_cons, List.cons.injEq, a'.ev h1, true_and]
          exact ih h2
  have hfl := fill_run hf
  have hzc' : zv.cells = z.toArray := by rw [← hzc, ← cells_toList]
  have hmp : (fields.mapM (fun f => do pure (f.offset, ← sizeOf f.type) : Field → Sem (Nat × Nat))).run P w = .ok places.toArray w := by
    have := run_places w fields.toList places hpl
    rw [show fields = fields.toList.toArray from by simp, List.mapM_toArray]
    simp only [map_eq_pure_bind, Sem.run_bind, this, Result.andThen_ok, Sem.run_pure]
  have hfl' : Instr.fill (fun x => places.toArray[x]?) z.toArray pv = some out.toArray := by
    have : (fun (x : Nat) => places.toArray[x]?) = (fun (i : Nat) => places[i]?) := by funext i; simp
    rw [this]; exact hfl
  simp only [execOp, Instr.build, bind_assoc, Sem.run_bind, hz.run, Result.andThen_ok, underlying, run_program, hu, Sem.run_pure, hmp, hparts, hzc', hfl']

end
theorem v_maxI {P : Program} {C : Cx} {e : Env} {L : List HP} {ty t1 t2 : TypeId} {x y : Operand} {a b : Int} (hx : ev e x = some (.int .i64 a)) (hy : ev e y = some (.int .i64 b)) : OpV P C (.call ⟨.builtin .max, #[x, y], #[t1, t2]⟩) ty e L (.int .i64 (if b > a then b else a)) := fun w tm ds pos after guard dst s a' => by
  simp [execOp, resolve, a'.ev hx, a'.ev hy, invoke, builtin, Builtin.max_, Builtin.max2]

end Go.Proofs.YtealmijbkebipaaGreatDoor
