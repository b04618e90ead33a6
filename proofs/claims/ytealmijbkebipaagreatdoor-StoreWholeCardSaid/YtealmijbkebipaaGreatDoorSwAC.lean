/- Regions that draw their order: operations that leave the world alone may be taken first; of the others all ways are gone. -/
import Derived.Orders
import Derived.KernelRfl
import Derived.Test.YtealmijbkebipaaGreatDoorSwAB
namespace Go.Proofs.YtealmijbkebipaaGreatDoor
open Go

section
variable {P : Program} {all : Array Oper} {ds : List Deferred}

/-- Operation i may come up, where the operations in 'pend' (a mask) have not come up yet. -/
def readyM (all : Array Oper) (pend i : Nat) : Bool :=
  pend.testBit i && (match all[i]? with
    | some o => o.after.all fun e => !Region.binds .any e || (Nat.blt e.on all.size && !pend.testBit e.on)
    | none => false)

/-- An operation that never changes the world. -/
def calmOp : Op → Bool
  | .move _ | .assign _ | .pick .. | .load .. | .binOp .. | .unOp .. | .fieldAddr .. | .field .. | .indexAddr .. | .index .. | .extract .. | .makeFunc .. | .build .. | .nilCheck _ | .lookup .. | .convert .. | .slice .. => true
  | .call ⟨.builtin .len, _, _⟩ | .call ⟨.builtin .cap, _, _⟩ => true
  | _ => false

/-- In this state, in this world, the operation leaves this value, and the world as it is. -/
def Yields (P : Program) (all : Array Oper) (ds : List Deferred) (o : Oper) (v : Value) (tm : Array Value) (w : World) : Prop :=
  (Region.wanted o (yielded all tm) = true ∧ ((execOp (Act.eval ⟨tm, ds⟩) o).run P w = .ok (.value v) w ∨ ((execOp (Act.eval ⟨tm, ds⟩) o).run P w = .ok .skip w ∧ v = undef))) ∨ (Region.wanted o (yielded all tm) = false ∧ v = undef)

def stepC (P : Program) (all : Array Oper) (ds : List Deferred) (i : Nat) (tm : Array Value) (w : World) (Φ : Array Value → World → Prop) : Prop :=
  match all[i]? with
  | none => Φ tm w
  | some o => if calmOp o.op = true then ∃ v, Yields P all ds o v tm w ∧ Φ (Act.put ⟨tm, ds⟩ o.dst v).tmps w
    else if Region.wanted o (yielded all tm) = true then SemC P (execOp (Act.eval ⟨tm, ds⟩) o) w fun v w' => Φ (Act.put ⟨tm, ds⟩ o.dst v).tmps w'
    else Φ (Act.put ⟨tm, ds⟩ o.dst undef).tmps w

def AnyP (P : Program) (all : Array Oper) (ds : List Deferred) (W : Nat → World → Prop) (Φ : Array Value → World → Prop) : Nat → Nat → Array Value → World → Prop
  | 0, pend, tm, w => W pend w ∧ (∀ i, readyM all pend i = false) ∧ Φ tm w
  | n + 1, pend, tm, w => W pend w ∧ ((∀ i, readyM all pend i = false) → Φ tm w) ∧ ∀ i, readyM all pend i = true → stepC P all ds i tm w (AnyP P all ds W Φ n (pend ^^^ 2 ^ i))

/-- The mask and the row of what has come up say the same. -/
def Same (all : Array Oper) (pend : Nat) (listed : Array Bool) : Prop := listed.size = all.size ∧ ∀ j, pend.testBit j = (!listed.getD j true)

theorem testBit_out {pend i : Nat} (h : pend.testBit i = true) (j : Nat) : (pend ^^^ 2 ^ i).testBit j = (pend.testBit j && !decide (i = j)) := by
  rw [Nat.testBit_xor, Nat.testBit_two_pow]
  by_cases hm : i = j
  · subst hm; simp [h]
  · simp [hm]

theorem same_ready {pend : Nat} {listed : Array Bool} (h : Same all pend listed) (i : Nat) : readyM all pend i = true ↔ i ∈ Region.ready .any all listed := by
  rw [mem_ready]
  have h1 := h.2 i
  unfold readyM
  rw [h1]
  have hl : ∀ j, listed.getD j false = true ↔ (Nat.blt j all.size && !pend.testBit j) = true := by
    intro j
    rw [h.2 j, ← h.1]
    by_cases hj : j < listed.size
    · have : Nat.blt j listed.size = true := Nat.ble_eq_true_of_le hj
      simp [hj, this]
    · have : Nat.blt j listed.size = false := by
        rw [Bool.eq_false_iff]; intro hh; exact hj (Nat.le_of_ble_eq_true hh)
      simp [Array.getElem?_eq_none (Nat.le_of_not_lt hj), this]
  constructor
  · intro hh
    rw [Bool.and_eq_true] at hh
    refine ⟨by simpa using hh.1, ?_⟩
    cases ho : all[i]? with
    | none => rw [ho] at hh; cases hh.2
    | some o =>
      rw [ho] at hh
      refine ⟨o, rfl, fun e he hb => ?_⟩
      have h2 := Array.all_eq_true_iff_forall_mem.1 hh.2 e he
      rw [hb] at h2
      exact (hl e.on).2 (by simpa using h2)
  · rintro ⟨h2, o, ho, h3⟩
    rw [Bool.and_eq_true]
    refine ⟨by simp [h2], ?_⟩
    rw [ho]
    refine Array.all_eq_true_iff_forall_mem.2 fun e he => ?_
    cases hb : Region.binds .any e
    · rfl
    · have := (hl e.on).1 (h3 e he hb)
      simp [this]

theorem same_put {pend i : Nat} {listed : Array Bool} (h : Same all pend listed) (hi : readyM all pend i = true) : Same all (pend ^^^ 2 ^ i) (listed.setIfInBounds i true) := by
  have hb : pend.testBit i = true := by unfold readyM at hi; rw [Bool.and_eq_true] at hi; exact hi.1
  refine ⟨by simp [h.1], fun j => ?_⟩
  rw [testBit_out hb, h.2 j]
  by_cases hm : i = j
  · subst hm
    by_cases hj : i < listed.size <;> simp [hj]
  · simp [hm, Array.getElem?_setIfInBounds_ne hm]

theorem AnyP.sound {f : FuncId} {ro : Option Nat} {k : List Item} {R : Value → World → Prop} {W : Nat → World → Prop} (hdef : ∀ (j : Nat) (o : Oper), all[j]? = some o → ∀ c, o.op ≠ .defer c) : ∀ (n t pend : Nat) (listed : Array Bool) (tm : Array Value) (w : World),
    Same all pend listed → AnyP P all ds W (fun tm w => Run P f ro ds k tm w R) n pend tm w → Run P f ro ds (.inRegion all (Region.linearise.go .any all n t listed []) :: k) tm w R
  | 0, t, pend, listed, tm, w, hs, h => by simpa [Region.linearise.go] using Run.region_end h.2.2
  | n + 1, t, pend, listed, tm, w, hs, h => by
    obtain ⟨_, h0, h1⟩ := h
    simp only [Region.linearise.go]
    change Run P f ro ds (.inRegion all (match (Region.ready .any all listed)[t % (Region.ready .any all listed).length]? with
      | some i => Region.linearise.go .any all n (t / (Region.ready .any all listed).length) (listed.setIfInBounds i true) [i]
      | none => [].reverse) :: k) tm w R
    cases hi : (Region.ready .any all listed)[t % (Region.ready .any all listed).length]? with
    | none =>
      have hnil : Region.ready .any all listed = [] := by
        cases hr : Region.ready .any all listed with
        | nil => rfl
        | cons x xs =>
          rw [hr] at hi
          have hlt : t % (x :: xs).length < (x :: xs).length := Nat.mod_lt _ (by simp)
          simp at hi
          simp at hlt
          omega
      refine Run.region_end (h0 fun i => ?_)
      rw [Bool.eq_false_iff]
      intro hh
      have := (same_ready hs i).1 hh
      rw [hnil] at this
      cases this
    | some i =>
      simp only []
      rw [linearise_go_acc, List.reverse_singleton, List.singleton_append]
      have hm : i ∈ Region.ready .any all listed := List.mem_of_getElem? hi
      have hr := (same_ready hs i).2 hm
      have hst := h1 i hr
      obtain ⟨_, o, ho, _⟩ := mem_ready.1 hm
      unfold stepC at hst
      rw [ho] at hst
      simp only at hst
      split at hst
      · obtain ⟨v, hy, hv⟩ := hst
        have hk := AnyP.sound hdef n (t / (Region.ready .any all listed).length) _ _ _ _ (same_put hs hr) hv
        rcases hy with ⟨hw, hr1 | ⟨hr1, rfl⟩⟩ | ⟨hw, rfl⟩
        · exact Run.op ho hw (hdef i o ho) (SemC.value hr1 hk)
        · exact Run.op ho hw (hdef i o ho) (SemC.skip hr1 hk)
        · exact Run.op_skip ho hw hk
      · split at hst
        · rename_i hw
          exact Run.op ho hw (hdef i o ho) (SemC.mono hst fun v w' hv => AnyP.sound hdef n _ _ _ _ _ (same_put hs hr) hv)
        · rename_i hw
          exact Run.op_skip ho (by simpa using hw) (AnyP.sound hdef n _ _ _ _ _ (same_put hs hr) hst)

/-! ### One that may be taken first -/

/-- j waits for i, through others, too. -/
inductive Aft (all : Array Oper) (i : Nat) : Nat → Prop
  | one {j : Nat} {o : Oper} {e : Edge} (ho : all[j]? = some o) (he : e ∈ o.after) (hb : Region.binds .any e = true) (hi : e.on = i) : Aft all i j
  | more {j : Nat} {o : Oper} {e : Edge} (ho : all[j]? = some o) (he : e ∈ o.after) (hb : Region.binds .any e = true) (h : Aft all i e.on) : Aft all i j

def aftB (all : Array Oper) (i : Nat) : Nat → Nat → Bool
  | 0, _ => false
  | n + 1, j => match all[j]? with
    | some o => o.after.any fun e => Region.binds .any e && (Nat.beq e.on i || aftB all i n e.on)
    | none => false
theorem aftB_sound {i : Nat} : ∀ (n j : Nat), aftB all i n j = true → Aft all i j
  | 0, _, h => by cases h
  | n + 1, j, h => by
    simp only [aftB] at h
    cases ho : all[j]? with
    | none => rw [ho] at h; cases h
    | some o =>
      rw [ho] at h
      simp only at h
      rw [← Array.any_toList, List.any_eq_true] at h
      obtain ⟨e, he', h2⟩ := h
      have he : e ∈ o.after := by simpa using he'
      rw [Bool.and_eq_true, Bool.or_eq_true] at h2
      rcases h2.2 with h3 | h3
      · exact .one ho he h2.1 (Nat.eq_of_beq_eq_true h3)
      · exact .more ho he h2.1 (aftB_sound n _ h3)

/-- What has come up bears all that it waits for. -/
def Closed (all : Array Oper) (pend : Nat) : Prop := ∀ (j : Nat) (o : Oper) (e : Edge), all[j]? = some o → pend.testBit j = false → e ∈ o.after → Region.binds .any e = true → pend.testBit e.on = false

theorem Closed.aft {pend i : Nat} (hc : Closed all pend) {j : Nat} (h : Aft all i j) : pend.testBit j = false → pend.testBit i = false := by
  induction h with
  | one ho he hb hi => exact fun hj => hi ▸ hc _ _ _ ho hj he hb
  | more ho he hb _ ih => exact fun hj => ih (hc _ _ _ ho hj he hb)

theorem readyM_spec {pend j : Nat} (h : readyM all pend j = true) : pend.testBit j = true ∧ ∃ o, all[j]? = some o ∧ ∀ e ∈ o.after, Region.binds .any e = true → pend.testBit e.on = false := by
  unfold readyM at h
  rw [Bool.and_eq_true] at h
  refine ⟨h.1, ?_⟩
  cases ho : all[j]? with
  | none => rw [ho] at h; cases h.2
  | some o =>
    rw [ho] at h
    refine ⟨o, rfl, fun e he hb => ?_⟩
    have := Array.all_eq_true_iff_forall_mem.1 h.2 e he
    rw [hb] at this
    simp at this
    exact this.2

theorem Closed.ready {pend i j : Nat} (hc : Closed all pend) (hj : readyM all pend j = true) (hi : pend.testBit i = true) : ¬ Aft all i j := by
  intro h
  obtain ⟨_, o, ho, hall⟩ := readyM_spec hj
  cases h with
  | one ho' he hb hi' =>
    rw [ho] at ho'; cases ho'
    have := hall _ he hb
    rw [hi', hi] at this; cases this
  | more ho' he hb h' =>
    rw [ho] at ho'; cases ho'
    have := hc.aft h' (hall _ he hb)
    rw [hi] at this; cases this

theorem Closed.put {pend i : Nat} (hc : Closed all pend) (hi : readyM all pend i = true) : Closed all (pend ^^^ 2 ^ i) := by
  obtain ⟨hb, o, ho, hall⟩ := readyM_spec hi
  intro j oj e hoj hj he hbn
  rw [testBit_out hb] at hj ⊢
  by_cases hm : i = j
  · subst hm
    rw [ho] at hoj; cases hoj
    simp [hall e he hbn]
  · simp [hm] at hj
    simp [hc j oj e hoj hj he hbn]

theorem ready_keep {pend i j : Nat} (hi : pend.testBit i = true) (hj : readyM all pend j = true) (hne : j ≠ i) : readyM all (pend ^^^ 2 ^ i) j = true := by
  obtain ⟨hb, o, ho, hall⟩ := readyM_spec hj
  have hbo : ∀ k, (pend ^^^ 2 ^ i).testBit k = (pend.testBit k && !decide (i = k)) := testBit_out hi
  unfold readyM at hj ⊢
  rw [Bool.and_eq_true] at hj ⊢
  rw [ho] at hj ⊢
  refine ⟨by rw [hbo]; simp [hb, Ne.symm hne], ?_⟩
  refine Array.all_eq_true_iff_forall_mem.2 fun e he => ?_
  have h2 := Array.all_eq_true_iff_forall_mem.1 hj.2 e he
  cases hbn : Region.binds .any e
  · rfl
  · rw [hbn] at h2
    rw [hbo]
    simp at h2 ⊢
    exact ⟨h2.1, .inl h2.2⟩

theorem put_tmps (tm : Array Value) (dst : Option Tmp) (v : Value) : (⟨(Act.put ⟨tm, ds⟩ dst v).tmps, ds⟩ : Act) = Act.put ⟨tm, ds⟩ dst v := by cases dst <;> rfl
theorem put_tmps2 (tm : Array Value) (d1 d2 : Option Tmp) (v u : Value) (h : ∀ d, d1 = some d → d2 ≠ some d) :
    (Act.put ⟨(Act.put ⟨tm, ds⟩ d1 v).tmps, ds⟩ d2 u).tmps = (Act.put ⟨(Act.put ⟨tm, ds⟩ d2 u).tmps, ds⟩ d1 v).tmps := by
  rw [put_tmps, put_tmps, Act.put_comm _ v u h]

theorem Yields.step {o : Oper} {v : Value} {tm : Array Value} {w : World} {i : Nat} (ho : all[i]? = some o) (h : Yields P all ds o v tm w) {Φ : Array Value → World → Prop} (hk : Φ (Act.put ⟨tm, ds⟩ o.dst v).tmps w) : stepC P all ds i tm w Φ := by
  unfold stepC
  simp only [ho]
  split
  · exact ⟨v, h, hk⟩
  · rcases h with ⟨hw, hr | ⟨hr, rfl⟩⟩ | ⟨hw, rfl⟩
    · simp only [hw, if_true]; exact SemC.value hr hk
    · simp only [hw, if_true]; exact SemC.skip hr hk
    · simp only [hw, Bool.false_eq_true, if_false]; exact hk

theorem Yields.put {o : Oper} {v u : Value} {tm : Array Value} {w : World} {dst : Option Tmp} (hs : ∀ cs b, o.op ≠ .select cs b) (h : ∀ d, dst = some d → d ∉ o.looksAt all) :
    Yields P all ds o v (Act.put ⟨tm, ds⟩ dst u).tmps w ↔ Yields P all ds o v tm w := by
  unfold Yields
  rw [put_tmps, execOp_put o hs _ dst u h, wanted_put o ⟨tm, ds⟩ dst u h]

theorem AnyP.first {W : Nat → World → Prop} {S : World → Prop} {Φ : Array Value → World → Prop} {i : Nat} {oi : Oper} {v : Value} (hi : all[i]? = some oi) (hsel : ∀ (j : Nat) (o : Oper), all[j]? = some o → ∀ cs b, o.op ≠ .select cs b) (hWi : ∀ p w, p.testBit i = true → W (p ^^^ 2 ^ i) w → W p w) :
    ∀ (n pend : Nat) (tm : Array Value) (w : World), Closed all pend → readyM all pend i = true →
      (∀ j oj, all[j]? = some oj → pend.testBit j = true → j ≠ i → ¬ Aft all i j → oi.apart all oj = true ∧ (calmOp oj.op = true ∨ ∀ p w, (∀ q, q ≠ i → Aft all i q → pend.testBit q = true → p.testBit q = true) → W p w → S w)) →
      S w → (∀ w, S w → Yields P all ds oi v tm w) → AnyP P all ds W Φ n (pend ^^^ 2 ^ i) (Act.put ⟨tm, ds⟩ oi.dst v).tmps w → AnyP P all ds W Φ (n + 1) pend tm w := by
  intro n
  induction n with
  | zero =>
    intro pend tm w hc hr _ hS hy H
    refine ⟨hWi _ _ (readyM_spec hr).1 H.1, (fun h => by rw [h i] at hr; cases hr), fun j hj => ?_⟩
    by_cases hji : j = i
    · subst hji; exact (hy w hS).step hi H
    · have := ready_keep (readyM_spec hr).1 hj hji
      rw [H.2.1 j] at this; cases this
  | succ n ih =>
    intro pend tm w hc hr hap hS hy H
    refine ⟨hWi _ _ (readyM_spec hr).1 H.1, (fun h => by rw [h i] at hr; cases hr), fun j hj => ?_⟩
    by_cases hji : j = i
    · subst hji; exact (hy w hS).step hi H
    · have hst := H.2.2 j (ready_keep (readyM_spec hr).1 hj hji)
      obtain ⟨hbj, oj, hoj, _⟩ := readyM_spec hj
      have hib := (readyM_spec hr).1
      obtain ⟨ha, hcalm⟩ := hap j oj hoj hbj hji (hc.ready hj hib)
      obtain ⟨a1, a2, a3⟩ := Oper.apart_spec ha
      have hxor : pend ^^^ 2 ^ i ^^^ 2 ^ j = pend ^^^ 2 ^ j ^^^ 2 ^ i := by rw [Nat.xor_assoc, Nat.xor_comm (2 ^ i), Nat.xor_assoc]
      have hr' : readyM all (pend ^^^ 2 ^ j) i = true := ready_keep hbj hr (Ne.symm hji)
      have hap' : ∀ k ok, all[k]? = some ok → (pend ^^^ 2 ^ j).testBit k = true → k ≠ i → ¬ Aft all i k → oi.apart all ok = true ∧ (calmOp ok.op = true ∨ ∀ p w, (∀ q, q ≠ i → Aft all i q → (pend ^^^ 2 ^ j).testBit q = true → p.testBit q = true) → W p w → S w) := by
        intro k ok hok hk hki hna
        rw [testBit_out hbj] at hk
        simp at hk
        obtain ⟨z1, z2⟩ := hap k ok hok hk.1 hki hna
        refine ⟨z1, z2.imp id fun f p w hp hw => f p w (fun q hqi hq hb => hp q hqi hq ?_) hw⟩
        rw [testBit_out hbj, hb]
        have : j ≠ q := fun e => (hc.ready hj hib) (e ▸ hq)
        simp [this]
      have next : ∀ u w', S w' → AnyP P all ds W Φ n (pend ^^^ 2 ^ i ^^^ 2 ^ j) (Act.put ⟨(Act.put ⟨tm, ds⟩ oi.dst v).tmps, ds⟩ oj.dst u).tmps w' →
          AnyP P all ds W Φ (n + 1) (pend ^^^ 2 ^ j) (Act.put ⟨tm, ds⟩ oj.dst u).tmps w' := by
        intro u w' hS' hK
        refine ih _ _ _ (hc.put hj) hr' hap' hS' (fun w2 h2 => (Yields.put (hsel i oi hi) a3).2 (hy w2 h2)) ?_
        rw [← hxor, ← put_tmps2 tm oi.dst oj.dst v u a2]
        exact hK
      unfold stepC at hst ⊢
      simp only [hoj] at hst ⊢
      by_cases hcl : calmOp oj.op = true
      · simp only [hcl, if_true] at hst ⊢
        obtain ⟨u, hyu, hK⟩ := hst
        exact ⟨u, (Yields.put (hsel j oj hoj) a1).1 hyu, next u w hS hK⟩
      · have hWS := hcalm.resolve_left hcl
        rw [put_tmps, execOp_put oj (hsel j oj hoj) _ oi.dst v a1, wanted_put oj ⟨tm, ds⟩ oi.dst v a1] at hst
        simp only [hcl, Bool.false_eq_true, if_false] at hst ⊢
        split
        · rename_i hw
          simp only [hw, if_true] at hst
          refine SemC.mono hst fun u w' hK => ?_
          have hW' : W (pend ^^^ 2 ^ i ^^^ 2 ^ j) w' := by cases n <;> exact hK.1
          have hS' : S w' := hWS _ w' (fun q hqi hq hb => by
            have hjb : (pend ^^^ 2 ^ i).testBit j = true := by rw [testBit_out hib, hbj]; simp [Ne.symm hji]
            have hjq : j ≠ q := fun e => (hc.ready hj hib) (e ▸ hq)
            rw [testBit_out hjb, testBit_out hib, hb]; simp [Ne.symm hqi, hjq]) hW'
          rw [← put_tmps tm oi.dst v] at hK
          exact next u w' hS' hK
        · rename_i hw
          simp only [hw, Bool.false_eq_true, if_false] at hst
          rw [← put_tmps tm oi.dst v] at hst
          exact next undef w hS hst
end

/-! ### The walk of such a region -/

/-- Every other operation that has not come up yet waits for i, or is apart from it, and (where w is asked) leaves the world alone. -/
def freeB (all : Array Oper) (pend i : Nat) (oi : Oper) (calm : Bool) : Bool :=
  (List.range all.size).all fun j => !pend.testBit j || Nat.beq j i || aftB all i all.size j || (match all[j]? with
    | some oj => oi.apart all oj && (!calm || calmOp oj.op)
    | none => true)

/-- Nothing else can come up. -/
def aloneB (all : Array Oper) (pend i : Nat) : Bool := (List.range all.size).all fun j => Nat.beq j i || !readyM all pend j

def noSelB (all : Array Oper) : Bool := all.all fun o => match o.op with | .select .. | .defer _ => false | _ => true
def closedB (all : Array Oper) (pend : Nat) : Bool := (List.range all.size).all fun j => pend.testBit j || (match all[j]? with
    | some o => o.after.all fun e => !Region.binds .any e || !pend.testBit e.on
    | none => true)

theorem noSelB_sel {all : Array Oper} (h : noSelB all = true) : (∀ (j : Nat) (o : Oper), all[j]? = some o → ∀ cs b, o.op ≠ .select cs b) ∧ (∀ (j : Nat) (o : Oper), all[j]? = some o → ∀ c, o.op ≠ .defer c) := by
  have h' := fun (j : Nat) (o : Oper) (ho : all[j]? = some o) => Array.all_eq_true_iff_forall_mem.1 h o (Array.mem_of_getElem? ho)
  refine ⟨fun j o ho cs b e => ?_, fun j o ho c e => ?_⟩ <;> (have := h' j o ho; rw [e] at this; cases this)

/-- What is watched as long as the operation q has not come up. -/
structure Wat where
  q : Nat
  a : World → Prop
def Wat.ok (W : Wat) (pend : Nat) (w : World) : Prop := pend.testBit W.q = true → W.a w
theorem Wat.gone {q : Nat} {a : World → Prop} {pend : Nat} {w : World} (h : pend.testBit q = false) : Wat.ok ⟨q, a⟩ pend w := fun hq => by
  have hq : pend.testBit q = true := hq
  rw [h] at hq; cases hq
theorem Wat.fwd {W : Wat} {pend i : Nat} {w : World} (hb : pend.testBit i = true) (h : W.ok pend w) : W.ok (pend ^^^ 2 ^ i) w := fun hq => h (by
  rw [testBit_out hb, Bool.and_eq_true] at hq; exact hq.1)
theorem Wat.back {W : Wat} {i : Nat} (hiq : Nat.beq i W.q = false) {G : Gl} : ∀ p w, p.testBit i = true → (Sat G w [] ∧ W.ok (p ^^^ 2 ^ i) w) → (Sat G w [] ∧ W.ok p w) := fun p w hb h => ⟨h.1, fun hq => h.2 (by
  have : i ≠ W.q := fun e => by rw [e] at hiq; simp at hiq
  rw [testBit_out hb, hq]; simp [this])⟩

def Wd (P : Program) (C : Cx) (ds : List Deferred) (all : Array Oper) (W : Wat) (n pend : Nat) (k : List Item) (e : Env) (L : List HP) : Prop :=
  noSelB all = true → Closed all pend → ∀ w tm, Sat C.G w L → Agree C.n e tm → W.ok pend w → AnyP P all ds (fun p w => Sat C.G w [] ∧ W.ok p w) (fun tm w => Run P C.f C.ro ds k tm w C.R) n pend tm w

theorem Sat.nil {G : Gl} {w : World} {L : List HP} (h : Sat G w L) : Sat G w [] := by
  obtain ⟨h0, r, H, _⟩ := h
  exact ⟨h0, r, H, trivial⟩

section rules
variable {P : Program} {C : Cx} {ds : List Deferred} {k : List Item} {e : Env} {L : List HP} {all : Array Oper} {W : Wat} {n pend i d : Nat}

theorem noReady {all : Array Oper} {pend : Nat} (hp : Nat.beq pend 0 = true) : ∀ i, readyM all pend i = false := fun i => by
  obtain rfl := Nat.eq_of_beq_eq_true hp
  simp [readyM]

theorem wd_done (h : Wk P C ds k e L) (hp : Nat.beq pend 0 = true := by rfl) : Wd P C ds all W 0 pend k e L := fun _ _ w tm s a' hW => ⟨⟨s.nil, hW⟩, noReady hp, h w tm s a'⟩

theorem wk_draw {id : Nat} {l : List Oper} (W : Wat) (hm : P.follows .mixedOrders = true) (hs : noSelB l.toArray = true) (hn : Nat.beq l.length n = true) (hW : ∀ w, Sat C.G w L → W.a w) (hp : Nat.beq pend (2 ^ n - 1) = true)
    (h : Wd P C ds l.toArray W n pend k e L) : Wk P C ds (.code (.region id l.toArray true) :: k) e L := by
  intro w tm s a'
  have hlen := Nat.eq_of_beq_eq_true hn
  have hp := Nat.eq_of_beq_eq_true hp
  refine Run.region_draw fun t => ?_
  simp only [Region.schedule, hm, Bool.true_or, if_true, Region.linearise]
  have s' : Sat C.G { w with drawn := w.drawn + 1 } L := s.same rfl rfl rfl rfl
  have hbit : ∀ j, pend.testBit j = decide (j < n) := fun j => by rw [hp, Nat.testBit_two_pow_sub_one]
  have hcl : Closed l.toArray pend := by
    intro j o e ho hj he hb
    have h1 : j < l.length := by
      have := (Array.getElem?_eq_some_iff.1 ho).1
      simpa using this
    rw [hbit, decide_eq_false_iff_not] at hj
    omega
  rw [show l.toArray.size = n from by simpa using hlen]
  refine AnyP.sound (noSelB_sel hs).2 n t pend _ tm _ ⟨by simp [hlen], fun j => ?_⟩ (h hs hcl _ tm s' a' (fun _ => hW _ s'))
  rw [hbit]
  by_cases hj : j < n <;> simp [hj]

theorem freeB_spec {oi : Oper} {calm : Bool} (h : freeB all pend i oi calm = true) : ∀ j oj, all[j]? = some oj → pend.testBit j = true → j ≠ i → ¬ Aft all i j → oi.apart all oj = true ∧ (calm = true → calmOp oj.op = true) := by
  intro j oj hoj hj hne hna
  have hlt := (Array.getElem?_eq_some_iff.1 hoj).1
  have h1 := List.all_eq_true.1 h j (List.mem_range.2 hlt)
  rw [hj, hoj] at h1
  have h2 : Nat.beq j i = false := by rw [Bool.eq_false_iff]; exact fun hh => hne (Nat.eq_of_beq_eq_true hh)
  have h3 : aftB all i all.size j = false := by rw [Bool.eq_false_iff]; exact fun hh => hna (aftB_sound _ _ hh)
  rw [h2, h3] at h1
  simp at h1
  refine ⟨h1.1, fun hc => ?_⟩
  rcases h1.2 with h4 | h4
  · rw [hc] at h4; cases h4
  · exact h4

/-- A calm operation: of the others none that may come before it changes the world. -/
theorem wd_a {op : Op} {ty : TypeId} {pos : String} {after : Array Edge} {v : Value} (i : Nat) (hi : all[i]? = some ⟨some d, op, ty, pos, after, none⟩) (hv : OpV P C op ty e L v) (h : Wd P C ds all W n (pend ^^^ 2 ^ i) k ((d, v) :: e) L)
    (hr : readyM all pend i = true := by kernel_rfl) (hf : freeB all pend i ⟨some d, op, ty, pos, after, none⟩ true = true := by kernel_rfl) (hd : Nat.blt d C.n = true := by rfl) (hiq : Nat.beq i W.q = false := by rfl) : Wd P C ds all W (n + 1) pend k e L := by
  intro hs hc w tm s a' hW
  have hb := (readyM_spec hr).1
  have hy : Yields P all ds ⟨some d, op, ty, pos, after, none⟩ v tm w := .inl ⟨rfl, .inl (hv w tm ds pos after _ (some d) s a')⟩
  refine AnyP.first (S := fun w' => w' = w) hi (noSelB_sel hs).1 (Wat.back hiq) n pend tm w hc hr (fun j' oj hoj hj' hne hna => ?_) rfl (fun w' hw' => hw' ▸ hy) ?_
  · have := freeB_spec hf j' oj hoj hj' hne hna
    exact ⟨this.1, .inl (this.2 rfl)⟩
  · exact h hs (hc.put hr) w _ s (a'.put hd v) (Wat.fwd hb hW)
theorem wd_ag {op : Op} {ty : TypeId} {pos : String} {after : Array Edge} {v : Value} {j t : Nat} {want : Bool} (i : Nat) (hi : all[i]? = some ⟨some d, op, ty, pos, after, some (j, want)⟩) (hj : (all[j]?).bind (·.dst) = some t) (ht : lk e t = some (.bool want))
    (hv : OpV P C op ty e L v) (h : Wd P C ds all W n (pend ^^^ 2 ^ i) k ((d, v) :: e) L)
    (hr : readyM all pend i = true := by kernel_rfl) (hf : freeB all pend i ⟨some d, op, ty, pos, after, some (j, want)⟩ true = true := by kernel_rfl) (hd : Nat.blt d C.n = true := by rfl) (hiq : Nat.beq i W.q = false := by rfl) : Wd P C ds all W (n + 1) pend k e L := by
  intro hs hc w tm s a' hW
  have hb := (readyM_spec hr).1
  have hy : Yields P all ds ⟨some d, op, ty, pos, after, some (j, want)⟩ v tm w := .inl ⟨by rw [wanted_of hj a' ht rfl]; simp, .inl (hv w tm ds pos after _ (some d) s a')⟩
  refine AnyP.first (S := fun w' => w' = w) hi (noSelB_sel hs).1 (Wat.back hiq) n pend tm w hc hr (fun j' oj hoj hj' hne hna => ?_) rfl (fun w' hw' => hw' ▸ hy) ?_
  · have := freeB_spec hf j' oj hoj hj' hne hna
    exact ⟨this.1, .inl (this.2 rfl)⟩
  · exact h hs (hc.put hr) w _ s (a'.put hd v) (Wat.fwd hb hW)
/-- One that looks into no memory. -/
theorem wd_p {op : Op} {ty : TypeId} {pos : String} {after : Array Edge} {v : Value} (i : Nat) (hi : all[i]? = some ⟨some d, op, ty, pos, after, none⟩) (hv : OpV P C op ty e [] v) (h : Wd P C ds all W n (pend ^^^ 2 ^ i) k ((d, v) :: e) L)
    (hr : readyM all pend i = true := by kernel_rfl) (hf : freeB all pend i ⟨some d, op, ty, pos, after, none⟩ false = true := by kernel_rfl) (hd : Nat.blt d C.n = true := by rfl) (hiq : Nat.beq i W.q = false := by rfl) : Wd P C ds all W (n + 1) pend k e L := by
  intro hs hc w tm s a' hW
  have hb := (readyM_spec hr).1
  refine AnyP.first (S := fun w => Sat C.G w []) hi (noSelB_sel hs).1 (Wat.back hiq) n pend tm w hc hr (fun j' oj hoj hj' hne hna => ?_) s.nil (fun w' hw' => .inl ⟨rfl, .inl (hv w' tm ds pos after _ (some d) hw' a')⟩) ?_
  · exact ⟨(freeB_spec hf j' oj hoj hj' hne hna).1, .inr fun _ _ _ h => h.1⟩
  · exact h hs (hc.put hr) w _ s (a'.put hd v) (Wat.fwd hb hW)
theorem wd_pg {op : Op} {ty : TypeId} {pos : String} {after : Array Edge} {v : Value} {j t : Nat} {want : Bool} (i : Nat) (hi : all[i]? = some ⟨some d, op, ty, pos, after, some (j, want)⟩) (hj : (all[j]?).bind (·.dst) = some t) (ht : lk e t = some (.bool want))
    (hv : OpV P C op ty e [] v) (h : Wd P C ds all W n (pend ^^^ 2 ^ i) k ((d, v) :: e) L)
    (hr : readyM all pend i = true := by kernel_rfl) (hf : freeB all pend i ⟨some d, op, ty, pos, after, some (j, want)⟩ false = true := by kernel_rfl) (hd : Nat.blt d C.n = true := by rfl) (hiq : Nat.beq i W.q = false := by rfl) : Wd P C ds all W (n + 1) pend k e L := by
  intro hs hc w tm s a' hW
  have hb := (readyM_spec hr).1
  refine AnyP.first (S := fun w => Sat C.G w []) hi (noSelB_sel hs).1 (Wat.back hiq) n pend tm w hc hr (fun j' oj hoj hj' hne hna => ?_) s.nil (fun w' hw' => .inl ⟨by rw [wanted_of hj a' ht rfl]; simp, .inl (hv w' tm ds pos after _ (some d) hw' a')⟩) ?_
  · exact ⟨(freeB_spec hf j' oj hoj hj' hne hna).1, .inr fun _ _ _ h => h.1⟩
  · exact h hs (hc.put hr) w _ s (a'.put hd v) (Wat.fwd hb hW)
/-- One that is watched: it yields this in every world that the watch lets by. -/
theorem wd_b {op : Op} {ty : TypeId} {pos : String} {after : Array Edge} {v : Value} (i : Nat) (hi : all[i]? = some ⟨some d, op, ty, pos, after, none⟩) (hv : ∀ w tm ds, Sat C.G w [] → W.a w → Agree C.n e tm → (execOp (Act.eval ⟨tm, ds⟩) ⟨some d, op, ty, pos, after, none⟩).run P w = .ok (.value v) w) (h : Wd P C ds all W n (pend ^^^ 2 ^ i) k ((d, v) :: e) L)
    (hr : readyM all pend i = true := by kernel_rfl) (hf : freeB all pend i ⟨some d, op, ty, pos, after, none⟩ false = true := by kernel_rfl) (hd : Nat.blt d C.n = true := by rfl) (hiq : Nat.beq i W.q = false := by rfl) (hq : (aftB all i all.size W.q && pend.testBit W.q) = true := by kernel_rfl) : Wd P C ds all W (n + 1) pend k e L := by
  intro hs hc w tm s a' hW
  have hb := (readyM_spec hr).1
  rw [Bool.and_eq_true] at hq
  have hqi : W.q ≠ i := fun e => by rw [e] at hiq; simp at hiq
  refine AnyP.first (S := fun w => Sat C.G w [] ∧ W.a w) hi (noSelB_sel hs).1 (Wat.back hiq) n pend tm w hc hr (fun j' oj hoj hj' hne hna => ?_) ⟨s.nil, hW hq.2⟩ (fun w' hw' => .inl ⟨rfl, .inl (hv w' tm ds hw'.1 hw'.2 a')⟩) ?_
  · exact ⟨(freeB_spec hf j' oj hoj hj' hne hna).1, .inr fun p w' hp h => ⟨h.1, h.2 (hp _ hqi (aftB_sound _ _ hq.1) hq.2)⟩⟩
  · exact h hs (hc.put hr) w _ s (a'.put hd v) (Wat.fwd hb hW)
theorem wd_bg {op : Op} {ty : TypeId} {pos : String} {after : Array Edge} {v : Value} {j t : Nat} {want : Bool} (i : Nat) (hi : all[i]? = some ⟨some d, op, ty, pos, after, some (j, want)⟩) (hj : (all[j]?).bind (·.dst) = some t) (ht : lk e t = some (.bool want))
    (hv : ∀ w tm ds, Sat C.G w [] → W.a w → Agree C.n e tm → (execOp (Act.eval ⟨tm, ds⟩) ⟨some d, op, ty, pos, after, some (j, want)⟩).run P w = .ok (.value v) w) (h : Wd P C ds all W n (pend ^^^ 2 ^ i) k ((d, v) :: e) L)
    (hr : readyM all pend i = true := by kernel_rfl) (hf : freeB all pend i ⟨some d, op, ty, pos, after, some (j, want)⟩ false = true := by kernel_rfl) (hd : Nat.blt d C.n = true := by rfl) (hiq : Nat.beq i W.q = false := by rfl) (hq : (aftB all i all.size W.q && pend.testBit W.q) = true := by kernel_rfl) : Wd P C ds all W (n + 1) pend k e L := by
  intro hs hc w tm s a' hW
  have hb := (readyM_spec hr).1
  rw [Bool.and_eq_true] at hq
  have hqi : W.q ≠ i := fun e => by rw [e] at hiq; simp at hiq
  refine AnyP.first (S := fun w => Sat C.G w [] ∧ W.a w) hi (noSelB_sel hs).1 (Wat.back hiq) n pend tm w hc hr (fun j' oj hoj hj' hne hna => ?_) ⟨s.nil, hW hq.2⟩ (fun w' hw' => .inl ⟨by rw [wanted_of hj a' ht rfl]; simp, .inl (hv w' tm ds hw'.1 hw'.2 a')⟩) ?_
  · exact ⟨(freeB_spec hf j' oj hoj hj' hne hna).1, .inr fun p w' hp h => ⟨h.1, h.2 (hp _ hqi (aftB_sound _ _ hq.1) hq.2)⟩⟩
  · exact h hs (hc.put hr) w _ s (a'.put hd v) (Wat.fwd hb hW)
theorem wd_ld {t0 b o : Nat} {x : Operand} {ty : TypeId} {pos : String} {after : Array Edge} {v : Value} (i : Nat) (hi : all[i]? = some ⟨some d, .load t0 x, ty, pos, after, none⟩) 
    (hty : TyScalar P t0) (hx : ev e x = some (.pointer (some ⟨b, o, none⟩))) (hWc : ∀ w, W.a w → w.cell? ⟨b, o, none⟩ = some v) (h : Wd P C ds all W n (pend ^^^ 2 ^ i) k ((d, v) :: e) L)
    (hr : readyM all pend i = true := by kernel_rfl) (hf : freeB all pend i ⟨some d, .load t0 x, ty, pos, after, none⟩ false = true := by kernel_rfl) (hd : Nat.blt d C.n = true := by rfl) (hiq : Nat.beq i W.q = false := by rfl) (hq : (aftB all i all.size W.q && pend.testBit W.q) = true := by kernel_rfl) : Wd P C ds all W (n + 1) pend k e L :=
  wd_b i hi (fun w tm ds _ hw a' => by simp [execOp, a'.ev hx, Instr.loadAt, Instr.sureAddr, loadVar, hty.notAgg.2, hWc w hw]) h hr hf hd hiq hq
theorem wd_ldg {t0 b o : Nat} {x : Operand} {ty : TypeId} {pos : String} {after : Array Edge} {v : Value} {j t : Nat} {want : Bool} (i : Nat) (hi : all[i]? = some ⟨some d, .load t0 x, ty, pos, after, some (j, want)⟩) (hj : (all[j]?).bind (·.dst) = some t) (ht : lk e t = some (.bool want))
    (hty : TyScalar P t0) (hx : ev e x = some (.pointer (some ⟨b, o, none⟩))) (hWc : ∀ w, W.a w → w.cell? ⟨b, o, none⟩ = some v) (h : Wd P C ds all W n (pend ^^^ 2 ^ i) k ((d, v) :: e) L)
    (hr : readyM all pend i = true := by kernel_rfl) (hf : freeB all pend i ⟨some d, .load t0 x, ty, pos, after, some (j, want)⟩ false = true := by kernel_rfl) (hd : Nat.blt d C.n = true := by rfl) (hiq : Nat.beq i W.q = false := by rfl) (hq : (aftB all i all.size W.q && pend.testBit W.q) = true := by kernel_rfl) : Wd P C ds all W (n + 1) pend k e L :=
  wd_bg i hi hj ht (fun w tm ds _ hw a' => by simp [execOp, a'.ev hx, Instr.loadAt, Instr.sureAddr, loadVar, hty.notAgg.2, hWc w hw]) h hr hf hd hiq hq
/-- One that its guard does not let by. -/
theorem wd_gF {op : Op} {ty : TypeId} {pos : String} {after : Array Edge} {j t : Nat} {b want : Bool} (i : Nat) (hi : all[i]? = some ⟨some d, op, ty, pos, after, some (j, want)⟩) (hj : (all[j]?).bind (·.dst) = some t) (ht : lk e t = some (.bool b)) (hb : (b == want) = false)
    (h : Wd P C ds all W n (pend ^^^ 2 ^ i) k ((d, undef) :: e) L)
    (hr : readyM all pend i = true := by kernel_rfl) (hf : freeB all pend i ⟨some d, op, ty, pos, after, some (j, want)⟩ false = true := by kernel_rfl) (hd : Nat.blt d C.n = true := by rfl) (hiq : Nat.beq i W.q = false := by rfl) : Wd P C ds all W (n + 1) pend k e L := by
  intro hs hc w tm s a' hW
  refine AnyP.first (S := fun w => Sat C.G w []) hi (noSelB_sel hs).1 (Wat.back hiq) n pend tm w hc hr (fun j' oj hoj hj' hne hna => ?_) s.nil (fun w' hw' => .inr ⟨by rw [wanted_of hj a' ht rfl]; exact hb, rfl⟩) ?_
  · exact ⟨(freeB_spec hf j' oj hoj hj' hne hna).1, .inr fun _ _ _ h => h.1⟩
  · exact h hs (hc.put hr) w _ s (a'.put hd undef) (Wat.fwd (readyM_spec hr).1 hW)

theorem ready_lt {j : Nat} (hj : readyM all pend j = true) : j < all.size := by
  obtain ⟨_, o, ho, _⟩ := readyM_spec hj
  exact (Array.getElem?_eq_some_iff.1 ho).1

/-- The one that may come up now. -/
theorem wd_l {op : Op} {ty : TypeId} {pos : String} {after : Array Edge} (i : Nat) (hi : all[i]? = some ⟨some d, op, ty, pos, after, none⟩)
    (hv : OpW P C ⟨some d, op, ty, pos, after, none⟩ e L fun v L' => (∀ w, Sat C.G w L' → W.ok (pend ^^^ 2 ^ i) w) ∧ Wd P C ds all W n (pend ^^^ 2 ^ i) k ((d, v) :: e) L')
    (hr : readyM all pend i = true := by kernel_rfl) (hal : aloneB all pend i = true := by kernel_rfl) (hcalm : calmOp op = false := by rfl) (hd : Nat.blt d C.n = true := by rfl) : Wd P C ds all W (n + 1) pend k e L := by
  intro hs hc w tm s a' hW
  refine ⟨⟨s.nil, hW⟩, (fun h => by rw [h i] at hr; cases hr), fun j hj => ?_⟩
  have h1 := List.all_eq_true.1 hal j (List.mem_range.2 (ready_lt hj))
  rw [hj] at h1
  obtain rfl : j = i := by simpa [Nat.beq_eq_true_eq] using h1
  unfold stepC
  simp only [hi, hcalm, Bool.false_eq_true, if_false]
  simp only [Region.wanted, if_true]
  refine SemC.mono (hv w tm ds s a') ?_
  rintro v w' ⟨L', s', hWL, hK⟩
  exact hK hs (hc.put hr) w' _ s' (a'.put hd v) (hWL w' s')
theorem wd_al {op : Op} {ty : TypeId} {pos : String} {after : Array Edge} {v : Value} (i : Nat) (hi : all[i]? = some ⟨some d, op, ty, pos, after, none⟩) (hv : OpV P C op ty e L v) (h : Wd P C ds all W n (pend ^^^ 2 ^ i) k ((d, v) :: e) L)
    (hr : readyM all pend i = true := by kernel_rfl) (hal : aloneB all pend i = true := by kernel_rfl) (hcalm : calmOp op = true := by rfl) (hd : Nat.blt d C.n = true := by rfl) : Wd P C ds all W (n + 1) pend k e L := by
  intro hs hc w tm s a' hW
  refine ⟨⟨s.nil, hW⟩, (fun h => by rw [h i] at hr; cases hr), fun j hj => ?_⟩
  have h1 := List.all_eq_true.1 hal j (List.mem_range.2 (ready_lt hj))
  rw [hj] at h1
  obtain rfl : j = i := by simpa [Nat.beq_eq_true_eq] using h1
  unfold stepC
  simp only [hi, hcalm, if_true]
  exact ⟨v, .inl ⟨rfl, .inl (hv w tm ds pos after none (some d) s a')⟩, h hs (hc.put hr) w _ s (a'.put hd v) (Wat.fwd (readyM_spec hr).1 hW)⟩
theorem wd_l0 {op : Op} {ty : TypeId} {pos : String} {after : Array Edge} (i : Nat) (hi : all[i]? = some ⟨none, op, ty, pos, after, none⟩)
    (hv : OpW P C ⟨none, op, ty, pos, after, none⟩ e L fun _ L' => (∀ w, Sat C.G w L' → W.ok (pend ^^^ 2 ^ i) w) ∧ Wd P C ds all W n (pend ^^^ 2 ^ i) k e L')
    (hr : readyM all pend i = true := by kernel_rfl) (hal : aloneB all pend i = true := by kernel_rfl) (hcalm : calmOp op = false := by rfl) : Wd P C ds all W (n + 1) pend k e L := by
  intro hs hc w tm s a' hW
  refine ⟨⟨s.nil, hW⟩, (fun h => by rw [h i] at hr; cases hr), fun j hj => ?_⟩
  have h1 := List.all_eq_true.1 hal j (List.mem_range.2 (ready_lt hj))
  rw [hj] at h1
  obtain rfl : j = i := by simpa [Nat.beq_eq_true_eq] using h1
  unfold stepC
  simp only [hi, hcalm, Bool.false_eq_true, if_false]
  simp only [Region.wanted, if_true]
  refine SemC.mono (hv w tm ds s a') ?_
  rintro v w' ⟨L', s', hWL, hK⟩
  exact hK hs (hc.put hr) w' _ s' a' (hWL w' s')

theorem wd_lg {op : Op} {ty : TypeId} {pos : String} {after : Array Edge} {j t : Nat} {want : Bool} (i : Nat) (hi : all[i]? = some ⟨some d, op, ty, pos, after, some (j, want)⟩) (hj : (all[j]?).bind (·.dst) = some t) (ht : lk e t = some (.bool want))
    (hv : OpW P C ⟨some d, op, ty, pos, after, some (j, want)⟩ e L fun v L' => (∀ w, Sat C.G w L' → W.ok (pend ^^^ 2 ^ i) w) ∧ Wd P C ds all W n (pend ^^^ 2 ^ i) k ((d, v) :: e) L')
    (hr : readyM all pend i = true := by kernel_rfl) (hal : aloneB all pend i = true := by kernel_rfl) (hcalm : calmOp op = false := by rfl) (hd : Nat.blt d C.n = true := by rfl) : Wd P C ds all W (n + 1) pend k e L := by
  intro hs hc w tm s a' hW
  refine ⟨⟨s.nil, hW⟩, (fun h => by rw [h i] at hr; cases hr), fun q hq => ?_⟩
  have h1 := List.all_eq_true.1 hal q (List.mem_range.2 (ready_lt hq))
  rw [hq] at h1
  obtain rfl : q = i := by simpa [Nat.beq_eq_true_eq] using h1
  unfold stepC
  simp only [hi, hcalm, Bool.false_eq_true, if_false]
  rw [if_pos (by rw [wanted_of hj a' ht rfl]; simp)]
  refine SemC.mono (hv w tm ds s a') ?_
  rintro v w' ⟨L', s', hWL, hK⟩
  exact hK hs (hc.put hr) w' _ s' (a'.put hd v) (hWL w' s')
/-- A loud one that its guard does not let by. -/
theorem wd_lgF {op : Op} {ty : TypeId} {pos : String} {after : Array Edge} {j t : Nat} {b want : Bool} (i : Nat) (hi : all[i]? = some ⟨some d, op, ty, pos, after, some (j, want)⟩) (hj : (all[j]?).bind (·.dst) = some t) (ht : lk e t = some (.bool b)) (hb : (b == want) = false)
    (h : Wd P C ds all W n (pend ^^^ 2 ^ i) k ((d, undef) :: e) L)
    (hr : readyM all pend i = true := by kernel_rfl) (hal : aloneB all pend i = true := by kernel_rfl) (hcalm : calmOp op = false := by rfl) (hd : Nat.blt d C.n = true := by rfl) : Wd P C ds all W (n + 1) pend k e L := by
  intro hs hc w tm s a' hW
  refine ⟨⟨s.nil, hW⟩, (fun h => by rw [h i] at hr; cases hr), fun q hq => ?_⟩
  have h1 := List.all_eq_true.1 hal q (List.mem_range.2 (ready_lt hq))
  rw [hq] at h1
  obtain rfl : q = i := by simpa [Nat.beq_eq_true_eq] using h1
  unfold stepC
  simp only [hi, hcalm, Bool.false_eq_true, if_false]
  rw [if_neg (by rw [wanted_of hj a' ht rfl, hb]; decide)]
  exact h hs (hc.put hr) w _ s (a'.put hd undef) (Wat.fwd (readyM_spec hr).1 hW)

/-- Several that may come up now. -/
theorem wd_alt (is : List Nat) (hal : ((List.range all.size).all fun j => is.contains j || !readyM all pend j) = true)
    (hex : ∃ i ∈ is, readyM all pend i = true)
    (h : ∀ i ∈ is, ∀ w tm, noSelB all = true → Closed all pend → Sat C.G w L → Agree C.n e tm → W.ok pend w → readyM all pend i = true → stepC P all ds i tm w (AnyP P all ds (fun p w => Sat C.G w [] ∧ W.ok p w) (fun tm w => Run P C.f C.ro ds k tm w C.R) n (pend ^^^ 2 ^ i))) : Wd P C ds all W (n + 1) pend k e L := by
  intro hs hc w tm s a' hW
  obtain ⟨i0, hi0, hr0⟩ := hex
  refine ⟨⟨s.nil, hW⟩, (fun h => by rw [h i0] at hr0; cases hr0), fun j hj => ?_⟩
  have h1 := List.all_eq_true.1 hal j (List.mem_range.2 (ready_lt hj))
  rw [hj] at h1
  exact h j (by simpa using h1) w tm hs hc s a' hW hj
theorem alt_v {op : Op} {ty : TypeId} {pos : String} {after : Array Edge} {v : Value} (hi : all[i]? = some ⟨some d, op, ty, pos, after, none⟩)
    (hv : OpV P C op ty e L v) (h : Wd P C ds all W n (pend ^^^ 2 ^ i) k ((d, v) :: e) L) (hcalm : calmOp op = true := by rfl) (hd : Nat.blt d C.n = true := by rfl) :
    ∀ w tm, noSelB all = true → Closed all pend → Sat C.G w L → Agree C.n e tm → W.ok pend w → readyM all pend i = true → stepC P all ds i tm w (AnyP P all ds (fun p w => Sat C.G w [] ∧ W.ok p w) (fun tm w => Run P C.f C.ro ds k tm w C.R) n (pend ^^^ 2 ^ i)) := by
  intro w tm hs hc s a' hW hr
  unfold stepC
  simp only [hi, hcalm, if_true]
  exact ⟨v, .inl ⟨rfl, .inl (hv w tm ds pos after none (some d) s a')⟩, h hs (hc.put hr) w _ s (a'.put hd v) (Wat.fwd (readyM_spec hr).1 hW)⟩
theorem alt_l {op : Op} {ty : TypeId} {pos : String} {after : Array Edge} (hi : all[i]? = some ⟨some d, op, ty, pos, after, none⟩)
    (hv : OpW P C ⟨some d, op, ty, pos, after, none⟩ e L fun v L' => (∀ w, Sat C.G w L' → W.ok (pend ^^^ 2 ^ i) w) ∧ Wd P C ds all W n (pend ^^^ 2 ^ i) k ((d, v) :: e) L') (hcalm : calmOp op = false := by rfl) (hd : Nat.blt d C.n = true := by rfl) :
    ∀ w tm, noSelB all = true → Closed all pend → Sat C.G w L → Agree C.n e tm → W.ok pend w → readyM all pend i = true → stepC P all ds i tm w (AnyP P all ds (fun p w => Sat C.G w [] ∧ W.ok p w) (fun tm w => Run P C.f C.ro ds k tm w C.R) n (pend ^^^ 2 ^ i)) := by
  intro w tm hs hc s a' hW hr
  unfold stepC
  simp only [hi, hcalm, Bool.false_eq_true, if_false]
  simp only [Region.wanted, if_true]
  refine SemC.mono (hv w tm ds s a') ?_
  rintro v w' ⟨L', s', hWL, hK⟩
  exact hK hs (hc.put hr) w' _ s' (a'.put hd v) (hWL w' s')
theorem alt_l0 {op : Op} {ty : TypeId} {pos : String} {after : Array Edge} (hi : all[i]? = some ⟨none, op, ty, pos, after, none⟩)
    (hv : OpW P C ⟨none, op, ty, pos, after, none⟩ e L fun _ L' => (∀ w, Sat C.G w L' → W.ok (pend ^^^ 2 ^ i) w) ∧ Wd P C ds all W n (pend ^^^ 2 ^ i) k e L') (hcalm : calmOp op = false := by rfl) :
    ∀ w tm, noSelB all = true → Closed all pend → Sat C.G w L → Agree C.n e tm → W.ok pend w → readyM all pend i = true → stepC P all ds i tm w (AnyP P all ds (fun p w => Sat C.G w [] ∧ W.ok p w) (fun tm w => Run P C.f C.ro ds k tm w C.R) n (pend ^^^ 2 ^ i)) := by
  intro w tm hs hc s a' hW hr
  unfold stepC
  simp only [hi, hcalm, Bool.false_eq_true, if_false]
  simp only [Region.wanted, if_true]
  refine SemC.mono (hv w tm ds s a') ?_
  rintro v w' ⟨L', s', hWL, hK⟩
  exact hK hs (hc.put hr) w' _ s' a' (hWL w' s')
theorem wd_ent {M : List HP} (hl : Ent L M) (h : Wd P C ds all W n pend k e M) : Wd P C ds all W n pend k e L := fun hs hc w tm s a' hW => h hs hc w tm (hl.sat s) a' hW
theorem wd_nf {α : Type} {p : α → Prop} {l : α → List HP} (h : ∀ a, p a → Wd P C ds all W n pend k e (l a ++ L)) : Wd P C ds all W n pend k e (nf p l :: L) := by
  intro hn hc w tm s a' hW
  obtain ⟨h0, r, H, h1, h2, hs, ⟨a, hp, k1⟩, k2⟩ := s
  exact h a hp hn hc w tm ⟨h0, r, H, starL_append.2 ⟨h1, h2, hs, k1, k2⟩⟩ a' hW

theorem wd_split {t : Nat} {b : Bool} (ht : lk e t = some (.bool b)) (h1 : b = true → Wd P C ds all W n pend k ((t, .bool true) :: e) L) (h2 : b = false → Wd P C ds all W n pend k ((t, .bool false) :: e) L) : Wd P C ds all W n pend k e L := by
  intro hs hc w tm s a' hW
  have key : Agree C.n ((t, .bool b) :: e) tm := ⟨a'.size, fun x v hx => by
    simp only [lk] at hx
    by_cases hxt : Nat.beq t x = true
    · rw [hxt, cond_true] at hx; cases hx
      have := Nat.eq_of_beq_eq_true hxt
      subst this; exact a'.get _ _ ht
    · rw [Bool.eq_false_iff.2 hxt, cond_false] at hx; exact a'.get _ _ hx⟩
  cases b
  · exact h2 rfl hs hc w tm s key hW
  · exact h1 rfl hs hc w tm s key hW

/-! The order of the text, as the walks use it. -/

def isDef : Op → Bool
  | .defer _ => true
  | _ => false
theorem isDef_spec {op : Op} (h : isDef op = false) : ∀ c, op ≠ .defer c := by intro c e; subst e; cases h
variable {op : Op} {ty : TypeId} {pos : String} {after : Array Edge} {os : List Oper} {v : Value} {j t : Nat} {b want : Bool}
theorem wo_v (hv : OpV P C op ty e L v) (h : Wo P C ds all (i + 1) os k ((d, v) :: e) L) (hd : Nat.blt d C.n = true := by rfl) (hdef : isDef op = false := by rfl) : Wo P C ds all i (⟨some d, op, ty, pos, after, none⟩ :: os) k e L :=
  wo_op hd (isDef_spec hdef) (hv.w h)
theorem wo_w (h : OpW P C ⟨some d, op, ty, pos, after, none⟩ e L fun v L' => Wo P C ds all (i + 1) os k ((d, v) :: e) L') (hd : Nat.blt d C.n = true := by rfl) (hdef : isDef op = false := by rfl) : Wo P C ds all i (⟨some d, op, ty, pos, after, none⟩ :: os) k e L :=
  wo_op hd (isDef_spec hdef) h
theorem wo_w0 (h : OpW P C ⟨none, op, ty, pos, after, none⟩ e L fun _ L' => Wo P C ds all (i + 1) os k e L') (hdef : isDef op = false := by rfl) : Wo P C ds all i (⟨none, op, ty, pos, after, none⟩ :: os) k e L :=
  wo_op0 (isDef_spec hdef) h
theorem wo_gv (hv : OpV P C op ty e L v) (h : Wo P C ds all (i + 1) os k ((d, v) :: e) L) (hj : (all[j]?).bind (·.dst) = some t := by rfl) (ht : lk e t = some (.bool want) := by rfl) (hd : Nat.blt d C.n = true := by rfl) (hdef : isDef op = false := by rfl) : Wo P C ds all i (⟨some d, op, ty, pos, after, some (j, want)⟩ :: os) k e L :=
  wo_guardT hj ht hd (isDef_spec hdef) (hv.w h)
theorem wo_gw (h : OpW P C ⟨some d, op, ty, pos, after, some (j, want)⟩ e L fun v L' => Wo P C ds all (i + 1) os k ((d, v) :: e) L') (hj : (all[j]?).bind (·.dst) = some t := by rfl) (ht : lk e t = some (.bool want) := by rfl) (hd : Nat.blt d C.n = true := by rfl) (hdef : isDef op = false := by rfl) : Wo P C ds all i (⟨some d, op, ty, pos, after, some (j, want)⟩ :: os) k e L :=
  wo_guardT hj ht hd (isDef_spec hdef) h
theorem wo_gw0 (h : OpW P C ⟨none, op, ty, pos, after, some (j, want)⟩ e L fun _ L' => Wo P C ds all (i + 1) os k e L') (hj : (all[j]?).bind (·.dst) = some t := by rfl) (ht : lk e t = some (.bool want) := by rfl) (hdef : isDef op = false := by rfl) : Wo P C ds all i (⟨none, op, ty, pos, after, some (j, want)⟩ :: os) k e L :=
  wo_guardT0 hj ht (isDef_spec hdef) h
theorem wo_gF (h : Wo P C ds all (i + 1) os k ((d, undef) :: e) L) (hj : (all[j]?).bind (·.dst) = some t := by rfl) (ht : lk e t = some (.bool b) := by rfl) (hb : (b == want) = false := by rfl) (hd : Nat.blt d C.n = true := by rfl) : Wo P C ds all i (⟨some d, op, ty, pos, after, some (j, want)⟩ :: os) k e L :=
  wo_guardF hj ht hb hd h
theorem wo_gF0 (h : Wo P C ds all (i + 1) os k e L) (hj : (all[j]?).bind (·.dst) = some t := by rfl) (ht : lk e t = some (.bool b) := by rfl) (hb : (b == want) = false := by rfl) : Wo P C ds all i (⟨none, op, ty, pos, after, some (j, want)⟩ :: os) k e L :=
  wo_guardF0 hj ht hb h
end rules
end Go.Proofs.YtealmijbkebipaaGreatDoor
