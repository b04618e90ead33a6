/- Maps whose keys are numbers; rows that are built. Values of several cells, their cells named one by one. Slices that stay; bytes. -/
import Derived.Test.YtealmijbkebipaaGreatDoorSwAE
namespace Go.Proofs.YtealmijbkebipaaGreatDoor
open Go

def keyV (k : Int) : Value := .int .i64 k
abbrev MapL := List (Int × Value)
def mgetI (l : MapL) (k : Int) : Option (Nat × Value) :=
  match l with
  | [] => none
  | (k', v) :: l => if k = k' then some (0, v) else (mgetI l k).map fun p => (p.1 + 1, p.2)
def mget (l : MapL) (k : Int) : Option Value :=
  match l with
  | [] => none
  | (k', v) :: l => if k = k' then some v else mget l k
def mput (l : MapL) (k : Int) (v : Value) : MapL :=
  match l with
  | [] => [(k, v)]
  | (k', v') :: l => if k = k' then (k', v) :: l else (k', v') :: mput l k v
def mdel (l : MapL) (k : Int) : MapL :=
  match l with
  | [] => []
  | (k', v') :: l => if k = k' then l else (k', v') :: mdel l k

def kvE (e : MapEntry) : Value × Value := (e.key, e.val)
def kvL (p : Int × Value) : Value × Value := (keyV p.1, p.2)

structure MapOK (es : List MapEntry) (clock : Nat) (l : MapL) : Prop where
  rep : es.map kvE = l.map kvL
  born : ∀ e ∈ es, e.born < clock
  nodup : (es.map (·.born)).Nodup
  keys : (l.map Prod.fst).Nodup

/-- A map on the heap. -/
def mapH (r : Nat) (l : MapL) : HP := nf (fun p : Array MapEntry × Nat => MapOK p.1.toList p.2 l) fun p => [own r (.map p.1 p.2)]

theorem mget_I (l : MapL) (k : Int) : mget l k = (mgetI l k).map (·.2) := by
  induction l with
  | nil => rfl
  | cons p l ih =>
    obtain ⟨k', v⟩ := p
    simp only [mget, mgetI]
    split
    · rfl
    · rw [ih, Option.map_map]; rfl

theorem findNow_rep (k : Int) : ∀ (es : List MapEntry) (l : MapL) (i : Nat), es.map kvE = l.map kvL → Instr.findNow (.int .i64) (keyV k) es i = some ((mgetI l k).map fun p => (i + p.1, p.2))
  | [], [], i, _ => rfl
  | [], _ :: _, _, h => by simp at h
  | _ :: _, [], _, h => by simp at h
  | e :: es, (k', v) :: l, i, h => by
    simp only [List.map_cons, List.cons.injEq] at h
    obtain ⟨h1, h2⟩ := h
    have hk : e.key = keyV k' := congrArg Prod.fst h1
    have hv : e.val = v := congrArg Prod.snd h1
    have hs : Instr.sameNow (.int .i64) (keyV k) e.key = some (k == k') := by rw [hk]; simp [keyV, Instr.sameNow]
    unfold Instr.findNow
    rw [hs]
    by_cases he : k = k'
    · subst he; simp [mgetI, hv]
    · have : (k == k') = false := by simpa using he
      rw [this]
      simp only
      rw [findNow_rep k es l (i + 1) h2]
      simp only [mgetI, if_neg he, Option.map_map]
      congr 1
      cases mgetI l k <;> simp; omega

/-- The keys' type, the values' type, and what a value is at first. -/
structure TyMap (P : Program) (t : TypeId) (z : Value) : Prop where
  ex : ∃ kt et, P.underlying t = some (.map kt et) ∧ P.underlying kt = some (.int .i64) ∧ (P.info? et).bind (·.zero) = some z
def tyMapB (P : Program) (t : TypeId) (z : Value) : Prop :=
  ∃ kt et, TyUnd P t (.map kt et) ∧ TyUnd P kt (.int .i64) ∧ TyZero P et z

section
variable {P : Program} {C : Cx} {e : Env} {L M : List HP} {ty : TypeId} {pos : String} {after : Array Edge} {guard : Option (Nat × Bool)} {dst : Option Tmp} {K : Value → List HP → Prop}

theorem checkKey_succ {kt : TypeId} {em : Bool} {k : Int} (n : Nat) (hu : TyUnd P kt (.int .i64)) (w : World) : (Instr.checkKey em (n + 1) kt (keyV k)).run P w = .ok () w := by
  unfold Instr.checkKey
  simp [hu.run, keyV]
theorem checkKey_int {kt : TypeId} {em : Bool} {k : Int} (hu : TyUnd P kt (.int .i64)) (w : World) : (Instr.checkKey em 10000 kt (keyV k)).run P w = .ok () w := checkKey_succ 9999 hu w

theorem findKey_int {kt : TypeId} {k : Int} {es : List MapEntry} {l : MapL} (hu : TyUnd P kt (.int .i64)) (h : es.map kvE = l.map kvL) (w : World) : (Instr.findKey kt (keyV k) es).run P w = .ok (mgetI l k) w := by
  unfold Instr.findKey
  simp [hu.run, findNow_rep k es l 0 h]

theorem mapH_open {G : Gl} {w : World} {r : Nat} {l : MapL} (s : Sat G w (mapH r l :: L)) : ∃ es clock, MapOK es.toList clock l ∧ Sat G w (own r (.map es clock) :: L) := by
  obtain ⟨h0, r0, H, h1, h2, hs, ⟨⟨es, clock⟩, hp, k1, k2, ks, ko, _⟩, hL⟩ := s
  exact ⟨es, clock, hp, h0, r0, H, h1, h2, hs, ks.le1 _ _ ko, hL⟩
theorem mapH_close {G : Gl} {w : World} {r : Nat} {es : Array MapEntry} {clock : Nat} {l : MapL} (hm : MapOK es.toList clock l) (s : Sat G w (own r (.map es clock) :: L)) : Sat G w (mapH r l :: L) := by
  obtain ⟨h0, r0, H, h1, h2, hs, ha, hL⟩ := s
  exact ⟨h0, r0, H, h1, h2, hs, ⟨(es, clock), hm, h1, fun _ => none, fun b => .inl ⟨rfl, rfl⟩, ha, trivial⟩, hL⟩

theorem w_makeMapH {t : TypeId} (h : ∀ b, K (.map (some b)) (mapH b [] :: L)) : OpW P C ⟨dst, .makeMap t none, ty, pos, after, guard⟩ e L K := by
  intro w tm ds s a'
  refine SemC.value (w' := { w with heap := w.heap.push (.map #[] 0) }) (v := .map (some w.heap.size)) (by simp [execOp, Instr.makeMap]) ⟨_, ?_, h _⟩
  exact mapH_close ⟨rfl, by simp, by simp, by simp⟩ (s.push rfl rfl rfl rfl)

theorem v_lookup {t : TypeId} {z : Value} {x y : Operand} {r : Nat} {l : MapL} {k : Int} (hu : tyMapB P t z) (hx : ev e x = some (.map (some r))) (hy : ev e y = some (.int .i64 k)) (ht : Take (mapH r l) L M := by repeat constructor) :
    OpV P C (.lookup t x y false) ty e L ((mget l k).getD z) := fun w tm ds pos after guard dst s a' => by
  obtain ⟨kt, et, h1, h2, h3⟩ := hu
  obtain ⟨es, clock, hm, s'⟩ := mapH_open (ht.sat s)
  have hf := findKey_int (k := k) h2 hm.rep w
  have hc := checkKey_int (k := k) (em := es.isEmpty) h2 w
  simp only [keyV] at hf hc
  simp only [execOp, a'.ev hx, a'.ev hy]
  unfold Instr.lookup
  rw [mget_I]
  cases hq : mgetI l k <;> rw [hq] at hf <;> simp [h1.run, getObj, Sem.run, s'.own_get, hc, hf, h3.run]
theorem v_lookup2 {t : TypeId} {z : Value} {x y : Operand} {r : Nat} {l : MapL} {k : Int} (hu : tyMapB P t z) (hx : ev e x = some (.map (some r))) (hy : ev e y = some (.int .i64 k)) (ht : Take (mapH r l) L M := by repeat constructor) :
    OpV P C (.lookup t x y true) ty e L (.tuple #[(mget l k).getD z, .bool (mget l k).isSome]) := fun w tm ds pos after guard dst s a' => by
  obtain ⟨kt, et, h1, h2, h3⟩ := hu
  obtain ⟨es, clock, hm, s'⟩ := mapH_open (ht.sat s)
  have hf := findKey_int (k := k) h2 hm.rep w
  have hc := checkKey_int (k := k) (em := es.isEmpty) h2 w
  simp only [keyV] at hf hc
  simp only [execOp, a'.ev hx, a'.ev hy]
  unfold Instr.lookup
  rw [mget_I]
  cases hq : mgetI l k <;> rw [hq] at hf <;> simp [h1.run, getObj, Sem.run, s'.own_get, hc, hf, h3.run]

theorem mgetI_lt {l : MapL} {k : Int} {j : Nat} {v : Value} (h : mgetI l k = some (j, v)) : j < l.length := by
  induction l generalizing j with
  | nil => simp [mgetI] at h
  | cons p l ih =>
    obtain ⟨k', v'⟩ := p
    simp only [mgetI] at h
    split at h
    · simp at h; simp; omega
    · cases hq : mgetI l k with
      | none => rw [hq] at h; simp at h
      | some q => rw [hq] at h; obtain ⟨j', v''⟩ := q; simp at h; have := ih (j := j') (by rw [hq, h.2]); simp; omega

theorem put_found {k : Int} {v v0 : Value} : ∀ (l : MapL) (es : List MapEntry) (j : Nat), es.map kvE = l.map kvL → mgetI l k = some (j, v0) →
    (es.modify j fun e => { e with key := keyV k, val := v }).map kvE = (mput l k v).map kvL ∧ (es.modify j fun e => { e with key := keyV k, val := v }).map (·.born) = es.map (·.born) ∧ (mput l k v).map Prod.fst = l.map Prod.fst
  | [], _, _, _, h => by simp [mgetI] at h
  | _ :: _, [], _, h, _ => by simp at h
  | (k', v') :: l, e :: es, j, h, hg => by
    simp only [List.map_cons, List.cons.injEq] at h
    simp only [mgetI] at hg
    by_cases he : k = k'
    · subst he
      rw [if_pos rfl] at hg
      obtain ⟨rfl, rfl⟩ : 0 = j ∧ v' = v0 := by simpa using hg
      simp [mput, kvE, kvL]
      exact h.2
    · rw [if_neg he] at hg
      cases hq : mgetI l k with
      | none => rw [hq] at hg; simp at hg
      | some q =>
        rw [hq] at hg
        obtain ⟨j', v''⟩ := q
        obtain ⟨rfl, rfl⟩ : j' + 1 = j ∧ v'' = v0 := by simpa using hg
        have ih := put_found (v := v) l es j' h.2 hq
        simp [mput, if_neg he, h.1, ih]
theorem put_key {k : Int} {v0 : Value} : ∀ (l : MapL) (es : List MapEntry) (j : Nat), es.map kvE = l.map kvL → mgetI l k = some (j, v0) → ((es[j]?).map (·.key)).getD (keyV k) = keyV k
  | [], _, _, _, h => by simp [mgetI] at h
  | _ :: _, [], _, h, _ => by simp at h
  | (k', v') :: l, e :: es, j, h, hg => by
    simp only [List.map_cons, List.cons.injEq] at h
    simp only [mgetI] at hg
    by_cases he : k = k'
    · subst he
      rw [if_pos rfl] at hg
      obtain ⟨rfl, rfl⟩ : 0 = j ∧ v' = v0 := by simpa using hg
      have : e.key = keyV k := congrArg Prod.fst h.1
      simp [this]
    · rw [if_neg he] at hg
      cases hq : mgetI l k with
      | none => rw [hq] at hg; simp at hg
      | some q =>
        rw [hq] at hg
        obtain ⟨j', v''⟩ := q
        obtain ⟨rfl, rfl⟩ : j' + 1 = j ∧ v'' = v0 := by simpa using hg
        simpa using put_key l es j' h.2 hq
theorem put_new {k : Int} {v : Value} {l : MapL} (h : mgetI l k = none) : mput l k v = l ++ [(k, v)] ∧ k ∉ l.map Prod.fst := by
  induction l with
  | nil => simp [mput]
  | cons p l ih =>
    obtain ⟨k', v'⟩ := p
    simp only [mgetI] at h
    split at h
    · cases h
    · rename_i hne
      have := ih (by simpa using h)
      simp [mput, this.1, hne]
      simpa using this.2
theorem del_found {k : Int} {v0 : Value} : ∀ (l : MapL) (es : List MapEntry) (j : Nat), es.map kvE = l.map kvL → mgetI l k = some (j, v0) →
    (es.eraseIdx j).map kvE = (mdel l k).map kvL
  | [], _, _, _, h => by simp [mgetI] at h
  | _ :: _, [], _, h, _ => by simp at h
  | (k', v') :: l, e :: es, j, h, hg => by
    simp only [List.map_cons, List.cons.injEq] at h
    simp only [mgetI] at hg
    by_cases he : k = k'
    · subst he
      rw [if_pos rfl] at hg
      obtain ⟨rfl, rfl⟩ : 0 = j ∧ v' = v0 := by simpa using hg
      simp [mdel, h.2]
    · rw [if_neg he] at hg
      cases hq : mgetI l k with
      | none => rw [hq] at hg; simp at hg
      | some q =>
        rw [hq] at hg
        obtain ⟨j', v''⟩ := q
        obtain ⟨rfl, rfl⟩ : j' + 1 = j ∧ v'' = v0 := by simpa using hg
        have ih := del_found l es j' h.2 hq
        simp [mdel, if_neg he, h.1, ih]
theorem mdel_sub (l : MapL) (k : Int) : (mdel l k).Sublist l := by
  induction l with
  | nil => exact .slnil
  | cons p l ih =>
    obtain ⟨k', v'⟩ := p
    simp only [mdel]
    split
    · exact .cons _ (List.Sublist.refl _)
    · exact .cons_cons _ ih
theorem del_none {k : Int} {l : MapL} (h : mgetI l k = none) : mdel l k = l := by
  induction l with
  | nil => rfl
  | cons p l ih =>
    obtain ⟨k', v'⟩ := p
    simp only [mgetI] at h
    split at h
    · cases h
    · rename_i hne
      simp [mdel, if_neg hne, ih (by simpa using h)]

theorem w_mapUpdate {t : TypeId} {z : Value} {x y u : Operand} {r : Nat} {l : MapL} {k : Int} {v : Value} (hu : tyMapB P t z) (hx : ev e x = some (.map (some r))) (hy : ev e y = some (.int .i64 k)) (hv : ev e u = some v) (ht : Take (mapH r l) L M)
    (h : K undef (mapH r (mput l k v) :: M)) : OpW P C ⟨dst, .mapUpdate t x y u, ty, pos, after, guard⟩ e L K := by
  intro w tm ds s a'
  obtain ⟨kt, et, h1, h2, h3⟩ := hu
  obtain ⟨es, clock, hm, s'⟩ := mapH_open (ht.sat s)
  have hf := findKey_int (k := k) h2 hm.rep w
  have hc := checkKey_int (k := k) (em := false) h2 w
  have hg := s'.own_get
  simp only [keyV] at hf hc
  have hlt : r < w.heap.size := (Array.getElem?_eq_some_iff.1 hg).1
  have hset : ∀ o', Sat C.G { w with heap := w.heap.setIfInBounds r o' } (own r o' :: M) := fun o' =>
    s'.own_set (w' := { w with heap := w.heap.setIfInBounds r o' }) rfl rfl rfl (by simp [hlt]) (fun c hc => by simp [Array.getElem?_setIfInBounds_ne (Ne.symm hc)])
  cases hq : mgetI l k with
  | none =>
    rw [hq] at hf
    refine SemC.skip (w' := { w with heap := w.heap.setIfInBounds r (.map (es.push { key := keyV k, val := v, born := clock }) (clock + 1)) }) ?_ ⟨_, ?_, h⟩
    · simp only [execOp, a'.ev hx, a'.ev hy, a'.ev hv]
      unfold Instr.mapUpdate
      simp [h1.run, getObj, setObj, Sem.run, hg, hc, hf, keyV]
    · refine mapH_close ?_ (hset _)
      obtain ⟨q1, q2⟩ := put_new (v := v) hq
      refine ⟨by rw [q1]; simp [hm.rep, kvE, kvL], fun e he => ?_, ?_, by
        rw [q1, List.map_append, List.nodup_append]
        refine ⟨hm.keys, by simp, fun a ha b hb => ?_⟩
        simp at hb; subst hb
        exact fun e => q2 (e ▸ ha)⟩
      · simp at he
        rcases he with he | rfl
        · exact Nat.lt_succ_of_lt (hm.born e (by simpa using he))
        · exact Nat.lt_succ_self _
      · rw [Array.toList_push, List.map_append, List.nodup_append]
        refine ⟨hm.nodup, by simp, fun a ha b hb => ?_⟩
        simp at hb; subst hb
        obtain ⟨e', he', hb⟩ := List.mem_map.1 ha
        rw [← hb]; exact Nat.ne_of_lt (hm.born e' he')
  | some q =>
    obtain ⟨j, v0⟩ := q
    rw [hq] at hf
    have hjl := mgetI_lt hq
    have hlen : es.size = l.length := by have := congrArg List.length hm.rep; simpa using this
    obtain ⟨q1, q2, q3⟩ := put_found (v := v) l es.toList j hm.rep hq
    have hkey : ((es[j]?).map (·.key)).getD (keyV k) = keyV k := by
      have := put_key l es.toList j hm.rep hq
      simpa using this
    have hstay : (Instr.keyThatStays (keyV k) (keyV k)).run P w = .ok (keyV k) w := by simp [Instr.keyThatStays, Instr.sameBits, keyV]
    refine SemC.skip (w' := { w with heap := w.heap.setIfInBounds r (.map (es.modify j fun e => { e with key := keyV k, val := v }) clock) }) ?_ ⟨_, ?_, h⟩
    · simp only [execOp, a'.ev hx, a'.ev hy, a'.ev hv]
      unfold Instr.mapUpdate
      simp only [keyV] at hkey hstay
      simp [h1.run, getObj, setObj, Sem.run, hg, hc, hf, hkey, hstay, keyV]
    · refine mapH_close ?_ (hset _)
      have hmod : (es.modify j fun e => { e with key := keyV k, val := v }).toList = es.toList.modify j fun e => { e with key := keyV k, val := v } := by simp
      rw [hmod]
      refine ⟨q1, ?_, by rw [q2]; exact hm.nodup, by rw [q3]; exact hm.keys⟩
      intro e he
      have : e.born ∈ (es.toList.modify j fun e => { e with key := keyV k, val := v }).map (·.born) := List.mem_map_of_mem he
      rw [q2] at this
      obtain ⟨e', he', hb⟩ := List.mem_map.1 this
      rw [← hb]; exact hm.born e' he'

theorem w_delete {t t2 : TypeId} {z : Value} {x y : Operand} {r : Nat} {l : MapL} {k : Int} (hu : tyMapB P t z) (hx : ev e x = some (.map (some r))) (hy : ev e y = some (.int .i64 k)) (ht : Take (mapH r l) L M)
    (h : K (.tuple #[]) (mapH r (mdel l k) :: M)) : OpW P C ⟨dst, .call ⟨.builtin .delete, #[x, y], #[t, t2]⟩, ty, pos, after, guard⟩ e L K := by
  intro w tm ds s a'
  obtain ⟨kt, et, h1, h2, h3⟩ := hu
  obtain ⟨es, clock, hm, s'⟩ := mapH_open (ht.sat s)
  have hf := findKey_int (k := k) h2 hm.rep w
  have hc := checkKey_int (k := k) (em := es.isEmpty) h2 w
  have hg := s'.own_get
  simp only [keyV] at hf hc
  have hlt : r < w.heap.size := (Array.getElem?_eq_some_iff.1 hg).1
  have hset : ∀ o', Sat C.G { w with heap := w.heap.setIfInBounds r o' } (own r o' :: M) := fun o' =>
    s'.own_set (w' := { w with heap := w.heap.setIfInBounds r o' }) rfl rfl rfl (by simp [hlt]) (fun c hc => by simp [Array.getElem?_setIfInBounds_ne (Ne.symm hc)])
  cases hq : mgetI l k with
  | none =>
    rw [hq] at hf
    refine SemC.value (w' := { w with heap := w.heap.setIfInBounds r (.map es clock) }) (v := .tuple #[]) ?_ ⟨_, ?_, h⟩
    · simp [execOp, resolve, a'.ev hx, a'.ev hy, invoke, builtin, Builtin.delete_, h1.run, getObj, setObj, Sem.run, hg, hc, hf]
    · refine mapH_close ?_ (hset _)
      rw [del_none hq]; exact hm
  | some q =>
    obtain ⟨j, v0⟩ := q
    rw [hq] at hf
    refine SemC.value (w' := { w with heap := w.heap.setIfInBounds r (.map (es.eraseIdxIfInBounds j) clock) }) (v := .tuple #[]) ?_ ⟨_, ?_, h⟩
    · simp [execOp, resolve, a'.ev hx, a'.ev hy, invoke, builtin, Builtin.delete_, h1.run, getObj, setObj, Sem.run, hg, hc, hf]
    · refine mapH_close ?_ (hset _)
      have hd := del_found l es.toList j hm.rep hq
      have he : (es.eraseIdxIfInBounds j).toList = es.toList.eraseIdx j := by simp
      rw [he]
      refine ⟨hd, fun e he => hm.born e (List.mem_of_mem_eraseIdx he), ?_, ?_⟩
      · exact hm.nodup.sublist ((List.eraseIdx_sublist _ _).map _)
      · exact hm.keys.sublist ((mdel_sub l k).map _)

theorem v_lenM {x : Operand} {t : TypeId} {z : Value} {r : Nat} {l : MapL} (hu : tyMapB P t z) (hx : ev e x = some (.map (some r))) (ht : Take (mapH r l) L M := by repeat constructor) :
    OpV P C (.call ⟨.builtin .len, #[x], #[t]⟩) ty e L (.int .i64 l.length) := fun w tm ds pos after guard dst s a' => by
  obtain ⟨kt, et, h1, h2, h3⟩ := hu
  obtain ⟨es, clock, hm, s'⟩ := mapH_open (ht.sat s)
  have hlen : es.size = l.length := by have := congrArg List.length hm.rep; simpa using this
  simp [execOp, resolve, a'.ev hx, invoke, builtin, Builtin.len_, h1.run, goInt, getObj, Sem.run, s'.own_get, hlen]


/-! Going through a map. -/

/-- An iterator, and the map that it goes through: these keys are done. -/
def iterH (it m : Nat) (l : MapL) (done : List Int) : HP :=
  nf (fun p : Array MapEntry × Nat × List MapEntry => MapOK p.1.toList p.2.1 l ∧ (∀ e ∈ p.2.2, e ∈ p.1.toList) ∧ p.2.2.map (·.key) = done.map keyV)
    fun p => [own m (.map p.1 p.2.1), own it (.mapIter (some m) p.2.1 (p.2.2.map (·.born)).toArray p.2.1)]

theorem iterH_open {G : Gl} {w : World} {it m : Nat} {l : MapL} {done : List Int} (s : Sat G w (iterH it m l done :: L)) :
    ∃ (es : Array MapEntry) (clock : Nat) (D : List MapEntry), MapOK es.toList clock l ∧ (∀ e ∈ D, e ∈ es.toList) ∧ D.map (·.key) = done.map keyV ∧ Sat G w (own it (.mapIter (some m) clock (D.map (·.born)).toArray clock) :: own m (.map es clock) :: L) := by
  obtain ⟨h0, r0, H, hl⟩ := s
  obtain ⟨h1, h2, hs, ⟨⟨es, clock, D⟩, ⟨hp1, hp2, hp3⟩, k⟩, hL⟩ := hl
  refine ⟨es, clock, D, hp1, hp2, hp3, ?_⟩
  have s1 : Sat G w ([own m (.map es clock), own it (.mapIter (some m) clock (D.map (·.born)).toArray clock)] ++ L) := ⟨h0, r0, H, starL_append.2 ⟨h1, h2, hs, k, hL⟩⟩
  exact Sat.swap s1
theorem iterH_close {G : Gl} {w : World} {it m : Nat} {l : MapL} {done : List Int} {es : Array MapEntry} {clock : Nat} {D : List MapEntry} (hp1 : MapOK es.toList clock l) (hp2 : ∀ e ∈ D, e ∈ es.toList) (hp3 : D.map (·.key) = done.map keyV)
    (s : Sat G w (own it (.mapIter (some m) clock (D.map (·.born)).toArray clock) :: own m (.map es clock) :: L)) : Sat G w (iterH it m l done :: L) := by
  have s1 : Sat G w ([own m (.map es clock), own it (.mapIter (some m) clock (D.map (·.born)).toArray clock)] ++ L) := Sat.swap s
  obtain ⟨h0, r0, H, hl⟩ := s1
  obtain ⟨h1, h2, hs, k, hL⟩ := starL_append.1 hl
  exact ⟨h0, r0, H, h1, h2, hs, ⟨⟨es, clock, D⟩, ⟨hp1, hp2, hp3⟩, k⟩, hL⟩

theorem w_range {t : TypeId} {z : Value} {x : Operand} {m : Nat} {l : MapL} (hu : tyMapB P t z) (hx : ev e x = some (.map (some m))) (ht : Take (mapH m l) L M)
    (h : ∀ it, K (.pointer (some ⟨it, 0, none⟩)) (iterH it m l [] :: M)) : OpW P C ⟨dst, .range t x, ty, pos, after, guard⟩ e L K := by
  intro w tm ds s a'
  obtain ⟨kt, et, h1, h2, h3⟩ := hu
  obtain ⟨es, clock, hm, s'⟩ := mapH_open (ht.sat s)
  have hg := s'.own_get
  refine SemC.value (w' := { w with heap := w.heap.push (.mapIter (some m) clock #[] clock) }) (v := .pointer (some ⟨w.heap.size, 0, none⟩)) ?_ ⟨_, ?_, h w.heap.size⟩
  · simp [execOp, a'.ev hx, Instr.range, h1.run, getObj, newObj, Sem.run, hg]
  · exact iterH_close (D := []) hm (by simp) rfl (s'.push rfl rfl rfl rfl)

theorem kvE_key {es : List MapEntry} {l : MapL} (h : es.map kvE = l.map kvL) {e : MapEntry} (he : e ∈ es) : ∃ k v, (k, v) ∈ l ∧ e.key = keyV k ∧ e.val = v := by
  have : kvE e ∈ l.map kvL := h ▸ List.mem_map_of_mem he
  obtain ⟨⟨k, v⟩, hp, hq⟩ := List.mem_map.1 this
  exact ⟨k, v, hp, (congrArg Prod.fst hq).symm, (congrArg Prod.snd hq).symm⟩
theorem kvL_ent {es : List MapEntry} {l : MapL} (h : es.map kvE = l.map kvL) {k : Int} {v : Value} (hp : (k, v) ∈ l) : ∃ e ∈ es, e.key = keyV k ∧ e.val = v := by
  have : kvL (k, v) ∈ es.map kvE := h ▸ List.mem_map_of_mem hp
  obtain ⟨e, he, hq⟩ := List.mem_map.1 this
  exact ⟨e, he, congrArg Prod.fst hq, congrArg Prod.snd hq⟩
theorem keyV_inj {a b : Int} (h : keyV a = keyV b) : a = b := by simpa [keyV] using h
theorem born_inj {es : List MapEntry} (hn : (es.map (·.born)).Nodup) {a b : MapEntry} (ha : a ∈ es) (hb : b ∈ es) (h : a.born = b.born) : a = b := by
  induction es with
  | nil => cases ha
  | cons e es ih =>
    rw [List.map_cons, List.nodup_cons] at hn
    rcases List.mem_cons.1 ha with rfl | ha' <;> rcases List.mem_cons.1 hb with rfl | hb'
    · rfl
    · exact absurd (List.mem_map.2 ⟨b, hb', h.symm⟩) hn.1
    · exact absurd (List.mem_map.2 ⟨a, ha', h⟩) hn.1
    · exact ih hn.2 ha' hb'
theorem keys_inj {es : List MapEntry} {l : MapL} (h : es.map kvE = l.map kvL) (hn : (l.map Prod.fst).Nodup) {a b : MapEntry} (ha : a ∈ es) (hb : b ∈ es) (hk : a.key = b.key) : a = b := by
  have hn2 : (es.map (·.key)).Nodup := by
    have e1 : es.map (·.key) = (l.map Prod.fst).map keyV := by
      have := congrArg (List.map Prod.fst) h
      simpa [Function.comp_def, kvE, kvL] using this
    rw [e1]
    exact List.Pairwise.map keyV (fun a b hab e => hab (keyV_inj e)) hn
  induction es generalizing l with
  | nil => cases ha
  | cons e es ih =>
    cases l with
    | nil => simp at h
    | cons p l =>
      simp only [List.map_cons, List.cons.injEq] at h
      rw [List.map_cons, List.nodup_cons] at hn2
      rw [List.map_cons, List.nodup_cons] at hn
      rcases List.mem_cons.1 ha with rfl | ha' <;> rcases List.mem_cons.1 hb with rfl | hb'
      · rfl
      · exact absurd (List.mem_map.2 ⟨b, hb', hk.symm⟩) hn2.1
      · exact absurd (List.mem_map.2 ⟨a, ha', hk⟩) hn2.1
      · exact ih h.2 hn.2 ha' hb' hn2.2

theorem v_entry {x : Operand} {it m : Nat} {l : MapL} {done : List Int} {k : Int} {v : Value} (hx : ev e x = some (.pointer (some ⟨it, 0, none⟩))) (hkv : (k, v) ∈ l) (ht : Take (iterH it m l (done ++ [k])) L M := by repeat constructor) :
    OpV P C (.entry x) ty e L (.tuple #[.int .i64 k, v]) := fun w tm ds pos after guard dst s a' => by
  obtain ⟨es, clock, D, hm, hD, hk, s'⟩ := iterH_open (ht.sat s)
  have hg := s'.own_get
  have hg2 := (Sat.swap s').own_get
  obtain ⟨D', d, rfl⟩ : ∃ D' d, D = D' ++ [d] := by
    rcases List.eq_nil_or_concat D with rfl | ⟨D', d, rfl⟩
    · simp at hk
    · exact ⟨D', d, by simp⟩
  rw [List.map_append, List.map_append] at hk
  have hk2 := List.append_inj_right' hk rfl
  simp only [List.map_cons, List.map_nil, List.cons.injEq, and_true] at hk2
  have hd : d ∈ es.toList := hD d (by simp)
  obtain ⟨e', he', q1, q2⟩ := kvL_ent hm.rep hkv
  have : d = e' := keys_inj hm.rep hm.keys hd he' (by rw [hk2, q1])
  subst this
  have hfind : es.find? (fun e => e.born == d.born) = some d := by
    rw [← Array.find?_toList]
    have hp : ∀ (l : List MapEntry), d ∈ l → (l.map (·.born)).Nodup → l.find? (fun e => e.born == d.born) = some d := by
      intro l
      induction l with
      | nil => intro h; cases h
      | cons a l ih =>
        intro h hn
        rw [List.map_cons, List.nodup_cons] at hn
        rcases List.mem_cons.1 h with rfl | h
        · simp
        · have : a.born ≠ d.born := fun e => hn.1 (List.mem_map.2 ⟨d, h, e.symm⟩)
          rw [List.find?_cons_of_neg (by simpa using this)]
          exact ih h hn.2
    exact hp _ hd hm.nodup
  have hb : ((D' ++ [d]).map (·.born)).toArray.back? = some d.born := by simp
  simp only [execOp, a'.ev hx]
  unfold Instr.entry
  simp only [getObj, Sem.run, Sem.run_bind, hg, Result.andThen_ok, hb, hg2]
  simp [hfind, hk2, q2, keyV]

theorem w_next {x : Operand} {it m : Nat} {l : MapL} {done : List Int} (hx : ev e x = some (.pointer (some ⟨it, 0, none⟩))) (ht : Take (iterH it m l done) L M)
    (h0 : (∀ k v, (k, v) ∈ l → k ∈ done) → K (.tuple #[.bool false]) (iterH it m l done :: M))
    (h1 : ∀ k v, (k, v) ∈ l → k ∉ done → K (.tuple #[.bool true, .int .i64 k, v]) (iterH it m l (done ++ [k]) :: M)) : OpW P C ⟨dst, .next x false, ty, pos, after, guard⟩ e L K := by
  intro w tm ds s a'
  obtain ⟨es, clock, D, hm, hD, hk, s'⟩ := iterH_open (ht.sat s)
  have hg := s'.own_get
  have hg2 := (Sat.swap s').own_get
  have hno : (!((D.map (·.born)).toArray.isEmpty) && !es.isEmpty && es.all (fun e => decide (e.born ≥ clock))) = false := by
    by_cases he : es.isEmpty = true
    · simp [he]
    · have : es.all (fun e => decide (e.born ≥ clock)) = false := by
        rw [Bool.eq_false_iff]
        intro hall
        rw [Array.all_eq_true'] at hall
        have hne : es.toList ≠ [] := by simpa using he
        obtain ⟨a, as, hes⟩ := List.exists_cons_of_ne_nil hne
        have hmem : a ∈ es.toList := by rw [hes]; simp
        have := hall a (by simpa using hmem)
        have := hm.born a hmem
        simp at *; omega
      simp [this]
  have hold : ∀ (q : MapEntry → Bool), (es.filter q).filter (fun e => decide (e.born < clock)) = es.filter q := by
    intro q
    rw [Array.filter_eq_self.2]
    intro a ha
    exact decide_eq_true (hm.born a (by simpa using (Array.mem_filter.1 ha).1))
  have hnew : ∀ (q : MapEntry → Bool), (es.filter q).filter (fun e => decide (e.born ≥ clock)) = #[] := by
    intro q
    rw [Array.filter_eq_empty_iff]
    intro a ha
    have := hm.born a (by simpa using (Array.mem_filter.1 ha).1)
    simp; omega
  have hch : ∀ n, 0 < n → ∃ i w1, i < n ∧ w1.heap = w.heap ∧ w1.os = w.os ∧ w1.output = w.output ∧ w1.tape = w.tape ∧ (choose (.mapNext n)).run P w = .ok i w1 := by
    intro n hn
    by_cases hf : n ≤ 1
    · exact ⟨0, w, hn, rfl, rfl, rfl, rfl, by simp [choose, Sem.run, Question.forced, hf]⟩
    · exact ⟨w.tape w.drawn (.mapNext n) % n, { w with drawn := w.drawn + 1 }, Nat.mod_lt _ hn, rfl, rfl, rfl, rfl, by simp [choose, Sem.run, Question.forced, hf, Question.cut]⟩
  generalize hlf : es.filter (fun e => !((D.map (·.born)).toArray).contains e.born) = left at *
  have hlm : ∀ a, a ∈ left ↔ a ∈ es.toList ∧ a.born ∉ D.map (·.born) := by
    intro a
    rw [← hlf, Array.mem_filter]
    simp
  obtain ⟨i, w1, hi, e1, e2, e3, e4, hrun⟩ := hch ((if left.isEmpty then #[none] else #[]) ++ (left ++ #[]).map some).size (by
    by_cases hE : left.isEmpty = true
    · rw [if_pos hE, Array.size_append]; show 0 < 1 + _; omega
    · rw [Array.isEmpty_iff_size_eq_zero] at hE
      rw [Array.size_append, Array.size_map, Array.size_append]; omega)
  have hold' := hold (fun e => !((D.map (·.born)).toArray).contains e.born)
  have hnew' := hnew (fun e => !((D.map (·.born)).toArray).contains e.born)
  rw [hlf] at hold' hnew'
  cases hc : ((if left.isEmpty then #[none] else #[]) ++ (left ++ #[]).map some)[i]? with
  | none => rw [Array.getElem?_eq_none_iff] at hc; omega
  | some c =>
    have hcm : c ∈ ((if left.isEmpty then #[none] else #[]) ++ (left ++ #[]).map some) := Array.mem_of_getElem? hc
    have hout : (Instr.next (.pointer (some ⟨it, 0, none⟩)) false ty).run P w = (match c with
        | some (e : MapEntry) => (do setObj it (.mapIter (some m) clock (((D.map (fun d : MapEntry => d.born)).toArray).push e.born) clock); pure (.tuple #[.bool true, e.key, e.val]) : Sem Value)
        | none => pure (.tuple #[.bool false])).run P w1 := by
      unfold Instr.next
      simp only [getObj, Sem.run, Sem.run_bind, hg, hg2, Result.andThen_ok, hno, hlf, hold', hnew', hrun, hc, Bool.false_eq_true, if_false]
      cases c <;> rfl
    have s1 : Sat C.G w1 (own it (.mapIter (some m) clock (D.map (·.born)).toArray clock) :: own m (.map es clock) :: M) := s'.same e2 e3 e4 e1
    cases c with
    | none =>
      refine SemC.value (w' := w1) (v := .tuple #[.bool false]) ?_ ⟨_, iterH_close hm hD hk s1, h0 fun k v hkv => ?_⟩
      · simp only [execOp, a'.ev hx, Sem.run_bind, hout, Sem.run_pure, Result.andThen_ok]
      · have hle : left.isEmpty = true := by
          cases hE : left.isEmpty with
          | true => rfl
          | false => rw [hE] at hcm; simp at hcm
        obtain ⟨a, ha, q1, q2⟩ := kvL_ent hm.rep hkv
        have hb : a.born ∈ D.map (·.born) := by
          rcases Classical.em (a.born ∈ D.map (·.born)) with h | h
          · exact h
          · have := (hlm a).2 ⟨ha, h⟩
            rw [Array.isEmpty_iff.1 hle] at this
            exact absurd this (by simp)
        obtain ⟨d, hd, hdb⟩ := List.mem_map.1 hb
        have : d = a := born_inj hm.nodup (hD d hd) ha hdb
        subst this
        have : d.key ∈ done.map keyV := hk ▸ List.mem_map_of_mem hd
        rw [q1] at this
        obtain ⟨k', hk', hkk⟩ := List.mem_map.1 this
        exact keyV_inj hkk ▸ hk'
    | some a =>
      have ha : a ∈ left := by
        cases hE : left.isEmpty with
        | true => rw [hE] at hcm; simpa using hcm
        | false => rw [hE] at hcm; simpa using hcm
      obtain ⟨ha1, ha2⟩ := (hlm a).1 ha
      obtain ⟨k, v, hkv, q1, q2⟩ := kvE_key hm.rep ha1
      have hg1 := s1.own_get
      have hlt : it < w1.heap.size := (Array.getElem?_eq_some_iff.1 hg1).1
      refine SemC.value (w' := { w1 with heap := w1.heap.setIfInBounds it (.mapIter (some m) clock (((D.map (·.born)).toArray).push a.born) clock) }) (v := .tuple #[.bool true, .int .i64 k, v]) ?_ ⟨_, iterH_close (D := D ++ [a]) hm (fun e he => ?_) (by rw [List.map_append, List.map_append, hk]; simp [q1]) (?_ : Sat _ _ (own it _ :: own m (.map es clock) :: M)), h1 k v hkv fun hkd => ?_⟩
      · simp [execOp, a'.ev hx, hout, setObj, Sem.run, hg1, q1, q2, keyV]
      · rcases List.mem_append.1 he with he | he
        · exact hD e he
        · simp at he; subst he; exact ha1
      · refine s1.own_set rfl rfl rfl ?_ (fun c hc => by simp [Array.getElem?_setIfInBounds_ne (Ne.symm hc)])
        simp [hlt]
      · have : keyV k ∈ D.map (·.key) := by rw [hk]; exact List.mem_map_of_mem hkd
        obtain ⟨d, hd, hdk⟩ := List.mem_map.1 this
        have : d = a := keys_inj hm.rep hm.keys (hD d hd) ha1 (by rw [hdk, q1])
        subst this
        exact ha2 (List.mem_map_of_mem hd)

/-- Behind the loop. -/
theorem ent_iter {it m : Nat} {l : MapL} {done : List Int} (h : Ent (mapH m l :: L) M) : Ent (iterH it m l done :: L) M := by
  refine Ent.trans (Ent.open_ fun ⟨es, clock, D⟩ ⟨hp1, _, _⟩ => ?_) h
  exact ent_nf (l := fun p : Array MapEntry × Nat => [own m (.map p.1 p.2)]) (es, clock) hp1 Ent.drop

/-! Rows that are built: of nothing, of one. -/
theorem w_buildSlice0 {t el n : Nat} (hu : TyUnd P t (.slice el)) (hs : TySize P el n) (h : ∀ b, K (.slice (some ⟨b, 0, none⟩) 0 0) (blk b [] el :: L)) : OpW P C ⟨dst, .buildSlice t 0 #[], ty, pos, after, guard⟩ e L K := by
  refine w_new (obj := .cells #[] el) (f := fun b => .slice (some ⟨b, 0, none⟩) 0 0) (fun w tm ds s a' => ⟨{ w with heap := w.heap.push (.cells #[] el) }, ?_, rfl, rfl, rfl, rfl⟩) h
  have h0 : Array.range 0 = #[] := rfl
  simp [execOp, Instr.buildSlice, hu.run, hs.run, Instr.fill, newRow, h0]
theorem w_buildSlice1 {t el n : Nat} {z : Value} {x : Operand} {v : Value} {us : List Value} (hu : TyUnd P t (.slice el)) (hs : TySize P el n) (hz : TyZero P el z) (hx : ev e x = some v) (hv : cellsL v = us) (hn : Nat.beq us.length n = true) (hn0 : (Nat.ble 1 n && Nat.ble n 16777216) = true)
    (h : ∀ b, K (.slice (some ⟨b, 0, none⟩) 1 1) (blk b us el :: L)) : OpW P C ⟨dst, .buildSlice t 1 #[(0, x)], ty, pos, after, guard⟩ e L K := by
  have hlen : us.length = n := Nat.eq_of_beq_eq_true hn
  rw [Bool.and_eq_true] at hn0
  have hle : n ≤ 16777216 := Nat.le_of_ble_eq_true hn0.2
  have hle1 : 1 ≤ n := Nat.le_of_ble_eq_true hn0.1
  have hc : v.cells = us.toArray := by rw [← hv, ← cells_toList]
  refine w_new (obj := .cells us.toArray el) (f := fun b => .slice (some ⟨b, 0, none⟩) 1 1) (fun w tm ds s a' => ⟨{ w with heap := w.heap.push (.cells us.toArray el) }, ?_, rfl, rfl, rfl, rfl⟩) h
  have hf : ∀ cs : Array Value, cs.size = n → Instr.fill (fun i => some (i * n, n)) cs [(0, v)] = some us.toArray := by
    intro cs hcs
    have h3 := setRange 0 us 0 cs.toList (by simp; omega)
    have h4 : us.toArray.zipIdx.foldl (fun (cs : Array Value) (c, j) => cs.setIfInBounds (0 + j) c) cs = us.toArray := by
      rw [← Array.foldl_toList]
      simp only [Array.toList_zipIdx]
      rw [show cs = cs.toList.toArray from by simp, h3]
      congr 1
      simp; omega
    simp only [Instr.fill, hc, Nat.zero_mul, List.size_toArray, hlen, ne_eq, not_true_eq_false, decide_false, Bool.false_or, Nat.zero_add, hcs, Nat.lt_irrefl, gt_iff_lt]
    simpa using h4
  simp only [execOp, Instr.buildSlice, Sem.run_bind, hu.run, hs.run, Result.andThen_ok, Nat.one_mul]
  rw [if_neg (by omega)]
  rw [if_neg (by omega)]
  have hf' := hf ((Array.range n).map (z.cells[· % z.cells.size]!)) (by simp)
  have hp : ((#[(0, x)] : Array (Nat × Operand)).map fun (i, x) => (i, (⟨tm, ds⟩ : Act).eval x)).toList = [(0, v)] := by simp [a'.ev hx]
  simp only [Sem.run_bind, Sem.run_pure, hz.run, Result.andThen_ok, hp, hf']
  simp [newRow]
end

theorem w_makeSliceN {P : Program} {C : Cx} {e : Env} {L : List HP} {ty : TypeId} {pos : String} {after : Array Edge} {guard : Option (Nat × Bool)} {dst : Option Tmp} {K : Value → List HP → Prop}
    {t el bytes N : Nat} {x y : Operand} {k1 k2 : IntKind} {n c : Int} {z : Value} (hu : TyUnd P t (.slice el)) (hb : (P.info? el).map (·.bytes) = some bytes) (hs : TySize P el 1) (hz : TyZero P el z) (hzs : cellsL z = [z]) (hx : ev e x = some (.int k1 n)) (hy : ev e y = some (.int k2 c))
    (hn : n = N) (hc : c = N) (h3 : bytes * N ≤ 281474976710656 ∧ N ≤ 281474976710656) (h : ∀ b, K (.slice (some ⟨b, 0, none⟩) N N) (blk b (List.replicate N z) el :: L)) :
    OpW P C ⟨dst, .makeSlice t x y, ty, pos, after, guard⟩ e L K := by
  subst hn; subst hc
  refine w_makeSlice hu hb hs hz (by rw [hzs]; rfl) hx hy (by omega) (by omega) (by have h := Int.ofNat_le.2 h3.1; rw [Int.natCast_mul] at h; exact h) (by have := h3.2; omega) fun b => ?_
  rw [Int.toNat_natCast, hzs]
  have : (List.replicate N [z]).flatten = List.replicate N z := by
    clear hx hy h3 h
    induction N with
    | zero => rfl
    | succ N ih => rw [List.replicate_succ, List.replicate_succ, List.flatten_cons, ih]; rfl
  rw [this]; exact h b

theorem FvSpec.nf {P : Program} {fv : Value} {args : Array Value} {β : Type} {p : β → Prop} {l : β → List HP} {α : Type} {ret : α → Value} {fact : α → Prop} {Post : α → List HP → List HP} (h : ∀ a, p a → FvSpec P fv args (l a) ret fact Post) : FvSpec P fv args [nf p l] ret fact Post := by
  intro G w R s
  obtain ⟨h0, r, H, h1, h2, hs, ⟨a, hp, k1⟩, k2⟩ := s
  exact h a hp G w R ⟨h0, r, H, starL_append.2 ⟨h1, h2, hs, k1, k2⟩⟩
theorem ent_oslNil {L M : List HP} {size : Nat} {T : TypeId} (h : Ent L M) : Ent L (osl nilSV [] size T :: M) :=
  h.trans (Ent.close (0, []) ⟨(Nat.zero_mul _).symm, Nat.le_refl _, Nat.zero_le _, .inl ⟨rfl, rfl⟩⟩ .nil)
/-- Nothing holds it. -/
def noH : HP := nf (fun _ : Unit => False) (fun _ => [])
theorem wk_no {P : Program} {C : Cx} {ds : List Deferred} {k : List Item} {e : Env} {L : List HP} : Wk P C ds k e (noH :: L) := wk_nf fun _ h => h.elim

end Go.Proofs.YtealmijbkebipaaGreatDoor

namespace Go.Proofs.YtealmijbkebipaaGreatDoor
open Go

/-- So many of a row's first cells. -/
inductive TakeN : Nat → List Value → List Value → Prop
  | zero {l : List Value} : TakeN 0 l []
  | succ {n : Nat} {a : Value} {l us : List Value} : TakeN n l us → TakeN (n + 1) (a :: l) (a :: us)
/-- Some cells from a place on. -/
inductive PartN : Nat → Nat → List Value → List Value → Prop
  | here {n : Nat} {l us : List Value} : TakeN n l us → PartN 0 n l us
  | there {o n : Nat} {a : Value} {l us : List Value} : PartN o n l us → PartN (o + 1) n (a :: l) us
/-- Cells that are laid over a row's, from a place on. -/
inductive PutN : Nat → List Value → List Value → List Value → Prop
  | done {l : List Value} : PutN 0 [] l l
  | put {u a : Value} {us l l' : List Value} : PutN 0 us l l' → PutN 0 (u :: us) (a :: l) (u :: l')
  | there {o : Nat} {us : List Value} {a : Value} {l l' : List Value} : PutN o us l l' → PutN (o + 1) us (a :: l) (a :: l')

theorem TakeN.eq {n : Nat} {l us : List Value} (h : TakeN n l us) : l.take n = us ∧ us.length = n := by
  induction h with
  | zero => exact ⟨rfl, rfl⟩
  | succ _ ih => exact ⟨by rw [List.take_succ_cons, ih.1], by rw [List.length_cons, ih.2]⟩
theorem PartN.eq {o n : Nat} {l us : List Value} (h : PartN o n l us) : (l.drop o).take n = us ∧ us.length = n := by
  induction h with
  | here h => exact h.eq
  | there _ ih => exact ih
theorem PutN.eq {o : Nat} {us l l' : List Value} (h : PutN o us l l') : o + us.length ≤ l.length ∧ l.take o ++ us ++ l.drop (o + us.length) = l' := by
  induction h with
  | done => simp
  | put _ ih =>
    refine ⟨by have := ih.1; simp at *; omega, ?_⟩
    have := ih.2
    simpa using this
  | there _ ih =>
    refine ⟨by have := ih.1; simp at *; omega, ?_⟩
    have := ih.2
    rw [Nat.add_right_comm, List.take_succ_cons, List.drop_succ_cons, List.cons_append, List.cons_append, this]

section
variable {P : Program} {C : Cx} {e : Env} {L M : List HP} {ty : TypeId} {pos : String} {after : Array Edge} {guard : Option (Nat × Bool)} {dst : Option Tmp} {K : Value → List HP → Prop}

theorem w_boxA {t : TypeId} {x : Operand} {us : List Value} (hx : ev e x = some (.agg us.toArray)) (h : ∀ b, K (.pointer (some ⟨b, 0, none⟩)) (blk b us t :: L)) : OpW P C ⟨dst, .box t x, ty, pos, after, guard⟩ e L K := w_box hx (by simp [cellsL]) h
theorem w_box1 {t : TypeId} {x : Operand} {v : Value} (hx : ev e x = some v) (hv : cellsL v = [v]) (h : ∀ b, K (.pointer (some ⟨b, 0, none⟩)) (blk b [v] t :: L)) : OpW P C ⟨dst, .box t x, ty, pos, after, guard⟩ e L K := w_box hx hv h
theorem w_allocA {t : TypeId} {us : List Value} (hz : TyZero P t (.agg us.toArray)) (h : ∀ b, K (.pointer (some ⟨b, 0, none⟩)) (blk b us t :: L)) : OpW P C ⟨dst, .alloc t, ty, pos, after, guard⟩ e L K := w_alloc hz (by simp [cellsL]) h
theorem w_alloc1 {t : TypeId} {z : Value} (hz : TyZero P t z) (hv : cellsL z = [z]) (h : ∀ b, K (.pointer (some ⟨b, 0, none⟩)) (blk b [z] t :: L)) : OpW P C ⟨dst, .alloc t, ty, pos, after, guard⟩ e L K := w_alloc hz hv h

theorem v_loadN {t b o n : Nat} {x : Operand} {vs us : List Value} (ht : TyAgg P t n) (h : ev e x = some (.pointer (some ⟨b, o, none⟩))) (hc : HasC L b vs) (hv : PartN o n vs us) : OpV P C (.load t x) ty e L (.agg us.toArray) :=
  v_loadA ht h hv.eq.1 (by rw [hv.eq.2]; exact Nat.beq_refl n) hc

theorem w_storeN {t b o n : Nat} {x y : Operand} {vs us vs' : List Value} {T : TypeId} (hz : TySize P t n) (hx : ev e x = some (.pointer (some ⟨b, o, none⟩))) (hy : ev e y = some (.agg us.toArray)) (h1 : allOne us = true) (hn : Nat.beq us.length n = true)
    (ht : Take (blk b vs T) L M) (hp : PutN o us vs vs') (h : K undef (blk b vs' T :: M)) : OpW P C ⟨dst, .store t x y, ty, pos, after, guard⟩ e L K := by
  have hl : us.length = n := Nat.eq_of_beq_eq_true hn
  refine w_store hz hx hy (by simp [cellsL]) h1 hn (by rw [← hl]; exact hp.eq.1) ht ?_
  rw [← hl, hp.eq.2]; exact h
theorem w_storeN1 {t b o : Nat} {x y : Operand} {vs vs' : List Value} {T : TypeId} {v : Value} (hz : TySize P t 1) (hx : ev e x = some (.pointer (some ⟨b, o, none⟩))) (hy : ev e y = some v) (h1 : v.oneCell' = true)
    (ht : Take (blk b vs T) L M) (hp : PutN o [v] vs vs') (h : K undef (blk b vs' T :: M)) : OpW P C ⟨dst, .store t x y, ty, pos, after, guard⟩ e L K := by
  have hc : cellsL v = [v] := by cases v <;> simp_all [cellsL, Value.oneCell']
  refine w_store hz hx hy hc (by simp [allOne, h1]) rfl hp.eq.1 ht ?_
  have e1 := hp.eq.2
  simp only [List.length_cons, List.length_nil, Nat.zero_add] at e1
  rw [e1]; exact h

/-- A struct's field, its place and its type. -/
def TyFT (P : Program) (t f off ft : Nat) : Prop := ∃ fields fd, P.underlying t = some (.struct fields) ∧ fields[f]? = some fd ∧ fd.offset = off ∧ fd.type = ft
theorem v_fieldL {t f off ft : Nat} {x : Operand} {cs : List Value} {v : Value} (hf : TyFT P t f off ft) (hs : TyScalar P ft) (hx : ev e x = some (.agg cs.toArray)) (hv : PartN off 1 cs [v]) : OpV P C (.field t x f) ty e L v := fun w tm ds pos after guard dst s a' => by
  obtain ⟨fields, fd, h1, h2, h3, h4⟩ := hf
  have h5 : cs[off]? = some v := by
    have := hv.eq.1
    have h6 := congrArg (fun l => l[0]?) this
    simpa using h6
  subst h4
  simp [execOp, a'.ev hx, Instr.field, underlying, h1, h2, asAgg, part, hs.notAgg.2, h3, h5]
theorem v_fieldA {t f off ft n : Nat} {x : Operand} {cs us : List Value} (hf : TyFT P t f off ft) (hs : TyAgg P ft n) (hx : ev e x = some (.agg cs.toArray)) (hv : PartN off n cs us) : OpV P C (.field t x f) ty e L (.agg us.toArray) := fun w tm ds pos after guard dst s a' => by
  obtain ⟨fields, fd, h1, h2, h3, h4⟩ := hf
  subst h4
  have h5 : cs.toArray.extract off (off + n) = us.toArray := by
    rw [List.extract_toArray, List.extract_eq_take_drop, Nat.add_sub_cancel_left, hv.eq.1]
  simp [execOp, a'.ev hx, Instr.field, underlying, h1, h2, asAgg, part, hs.agg, hs.size, h3]
  simpa using congrArg Array.toList h5

/-- A value's cells. -/
inductive CellsN : Value → List Value → Prop
  | agg {us : List Value} : CellsN (.agg us.toArray) us
  | one {v : Value} : cellsL v = [v] → CellsN v [v]
theorem CellsN.eq {v : Value} {us : List Value} (h : CellsN v us) : cellsL v = us := by
  cases h with
  | agg => simp [cellsL]
  | one h => exact h

/-- A struct that is put together: a part of it. -/
inductive FillN : List (Nat × Nat) → List (Nat × Value) → List Value → List Value → Prop
  | done {pl : List (Nat × Nat)} {l : List Value} : FillN pl [] l l
  | part {pl : List (Nat × Nat)} {i off size : Nat} {v : Value} {us l l' out : List Value} {ps : List (Nat × Value)} : pl[i]? = some (off, size) → CellsN v us → Nat.beq us.length size = true → PutN off us l l' → FillN pl ps l' out → FillN pl ((i, v) :: ps) l out
theorem FillN.eq {pl : List (Nat × Nat)} {ps : List (Nat × Value)} {l out : List Value} (h : FillN pl ps l out) : fillL pl l ps = some out := by
  induction h with
  | done => rfl
  | part h1 h2 h3 h4 _ ih =>
    have hl := Nat.eq_of_beq_eq_true h3
    simp only [fillL, h1, h2.eq, h3, Bool.true_and]
    rw [show Nat.ble _ _ = true from Nat.ble_eq_true_of_le (by rw [← hl]; exact h4.eq.1), cond_true, ← hl, h4.eq.2]
    exact ih
theorem v_buildN {t : TypeId} {parts : List (Nat × Operand)} {pv : List (Nat × Value)} {z out : List Value} {places : List (Nat × Nat)} (hs : TyStruct P t z places) (hp : parts.mapM (fun p => (ev e p.2).map fun v => (p.1, v)) = some pv) (hf : FillN places pv z out) :
    OpV P C (.build t parts.toArray) ty e L (.agg out.toArray) := v_build hs hp hf.eq

/-- A result that is a variable. -/
theorem res_cell1 {a b : Nat} {t : TypeId} {vs' : List Value} {v : Value} {rs : List ResultVar} {vs : List Value} (hs : TyScalar P t) (h : lk e a = some (.pointer (some ⟨b, 0, none⟩))) (hc : HasC L b vs') (hv : vs'[0]? = some v) (hr : ResOK P C rs e L vs) : ResOK P C (.cell a t :: rs) e L (v :: vs) := by
  intro w tm s a'
  have h1 := hc.cell s 0
  rw [hv] at h1
  have h2 := a'.get a _ h
  rw [List.mapM_cons]
  simp [resOne, Array.getD_eq_getD_getElem?, h2, asAddr, loadVar, hs.notAgg.2, h1, hr w tm s a']
theorem res_cellA {a b n : Nat} {t : TypeId} {us : List Value} {rs : List ResultVar} {vs : List Value} (hs : TyAgg P t n) (h : lk e a = some (.pointer (some ⟨b, 0, none⟩))) (hc : HasC L b us) (hn : Nat.beq us.length n = true) (hr : ResOK P C rs e L vs) : ResOK P C (.cell a t :: rs) e L (.agg us.toArray :: vs) := by
  intro w tm s a'
  have hlen : us.length = n := Nat.eq_of_beq_eq_true hn
  have h2 := a'.get a _ h
  have h1 := run_loadCells (P := P) (w := w) (b := b) (o := 0) (n := n) (vs := us) (fun j => hc.cell s j) (by omega)
  rw [List.drop_zero, List.take_of_length_le (by omega)] at h1
  rw [List.mapM_cons]
  simp [resOne, Array.getD_eq_getD_getElem?, h2, asAddr, loadVar, hs.agg, hs.size, h1, hr w tm s a']
end
end Go.Proofs.YtealmijbkebipaaGreatDoor

namespace Go.Proofs.YtealmijbkebipaaGreatDoor
open Go

/-- From one world to the same with another view. -/
def Up (L M : List HP) : Prop := ∀ (G : Gl) (w : World), Sat G w L → Sat G w M
theorem Ent.up {L M : List HP} (h : Ent L M) : Up L M := fun _ _ s => h.sat s
theorem Up.trans {L M N : List HP} (h : Up L M) (k : Up M N) : Up L N := fun G w s => k G w (h G w s)

/-- A slice's piece. -/
def SV.sl (x : SV) (l h s : Nat) : SV := ⟨if x.c = l then x.a else x.a.map (·.add (l * s)), h - l, x.c - l⟩
@[simp] theorem SV.sl_n (x : SV) (l h s : Nat) : (x.sl l h s).n = h - l := rfl

abbrev bsl (x : SV) (bs : List UInt8) : Pe := roSl x (u8s bs) 1

theorem roSl_fact {x : SV} {cells : List Value} {size : Nat} {r : PH} (h : (roSl x cells size).q r) : cells.length = x.n * size ∧ x.n ≤ x.c ∧ (x.a = none → x.n = 0) := by
  obtain ⟨⟨b, o, vs, T, fz⟩, ⟨h1, h2, h3⟩, _⟩ := h
  refine ⟨h1, h2, fun hn => ?_⟩
  rcases h3 with h3 | ⟨h3, _⟩
  · exact h3
  · rw [hn] at h3; cases h3
theorem roSl_sl {x : SV} {cells : List Value} {size l h : Nat} {r : PH} (hlh : l ≤ h) (hh : h ≤ x.n) (hr : (roSl x cells size).q r) : (roSl (x.sl l h size) ((cells.drop (l * size)).take ((h - l) * size)) size).q r := by
  obtain ⟨⟨b, o, vs, T, fz⟩, ⟨h1, h2, h3⟩, h4⟩ := hr
  simp only at h1 h2 h3 h4
  have e1 : (h - l) * size + l * size = h * size := by rw [← Nat.add_mul]; congr 1; omega
  have e2 : h * size ≤ x.n * size := Nat.mul_le_mul_right _ hh
  refine ⟨(b, o + l * size, vs, T, fz), ⟨?_, ?_, ?_⟩, ?_⟩
  · simp only [List.length_take, List.length_drop, SV.sl]; omega
  · simp only [SV.sl]; omega
  · simp only [SV.sl]
    by_cases h0 : h - l = 0
    · exact .inl h0
    · right
      obtain ⟨ha, hv, hle⟩ := h3.resolve_left (by omega)
      refine ⟨by rw [if_neg (by omega), ha]; simp [add_lit], ?_, by omega⟩
      rw [← hv, List.drop_take, List.take_take, List.drop_drop]
      congr 1
      omega
  · intro y hy
    have hy : y ∈ (if (x.sl l h size).n = 0 then [] else [rob b vs T fz]) := hy
    by_cases h0 : (x.sl l h size).n = 0
    · rw [if_pos h0] at hy; cases hy
    · rw [if_neg h0, List.mem_singleton] at hy; subst hy
      have : h - l ≠ 0 := h0
      exact h4 _ (by rw [if_neg (by omega)]; exact List.mem_singleton.2 rfl)

/-- The block behind a slice that is not empty. -/
theorem roSl_block {x : SV} {cells : List Value} {size : Nat} {r : PH} (h : (roSl x cells size).q r) (h0 : 0 < x.n) :
    ∃ b o vs T fz, x.a = some ⟨b, o, none⟩ ∧ (vs.drop o).take (x.n * size) = cells ∧ o + x.n * size ≤ vs.length ∧ (rob b vs T fz).q r := by
  obtain ⟨⟨b, o, vs, T, fz⟩, ⟨h1, h2, h3⟩, h4⟩ := h
  simp only at h1 h2 h3 h4
  obtain ⟨ha, hv, hle⟩ := h3.resolve_left (by omega)
  exact ⟨b, o, vs, T, fz, ha, hv, hle, h4 _ (by rw [if_neg (by omega)]; exact List.mem_singleton.2 rfl)⟩

theorem HasPe.q {L : List HP} {p : Pe} (h : HasPe L p) {h0 r : PH} (hl : starL L h0 r) : p.q r := by
  induction h generalizing h0 with
  | here => obtain ⟨_, _, _, ha, _⟩ := hl; exact ha
  | there _ ih => obtain ⟨_, h2, _, _, hl⟩ := hl; exact ih hl
theorem HasPe.fact {L : List HP} {p : Pe} {φ : Prop} (h : HasPe L p) (hp : ∀ r, p.q r → φ) : ∀ G w, Sat G w L → φ := fun _ _ ⟨_, r, _, hl⟩ => hp r (h.q hl)

/-- From now on a slice's cells stay. -/
theorem up_freeze {x : SV} {cells : List Value} {size : Nat} {T : TypeId} {L : List HP} : Up (osl x cells size T :: L) (pe (roSl x cells size) :: L) := by
  intro G w s
  obtain ⟨h0, r, H, h1, h2, hs, ⟨⟨b, sp⟩, ⟨e1, e2, e3, e4⟩, k1⟩, hL⟩ := s
  obtain ⟨xa, xn, xc⟩ := x
  simp only at e1 e2 e3 e4 k1
  rcases e4 with ⟨e4, e5⟩ | ⟨e4, e5⟩
  · cases e4
    refine ⟨h0, r, H, (fun _ => none), h0, fun b => .inr ⟨rfl, rfl⟩, ⟨(0, 0, [], 0, (0, 0)), ⟨e1, Nat.le_refl _, .inl rfl⟩, fun y hy => ?_⟩, ?_⟩
    · simp at hy
    · exact starL_le hL hs.le2
  · subst e4
    simp only [reduceCtorEq, if_false] at k1
    have s1 : Sat G w (own b (.cells (cells ++ sp).toArray T) :: L) := by
      obtain ⟨g1, g2, gs, go, gn⟩ := k1
      exact ⟨h0, r, H, h1, h2, hs, gs.le1 _ _ go, hL⟩
    have s2 := s1.freeze
    refine (roSl_of_blk (vs := cells ++ sp) (T := T) (fz := (0, 0)) e1 e2 ?_ ?_).sat s2
    · rw [List.drop_zero, ← e1, List.take_left]
    · rw [Nat.zero_add, e5]; exact Nat.mul_le_mul_right _ e2
theorem up_freezeB {b : Nat} {vs : List Value} {T : TypeId} {L : List HP} : Up (blk b vs T :: L) (pe (rob b vs T (0, 0)) :: L) := fun _ _ s => s.freeze

section
variable {P : Program} {C : Cx} {e : Env} {L M : List HP} {ty : TypeId} {pos : String} {after : Array Edge} {guard : Option (Nat × Bool)} {dst : Option Tmp} {K : Value → List HP → Prop} {ds : List Deferred} {k : List Item}

theorem wk_up (hl : Up L M) (h : Wk P C ds k e M) : Wk P C ds k e L := fun w tmps hs ha => h w tmps (hl _ _ hs) ha
theorem wo_up {all : Array Oper} {i : Nat} {os : List Oper} (hl : Up L M) (h : Wo P C ds all i os k e M) : Wo P C ds all i os k e L := fun hd w tmps hs ha => h hd w tmps (hl _ _ hs) ha
theorem wo_fact {all : Array Oper} {i : Nat} {os : List Oper} {p : Prop} (hp : ∀ G w, Sat G w L → p) (h : p → Wo P C ds all i os k e L) : Wo P C ds all i os k e L := fun hd w tm s a' => h (hp _ _ s) hd w tm s a'

theorem wk_ro {x : SV} {cells : List Value} {size : Nat} (hp : HasPe L (roSl x cells size)) (h : cells.length = x.n * size ∧ x.n ≤ x.c ∧ (x.a = none → x.n = 0) → Wk P C ds k e L) : Wk P C ds k e L := wk_fact (hp.fact fun _ => roSl_fact) h
theorem wo_ro {all : Array Oper} {i : Nat} {os : List Oper} {x : SV} {cells : List Value} {size : Nat} (hp : HasPe L (roSl x cells size)) (h : cells.length = x.n * size ∧ x.n ≤ x.c ∧ (x.a = none → x.n = 0) → Wo P C ds all i os k e L) : Wo P C ds all i os k e L := wo_fact (hp.fact fun _ => roSl_fact) h

theorem sat_block {G : Gl} {w : World} {x : SV} {cells : List Value} {size : Nat} (hp : HasPe L (roSl x cells size)) (h0 : 0 < x.n) (s : Sat G w L) :
    ∃ b o vs T fz, x.a = some ⟨b, o, none⟩ ∧ (vs.drop o).take (x.n * size) = cells ∧ o + x.n * size ≤ vs.length ∧ Sat G w (pe (rob b vs T fz) :: L) := by
  obtain ⟨g0, r, H, hl⟩ := s
  obtain ⟨b, o, vs, T, fz, h1, h2, h3, h4⟩ := roSl_block (hp.q hl) h0
  exact ⟨b, o, vs, T, fz, h1, h2, h3, g0, r, H, (fun _ => none), g0, fun _ => .inr ⟨rfl, rfl⟩, h4, hl⟩
theorem wk_block' {x : SV} {cells : List Value} {size : Nat} (hp : HasPe L (roSl x cells size)) (h0 : 0 < x.n) (h : ∀ b o vs T fz, x.a = some ⟨b, o, none⟩ → (vs.drop o).take (x.n * size) = cells → o + x.n * size ≤ vs.length → Wk P C ds k e (pe (rob b vs T fz) :: L)) : Wk P C ds k e L := by
  intro w tm s a'
  obtain ⟨b, o, vs, T, fz, h1, h2, h3, s'⟩ := sat_block hp h0 s
  exact h b o vs T fz h1 h2 h3 w tm s' a'
theorem wo_block' {all : Array Oper} {i : Nat} {os : List Oper} {x : SV} {cells : List Value} {size : Nat} (hp : HasPe L (roSl x cells size)) (h0 : 0 < x.n) (h : ∀ b o vs T fz, x.a = some ⟨b, o, none⟩ → (vs.drop o).take (x.n * size) = cells → o + x.n * size ≤ vs.length → Wo P C ds all i os k e (pe (rob b vs T fz) :: L)) : Wo P C ds all i os k e L := by
  intro hd w tm s a'
  obtain ⟨b, o, vs, T, fz, h1, h2, h3, s'⟩ := sat_block hp h0 s
  exact h b o vs T fz h1 h2 h3 hd w tm s' a'

/-- A piece's view, beside the whole. -/
theorem ent_sl {x : SV} {cells : List Value} {size l h : Nat} (hp : HasPe L (roSl x cells size)) (hlh : l ≤ h) (hh : h ≤ x.n) : Ent L (pe (roSl (x.sl l h size) ((cells.drop (l * size)).take ((h - l) * size)) size) :: L) := hp.sat fun _ hq => roSl_sl hlh hh hq

theorem v_sliceHiS {t el s : Nat} {x : SV} {y hi : Operand} {k2 : IntKind} {h : Nat} (hu : TyUnd P t (.slice el)) (hs : TySize P el s) (hx : ev e y = some x.v) (hhi : ev e hi = some (.int k2 h)) (h3 : h ≤ x.c) :
    OpV P C (.slice t y none (some hi) none) ty e L (x.sl 0 h s).v := fun w tm ds pos after guard dst st a' => by
  obtain ⟨xa, xn, xc⟩ := x
  have r1 := fun code => run_sliceBound (P := P) (k := k2) (i := (h : Int)) (y := xc) (code := code) (by omega) (by simp only at h3; omega) w
  cases xa <;> simp [execOp, a'.ev hx, a'.ev hhi, Instr.sliceAt, hu.run, Instr.slice, Instr.sliceBounds, r1, hs.run, SV.sl]
theorem v_sliceLoS {t el s : Nat} {x : SV} {y lo : Operand} {k1 : IntKind} {l : Nat} (hu : TyUnd P t (.slice el)) (hs : TySize P el s) (hx : ev e y = some x.v) (hlo : ev e lo = some (.int k1 l)) (h3 : l ≤ x.n) :
    OpV P C (.slice t y (some lo) none none) ty e L (x.sl l x.n s).v := fun w tm ds pos after guard dst st a' => by
  obtain ⟨xa, xn, xc⟩ := x
  have r1 := fun code => run_sliceBound (P := P) (k := k1) (i := (l : Int)) (y := xn) (code := code) (by omega) (by simp only at h3; omega) w
  cases xa <;> simp [execOp, a'.ev hx, a'.ev hlo, Instr.sliceAt, hu.run, Instr.slice, Instr.sliceBounds, r1, hs.run, SV.sl]
end

theorem ro_get {vs cells : List Value} {o n i : Nat} {v : Value} (hv : (vs.drop o).take (n * 1) = cells) (h : cells[i]? = some v) : vs[o + i * 1]? = some v := by
  rw [← hv, List.getElem?_take] at h
  split at h
  · rw [List.getElem?_drop] at h; rw [Nat.mul_one]; exact h
  · cases h
theorem ent_pe {q : Pe} {L M : List HP} (hq : ∀ r, q.q r) (h : Ent L M) : Ent L (pe q :: M) := fun h0 r hl => ⟨fun _ => none, h0, fun _ => .inr ⟨rfl, rfl⟩, hq r, h _ _ hl⟩
theorem roSl_nil {x : SV} {size : Nat} (hx : x.n = 0) (r : PH) : (roSl x [] size).q r :=
  ⟨(0, 0, [], 0, (0, 0)), ⟨by simp [hx], by rw [hx]; exact Nat.zero_le _, .inl hx⟩, fun y hy => by
    have hy : y ∈ (if x.n = 0 then [] else [rob 0 [] 0 (0, 0)]) := hy
    rw [if_pos hx] at hy; cases hy⟩
theorem ent_roNil {x : SV} {size : Nat} {L M : List HP} (hx : x.n = 0) (h : Ent L M) : Ent L (pe (roSl x [] size) :: M) := ent_pe (roSl_nil hx) h
theorem ent_oslEmpty {b size : Nat} {T : TypeId} {L : List HP} : Ent (blk b [] T :: L) (osl ⟨some ⟨b, 0, none⟩, 0, 0⟩ [] size T :: L) :=
  ent_nf (b, []) ⟨(Nat.zero_mul _).symm, Nat.le_refl _, Nat.zero_le _, .inr ⟨rfl, (Nat.zero_mul _).symm⟩⟩ (Ent.refl _)
/-- What persists, at another slice's name. -/
theorem ent_ro {p q : Pe} {L M : List HP} (hp : HasPe L p) (hq : ∀ r, p.q r → q.q r) (h : Ent L M) : Ent L (pe q :: M) := (hp.sat hq).trans (h.cons _)

theorem ent_bslHi {x : SV} {bs : List UInt8} {h : Nat} {L : List HP} (hp : HasPe L (bsl x bs)) (hh : h ≤ x.n) : Ent L (pe (bsl (x.sl 0 h 1) (bs.take h)) :: L) := by
  have := ent_sl hp (Nat.zero_le _) hh
  simpa [u8s_take] using this
theorem ent_bslLo {x : SV} {bs : List UInt8} {l : Nat} {L : List HP} (hp : HasPe L (bsl x bs)) (hl : l ≤ x.n) : Ent L (pe (bsl (x.sl l x.n 1) (bs.drop l)) :: L) := by
  intro h0 r hs
  have hf := roSl_fact (hp.q hs)
  have hlen : bs.length = x.n := by have := hf.1; simpa using this
  have := ent_sl hp hl (Nat.le_refl _) h0 r hs
  have e : (bs.drop l).take (x.n - l) = bs.drop l := List.take_of_length_le (by rw [List.length_drop]; omega)
  simpa [u8s_take, u8s_drop, e] using this

theorem v_indexAddrS {P : Program} {C : Cx} {e : Env} {L : List HP} {ty t el b o s : Nat} {x y : Operand} {z : SV} {k : IntKind} {i : Nat} (hu : TyUnd P t (.slice el)) (hs : TySize P el s) (hx : ev e x = some z.v) (hy : ev e y = some (.int k (i : Int))) (ha : z.a = some ⟨b, o, none⟩) (h2 : i < z.n) :
    OpV P C (.indexAddr t x y) ty e L (.pointer (some ⟨b, o + i * s, none⟩)) := by
  obtain ⟨za, zn, zc⟩ := z
  have ha : za = some ⟨b, o, none⟩ := ha
  have h2 : i < zn := h2
  subst ha
  have := v_indexAddr (P := P) (C := C) (L := L) (ty := ty) hu hs hx hy (by omega) (by omega)
  simpa using this

/-- A number of bytes, the lowest first. -/
def valB : List UInt8 → Nat
  | [] => 0
  | b :: bs => b.toNat + 256 * valB bs
theorem valB_lt (bs : List UInt8) : valB bs < 256 ^ bs.length := by
  induction bs with
  | nil => simp [valB]
  | cons b bs ih =>
    simp only [valB, List.length_cons, Nat.pow_succ]
    have := b.toNat_lt
    omega
theorem valB_snoc (bs : List UInt8) (b : UInt8) : valB (bs ++ [b]) = valB bs + b.toNat * 256 ^ bs.length := by
  induction bs with
  | nil => simp [valB]
  | cons a bs ih =>
    simp only [List.cons_append, valB, ih, List.length_cons, Nat.pow_succ]
    rw [Nat.mul_add, Nat.add_assoc]
    congr 2
    rw [Nat.mul_left_comm, Nat.mul_comm 256]
theorem valB_or {bs : List UInt8} {b : UInt8} (h : bs.length < 8) : valB bs ||| (b.toNat * 2 ^ (8 * bs.length) % 18446744073709551616) = valB (bs ++ [b]) := by
  have h1 := valB_lt bs
  have e1 : 256 ^ bs.length = 2 ^ (8 * bs.length) := by rw [Nat.pow_mul]
  have h2 : b.toNat * 2 ^ (8 * bs.length) < 18446744073709551616 := by
    have hb := b.toNat_lt
    have h3 : 2 ^ (8 * bs.length) ≤ 2 ^ 56 := Nat.pow_le_pow_right (by decide) (by omega)
    calc b.toNat * 2 ^ (8 * bs.length) ≤ 255 * 2 ^ 56 := Nat.mul_le_mul (by omega) h3
      _ < _ := by decide
  rw [Nat.mod_eq_of_lt h2, valB_snoc, e1, Nat.or_comm, Nat.mul_comm, ← Nat.two_pow_add_eq_or_of_lt (by rw [← e1]; exact h1), Nat.add_comm]

theorem wd_up {P : Program} {C : Cx} {e : Env} {L M : List HP} {ds : List Deferred} {k : List Item} {all : Array Oper} {W : Wat} {n pend : Nat} (hl : Up L M) (h : Wd P C ds all W n pend k e M) : Wd P C ds all W n pend k e L := fun hs hc w tm s a' hW => h hs hc w tm (hl _ _ s) a' hW
theorem wd_fact {P : Program} {C : Cx} {e : Env} {L : List HP} {ds : List Deferred} {k : List Item} {all : Array Oper} {W : Wat} {n pend : Nat} {p : Prop} (hp : ∀ G w, Sat G w L → p) (h : p → Wd P C ds all W n pend k e L) : Wd P C ds all W n pend k e L := fun hs hc w tm s a' hW => h (hp _ _ s) hs hc w tm s a' hW
theorem up_freeze0 {b N : Nat} {T : TypeId} {L : List HP} : Up (blk b (List.replicate N (.int .u8 0)) T :: L) (pe (bsl ⟨some ⟨b, 0, none⟩, N, N⟩ (List.replicate N 0)) :: L) := by
  intro G w s
  have e : u8s (List.replicate N 0) = List.replicate N (Value.int .u8 0) := by simp [u8s]
  refine (roSl_of_blk (size := 1) (by simp) (Nat.le_refl _) ?_ (by simp)).sat (up_freezeB _ _ s)
  rw [e, List.drop_zero]; exact List.take_of_length_le (by simp)
/-- What an owned slice says. -/
theorem osl_fact {x : SV} {cells : List Value} {size : Nat} {T : TypeId} {L : List HP} {G : Gl} {w : World} (s : Sat G w (osl x cells size T :: L)) : cells.length = x.n * size ∧ x.n ≤ x.c ∧ (x.a = none → x = nilSV) := by
  obtain ⟨h0, r, H, h1, h2, hs, ⟨⟨b, sp⟩, ⟨e1, e2, e3, e4⟩, k1⟩, hL⟩ := s
  refine ⟨e1, e2, fun hn => ?_⟩
  rcases e4 with ⟨e4, _⟩ | ⟨e4, _⟩
  · exact e4
  · rw [hn] at e4; cases e4

end Go.Proofs.YtealmijbkebipaaGreatDoor
