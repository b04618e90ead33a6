/- What follows is a small logic of its own over the model's machine: assertions on the heap (owned blocks, and blocks that stay as they are), and what a frame comes to. What a frame comes to, and what is owed at each of its steps, over the assertions of the text before. -/
import Derived.AtR
import Derived.Laws.Sem
import Derived.Laws.World
namespace Go.Proofs.YtealmijbkebipaaGreatDoor
open Go

/-! ### Assertions -/

abbrev PH := Nat → Option Obj

/-- What persists: it speaks of the blocks that stay as they are alone. -/
structure Pe where
  q : PH → Prop
  mono : ∀ {r r' : PH}, q r → (∀ b o, r b = some o → r' b = some o) → q r'

/-- An assertion: on owned blocks, and on those that stay. -/
structure HP where
  f : PH → PH → Prop
  mono : ∀ {h r r' : PH}, f h r → (∀ b o, r b = some o → r' b = some o) → f h r'

def Split (h h1 h2 : PH) : Prop := ∀ b, (h b = h1 b ∧ h2 b = none) ∨ (h1 b = none ∧ h b = h2 b)

def starL : List HP → PH → PH → Prop
  | [], _, _ => True
  | A :: L, h, r => ∃ h1 h2, Split h h1 h2 ∧ A.f h1 r ∧ starL L h2 r

theorem starL_mono {L : List HP} : ∀ {h r r' : PH}, starL L h r → (∀ b o, r b = some o → r' b = some o) → starL L h r' := by
  induction L with
  | nil => intros; trivial
  | cons A L ih =>
    rintro h r r' ⟨h1, h2, hs, ha, hl⟩ hr
    exact ⟨h1, h2, hs, A.mono ha hr, ih hl hr⟩

theorem Split.le2 {h h1 h2 : PH} (s : Split h h1 h2) : ∀ b o, h2 b = some o → h b = some o := by
  intro b o hb
  rcases s b with ⟨_, h0⟩ | ⟨_, h0⟩
  · rw [h0] at hb; cases hb
  · rw [h0]; exact hb
theorem Split.le1 {h h1 h2 : PH} (s : Split h h1 h2) : ∀ b o, h1 b = some o → h b = some o := by
  intro b o hb
  rcases s b with ⟨h0, _⟩ | ⟨h0, _⟩
  · rw [h0]; exact hb
  · rw [h0] at hb; cases hb
theorem Split.non {h h1 h2 : PH} (s : Split h h1 h2) {b : Nat} (hb : h b = none) : h1 b = none ∧ h2 b = none := by
  rcases s b with ⟨h0, h1'⟩ | ⟨h0, h1'⟩
  · exact ⟨h0 ▸ hb, h1'⟩
  · exact ⟨h0, h1' ▸ hb⟩
theorem Split.disj {h h1 h2 : PH} (s : Split h h1 h2) (b : Nat) : h1 b = none ∨ h2 b = none := by
  rcases s b with ⟨_, h0⟩ | ⟨h0, _⟩
  · exact .inr h0
  · exact .inl h0

/-- The whole owned heap may be larger. -/
theorem starL_le {L : List HP} : ∀ {h h' r : PH}, starL L h r → (∀ b o, h b = some o → h' b = some o) → starL L h' r := by
  induction L with
  | nil => intros; trivial
  | cons A L ih =>
    rintro h h' r ⟨h1, h2, hs, ha, hl⟩ hle
    refine ⟨h1, fun b => if h1 b = none then h' b else none, ?_, ha, ih hl ?_⟩
    · intro b
      by_cases hb : h1 b = none
      · right; simp [hb]
      · left
        simp only [hb, if_false, and_true]
        rcases hs b with ⟨h0, _⟩ | ⟨h0, _⟩
        · cases hh : h1 b with
          | none => exact absurd hh hb
          | some o => exact hle b o (h0.trans hh)
        · exact absurd h0 hb
    · intro b o hb
      have : h1 b = none := by
        rcases hs.disj b with h0 | h0
        · exact h0
        · rw [h0] at hb; cases hb
      simp only [this, if_true]
      exact hle b o (hs.le2 b o hb)

/-- Owned: a block that holds this. -/
def own (b : Nat) (o : Obj) : HP := ⟨fun h _ => h b = some o, fun h _ => h⟩
/-- What persists, as an assertion. -/
def pe (p : Pe) : HP := ⟨fun _ r => p.q r, fun h hr => p.mono h hr⟩
/-- A block that stays as it is. -/
def roB (b : Nat) (o : Obj) : Pe := ⟨fun r => r b = some o, fun h hr => hr _ _ h⟩
/-- Some x of which a plain fact holds, and these assertions. -/
def nf {α : Type} (p : α → Prop) (l : α → List HP) : HP := ⟨fun h r => ∃ a, p a ∧ starL (l a) h r, fun ⟨a, h1, h2⟩ hr => ⟨a, h1, starL_mono h2 hr⟩⟩
def peEx {α : Type} (p : α → Prop) (l : α → List Pe) : Pe := ⟨fun r => ∃ a, p a ∧ ∀ x ∈ l a, x.q r, fun ⟨a, h1, h2⟩ hr => ⟨a, h1, fun x hx => x.mono (h2 x hx) hr⟩⟩

/-- What of the world is not the heap, and stays. -/
structure Gl where
  os : Os
  out : Array (Nat × ByteArray)
  tape : Nat → Question → Nat

structure Holds (G : Gl) (w : World) (h r : PH) : Prop where
  os : w.os = G.os
  out : w.output = G.out
  tape : w.tape = G.tape
  disj : ∀ b, h b = none ∨ r b = none
  subH : ∀ b o, h b = some o → w.heap[b]? = some o
  subR : ∀ b o, r b = some o → w.heap[b]? = some o

def Sat (G : Gl) (w : World) (L : List HP) : Prop := ∃ h r, Holds G w h r ∧ starL L h r

theorem Holds.le {G : Gl} {w : World} {h h' r : PH} (H : Holds G w h r) (hle : ∀ b o, h' b = some o → h b = some o) : Holds G w h' r :=
  { H with
    disj := fun b => by
      rcases H.disj b with h0 | h0
      · left
        cases hh : h' b with
        | none => rfl
        | some o => rw [hle b o hh] at h0; cases h0
      · exact .inr h0
    subH := fun b o hb => H.subH b o (hle b o hb) }

/-! ### Taking one out of a row -/

inductive Take : HP → List HP → List HP → Prop
  | hereP {p : Pe} {L : List HP} : Take (pe p) (pe p :: L) (pe p :: L)
  | here {p : HP} {L : List HP} : Take p (p :: L) L
  | there {p q : HP} {L R : List HP} : Take p L R → Take p (q :: L) (q :: R)

/-- What comes out is either persistent (and stays), or is gone from the rest. -/
theorem Take.sound {p : HP} {L R : List HP} (t : Take p L R) : ∀ {h r : PH}, starL L h r → ∃ h1 h2, Split h h1 h2 ∧ p.f h1 r ∧ starL R h2 r := by
  induction t with
  | @hereP p L =>
    rintro h r hl
    obtain ⟨h1, h2, hs, ha, hl'⟩ := hl
    exact ⟨fun _ => none, h, fun b => .inr ⟨rfl, rfl⟩, ha, h1, h2, hs, ha, hl'⟩
  | here => exact fun hl => hl
  | @there p q L R t ih =>
    rintro h r ⟨h1, h2, hs, ha, hl⟩
    obtain ⟨k1, k2, ks, kp, kl⟩ := ih hl
    refine ⟨k1, fun b => if k1 b = none then h b else none, ?_, kp, h1, k2, ?_, ha, kl⟩
    · intro b
      by_cases hb : k1 b = none
      · right; simp [hb]
      · left
        simp only [hb, if_false, and_true]
        cases hh : k1 b with
        | none => exact absurd hh hb
        | some o => exact hs.le2 b o (ks.le1 b o hh)
    · intro b
      rcases hs b with ⟨e1, e2⟩ | ⟨e1, e2⟩
      · obtain ⟨n1, n2⟩ := ks.non e2
        left; simp [n1, n2, e1]
      · right
        refine ⟨e1, ?_⟩
        rcases ks b with ⟨f1, f2⟩ | ⟨f1, f2⟩
        · by_cases hb : k1 b = none
          · simp [hb, e2, f1, f2]
          · simp [hb, f2]
        · simp [f1, e2, f2]

inductive TakeL : List HP → List HP → List HP → Prop
  | nil {L : List HP} : TakeL [] L L
  | cons {p : HP} {ps L M R : List HP} : Take p L M → TakeL ps M R → TakeL (p :: ps) L R

theorem Take.sat {G : Gl} {w : World} {p : HP} {L R : List HP} (t : Take p L R) (h : Sat G w L) : Sat G w (p :: R) := by
  obtain ⟨h0, r, H, hl⟩ := h
  exact ⟨h0, r, H, t.sound hl⟩

theorem Sat.swap {G : Gl} {w : World} {p q : HP} {L : List HP} (h : Sat G w (p :: q :: L)) : Sat G w (q :: p :: L) :=
  Take.sat (.there .here) h

theorem Sat.cons_mono {G : Gl} {w : World} {p : HP} {L M : List HP} (h : Sat G w (p :: L))
    (hm : ∀ h r, starL L h r → starL M h r) : Sat G w (p :: M) := by
  obtain ⟨h0, r, H, h1, h2, hs, ha, hl⟩ := h
  exact ⟨h0, r, H, h1, h2, hs, ha, hm _ _ hl⟩

theorem starL_append {L M : List HP} : ∀ {h r : PH}, starL (L ++ M) h r ↔ ∃ h1 h2, Split h h1 h2 ∧ starL L h1 r ∧ starL M h2 r := by
  induction L with
  | nil =>
    intro h r
    constructor
    · intro hm
      exact ⟨fun _ => none, h, fun b => .inr ⟨rfl, rfl⟩, trivial, hm⟩
    · rintro ⟨h1, h2, hs, _, hm⟩
      exact starL_le hm hs.le2
  | cons A L ih =>
    intro h r
    constructor
    · rintro ⟨h1, h2, hs, ha, hl⟩
      obtain ⟨k1, k2, ks, kl, km⟩ := ih.1 hl
      refine ⟨fun b => if k2 b = none then h b else none, k2, ?_, ⟨h1, k1, ?_, ha, kl⟩, km⟩
      · intro b
        by_cases hb : k2 b = none
        · left; simp [hb]
        · right
          simp only [hb, if_false, true_and]
          cases hh : k2 b with
          | none => exact absurd hh hb
          | some o => exact hs.le2 b o (ks.le2 b o hh)
      · intro b
        rcases hs b with ⟨e1, e2⟩ | ⟨e1, e2⟩
        · obtain ⟨n1, n2⟩ := ks.non e2
          left; simp [n2, n1, e1]
        · right
          refine ⟨e1, ?_⟩
          rcases ks b with ⟨f1, f2⟩ | ⟨f1, f2⟩
          · simp [f2, e2, f1]
          · by_cases hb : k2 b = none
            · simp [hb, e2, f2, f1]
            · simp [hb, f1]
    · rintro ⟨h1, h2, hs, ⟨k1, k2, ks, ka, kl⟩, hm⟩
      refine ⟨k1, fun b => if k1 b = none then h b else none, ?_, ka, ?_⟩
      · intro b
        by_cases hb : k1 b = none
        · right; simp [hb]
        · left
          simp only [hb, if_false, and_true]
          cases hh : k1 b with
          | none => exact absurd hh hb
          | some o => exact hs.le1 b o (ks.le1 b o hh)
      · refine ih.2 ⟨k2, h2, ?_, kl, hm⟩
        intro b
        rcases hs b with ⟨e1, e2⟩ | ⟨e1, e2⟩
        · left
          rcases ks b with ⟨f1, f2⟩ | ⟨f1, f2⟩
          · by_cases hb : k1 b = none
            · simp [hb, e1, f1, f2, e2]
            · simp [hb, f2, e2]
          · simp [f1, e1, f2, e2]
        · right
          obtain ⟨n1, n2⟩ := ks.non e1
          simp [n1, n2, e2]

theorem TakeL.sound {ps L R : List HP} (t : TakeL ps L R) : ∀ {h r : PH}, starL L h r → starL (ps ++ R) h r := by
  induction t with
  | nil => exact fun h => h
  | cons t _ ih =>
    intro h r hl
    obtain ⟨h1, h2, hs, ha, hr⟩ := t.sound hl
    exact ⟨h1, h2, hs, ha, ih hr⟩

theorem TakeL.sat {G : Gl} {w : World} {ps L R : List HP} (t : TakeL ps L R) (h : Sat G w L) : Sat G w (ps ++ R) := by
  obtain ⟨h0, r, H, hl⟩ := h
  exact ⟨h0, r, H, t.sound hl⟩

/-! ### Entailments -/

def Ent (L M : List HP) : Prop := ∀ h r, starL L h r → starL M h r

theorem Ent.refl (L : List HP) : Ent L L := fun _ _ h => h
theorem Ent.trans {L M N : List HP} (h : Ent L M) (k : Ent M N) : Ent L N := fun _ _ x => k _ _ (h _ _ x)
theorem Ent.sat {L M : List HP} (e : Ent L M) {G : Gl} {w : World} (h : Sat G w L) : Sat G w M :=
  let ⟨h0, r, H, hl⟩ := h; ⟨h0, r, H, e _ _ hl⟩
theorem Ent.cons {L M : List HP} (p : HP) (e : Ent L M) : Ent (p :: L) (p :: M) := fun _ _ ⟨h1, h2, hs, ha, hl⟩ => ⟨h1, h2, hs, ha, e _ _ hl⟩
theorem Ent.take {p : HP} {L R : List HP} (t : Take p L R) : Ent L (p :: R) := fun _ _ hl => t.sound hl
theorem Ent.drop {p : HP} {L : List HP} : Ent (p :: L) L := fun _ _ ⟨_, _, hs, _, hl⟩ => starL_le hl hs.le2
theorem Ent.close {α : Type} {p : α → Prop} {l : α → List HP} {L R : List HP} (a : α) (hp : p a) (t : TakeL (l a) L R) : Ent L (nf p l :: R) := by
  intro h r hl
  obtain ⟨h1, h2, hs, k1, k2⟩ := starL_append.1 (t.sound hl)
  exact ⟨h1, h2, hs, ⟨a, hp, k1⟩, k2⟩
theorem Ent.open_ {α : Type} {p : α → Prop} {l : α → List HP} {L M : List HP} (h : ∀ a, p a → Ent (l a ++ L) M) : Ent (nf p l :: L) M := by
  rintro h0 r ⟨h1, h2, hs, ⟨a, hp, k1⟩, k2⟩
  exact h a hp _ _ (starL_append.2 ⟨h1, h2, hs, k1, k2⟩)
theorem Ent.pure {L M : List HP} {p : Prop} (hp : ∀ h r, starL L h r → p) (h : p → Ent L M) : Ent L M := fun _ _ hl => h (hp _ _ hl) _ _ hl

/-- The tail of a row. -/
inductive Tail : List HP → List HP → Prop
  | refl {L : List HP} : Tail L L
  | drop {p : HP} {L M : List HP} : Tail L M → Tail (p :: L) M
theorem Tail.ent {L M : List HP} (t : Tail L M) : Ent L M := by
  induction t with
  | refl => exact Ent.refl _
  | drop _ ih => exact Ent.drop.trans ih

/-! ### Owned blocks and the world -/

theorem Sat.own_get {G : Gl} {w : World} {b : Nat} {o : Obj} {L : List HP} (h : Sat G w (own b o :: L)) : w.heap[b]? = some o := by
  obtain ⟨h0, r, H, h1, h2, hs, ha, _⟩ := h
  exact H.subH b o (hs.le1 b o ha)

theorem Sat.pe_get {G : Gl} {w : World} {p : Pe} {L : List HP} (h : Sat G w (pe p :: L)) : ∃ r, p.q r ∧ ∀ b o, r b = some o → w.heap[b]? = some o := by
  obtain ⟨h0, r, H, h1, h2, hs, ha, _⟩ := h
  exact ⟨r, ha, H.subR⟩

theorem Sat.ro_get {G : Gl} {w : World} {b : Nat} {o : Obj} {L : List HP} (h : Sat G w (pe (roB b o) :: L)) : w.heap[b]? = some o := by
  obtain ⟨r, hq, hr⟩ := h.pe_get
  exact hr b o hq

/-- Another world in which one owned block holds something else. -/
theorem Sat.own_set {G : Gl} {w w' : World} {b : Nat} {o o' : Obj} {L : List HP} (h : Sat G w (own b o :: L))
    (h1 : w'.os = w.os) (h2 : w'.output = w.output) (h3 : w'.tape = w.tape) (h4 : w'.heap[b]? = some o')
    (h5 : ∀ c, c ≠ b → w'.heap[c]? = w.heap[c]?) : Sat G w' (own b o' :: L) := by
  obtain ⟨h0, r, H, k1, k2, hs, ha, hl⟩ := h
  have hb : k1 b = some o := ha
  have hb0 : h0 b = some o := hs.le1 b o hb
  have hb2 : k2 b = none := by
    rcases hs.disj b with e | e
    · rw [e] at hb; cases hb
    · exact e
  refine ⟨fun c => if c = b then some o' else h0 c, r, ⟨h1.trans H.os, h2.trans H.out, h3.trans H.tape, ?_, ?_, ?_⟩, fun c => if c = b then some o' else k1 c, k2, ?_, ?_, hl⟩
  · intro c
    by_cases hc : c = b
    · subst hc
      right
      rcases H.disj c with e | e
      · rw [e] at hb0; cases hb0
      · exact e
    · simp only [hc, if_false]; exact H.disj c
  · intro c x hx
    by_cases hc : c = b
    · subst hc; simp only [if_true] at hx; rw [h4, hx]
    · simp only [hc, if_false] at hx; rw [h5 c hc]; exact H.subH c x hx
  · intro c x hx
    have hc : c ≠ b := by
      intro e; subst e
      rcases H.disj c with e | e
      · rw [e] at hb0; cases hb0
      · rw [e] at hx; cases hx
    rw [h5 c hc]; exact H.subR c x hx
  · intro c
    by_cases hc : c = b
    · subst hc; left; simp [hb2]
    · simp only [hc, if_false]; exact hs c
  · show (if b = b then some o' else k1 b) = some o'
    simp

/-- A world that has one block more. -/
theorem Sat.push {G : Gl} {w w' : World} {o : Obj} {L : List HP} (h : Sat G w L)
    (h1 : w'.os = w.os) (h2 : w'.output = w.output) (h3 : w'.tape = w.tape) (h4 : w'.heap = w.heap.push o) : Sat G w' (own w.heap.size o :: L) := by
  obtain ⟨h0, r, H, hl⟩ := h
  have fresh : ∀ (k : PH), (∀ (b : Nat) (x : Obj), k b = some x → w.heap[b]? = some x) → k w.heap.size = none := by
    intro k hk
    cases hh : k w.heap.size with
    | none => rfl
    | some x => have := hk _ _ hh; simp at this
  have e0 := fresh h0 H.subH
  have er := fresh r H.subR
  have old : ∀ (b : Nat) (x : Obj), w.heap[b]? = some x → w'.heap[b]? = some x := by
    intro b x hx
    rw [h4]
    have := (Array.getElem?_eq_some_iff.1 hx).1
    rw [Array.getElem?_push_lt (by omega)]
    rw [← hx]; simp [this]
  refine ⟨fun c => if c = w.heap.size then some o else h0 c, r, ⟨h1.trans H.os, h2.trans H.out, h3.trans H.tape, ?_, ?_, fun b x hx => old b x (H.subR b x hx)⟩, fun c => if c = w.heap.size then some o else none, h0, ?_, ?_, hl⟩
  · intro c
    by_cases hc : c = w.heap.size
    · subst hc; right; exact er
    · simp only [hc, if_false]; exact H.disj c
  · intro c x hx
    by_cases hc : c = w.heap.size
    · subst hc; simp only [if_true] at hx; rw [h4]; simp [← hx]
    · simp only [hc, if_false] at hx; exact old c x (H.subH c x hx)
  · intro c
    by_cases hc : c = w.heap.size
    · subst hc; left; simp [e0]
    · right; simp [hc]
  · show (if w.heap.size = w.heap.size then some o else none) = some o
    simp

/-- A world whose heap is the same. -/
theorem Sat.same {G : Gl} {w w' : World} {L : List HP} (h : Sat G w L)
    (h1 : w'.os = w.os) (h2 : w'.output = w.output) (h3 : w'.tape = w.tape) (h4 : w'.heap = w.heap) : Sat G w' L := by
  obtain ⟨h0, r, H, hl⟩ := h
  exact ⟨h0, r, ⟨h1.trans H.os, h2.trans H.out, h3.trans H.tape, H.disj, by rw [h4]; exact H.subH, by rw [h4]; exact H.subR⟩, hl⟩

/-- From now on this block stays as it is. -/
theorem Sat.freeze {G : Gl} {w : World} {b : Nat} {o : Obj} {L : List HP} (h : Sat G w (own b o :: L)) : Sat G w (pe (roB b o) :: L) := by
  obtain ⟨h0, r, H, h1, h2, hs, ha, hl⟩ := h
  have hb : h1 b = some o := ha
  have hb0 : h0 b = some o := hs.le1 b o hb
  have hb2 : h2 b = none := by
    rcases hs.disj b with e | e
    · rw [e] at hb; cases hb
    · exact e
  have hr : r b = none := by
    rcases H.disj b with e | e
    · rw [e] at hb0; cases hb0
    · exact e
  have hmono : ∀ c x, r c = some x → (fun c => if c = b then some o else r c) c = some x := by
    intro c x hx
    by_cases hc : c = b
    · subst hc; rw [hr] at hx; cases hx
    · simp [hc, hx]
  refine ⟨h2, fun c => if c = b then some o else r c, ⟨H.os, H.out, H.tape, ?_, fun c x hx => H.subH c x (hs.le2 c x hx), ?_⟩, fun _ => none, h2, fun c => .inr ⟨rfl, rfl⟩, ?_, starL_mono hl hmono⟩
  · intro c
    by_cases hc : c = b
    · subst hc; left; exact hb2
    · simp only [hc, if_false]
      rcases H.disj c with e | e
      · left; exact (hs.non e).2
      · exact .inr e
  · intro c x hx
    by_cases hc : c = b
    · subst hc; simp only [if_true] at hx; rw [← hx]; exact H.subH _ _ hb0
    · simp only [hc, if_false] at hx; exact H.subR c x hx
  · show (if b = b then some o else r b) = some o
    simp

/-- Two owned blocks are two. -/
theorem Sat.own_ne {G : Gl} {w : World} {b c : Nat} {o o' : Obj} {L : List HP} (h : Sat G w (own b o :: own c o' :: L)) : b ≠ c := by
  obtain ⟨h0, r, H, h1, h2, hs, ha, k1, k2, ks, ka, _⟩ := h
  rintro rfl
  have e1 : h1 b = some o := ha
  have e2 : h2 b = some o' := ks.le1 _ _ ka
  rcases hs.disj b with e | e
  · rw [e] at e1; cases e1
  · rw [e] at e2; cases e2

end Go.Proofs.YtealmijbkebipaaGreatDoor

namespace Go.Proofs.YtealmijbkebipaaGreatDoor
open Go

/-! ### What a frame comes to -/

def baseF (f : FuncId) (ro : Option Nat) : Frame := { (default : Frame) with fn := f, kind := .normal, roundOf := ro }
@[simp] theorem baseF_ro (f : FuncId) (ro : Option Nat) : (baseF f ro).roundOf = ro := rfl
@[simp] theorem baseF_fn (f : FuncId) (ro : Option Nat) : (baseF f ro).fn = f := rfl
@[simp] theorem baseF_kind (f : FuncId) (ro : Option Nat) : (baseF f ro).kind = .normal := rfl

def FinR (P : Program) (f : FuncId) (ro : Option Nat) (m : Machine) (cs : List Frame) (v : Value) (w' : World) : Prop :=
  match ro with
  | none => ∃ fr, Steps P m (lone fr cs w') ∧ fr.fn = f ∧ fr.leaving P w' (.returned v)
  | some _ => ∃ c cs', cs = c :: cs' ∧ Steps P m (lone (c.finish v) cs' w')

theorem FinR.head {P : Program} {f : FuncId} {ro : Option Nat} {m m1 : Machine} {cs : List Frame} {v : Value} {w' : World}
    (h : Steps P m m1) (k : FinR P f ro m1 cs v w') : FinR P f ro m cs v w' := by
  cases ro with
  | none => obtain ⟨fr, s, a⟩ := k; exact ⟨fr, h.trans s, a⟩
  | some l => obtain ⟨c, cs', e, s⟩ := k; exact ⟨c, cs', e, h.trans s⟩

def Run (P : Program) (f : FuncId) (ro : Option Nat) (ds : List Deferred) (k : List Item) (tmps : Array Value) (w : World) (R : Value → World → Prop) : Prop :=
  ∀ cs : List Frame, (ro.isSome = true → cs ≠ []) → ∃ v w', R v w' ∧ FinR P f ro (lone ((baseF f ro).atR ⟨tmps, ds⟩ k) cs w) cs v w'

theorem Run.step {P : Program} {f : FuncId} {ro : Option Nat} {ds ds' : List Deferred} {k k' : List Item} {tmps tmps' : Array Value} {w w' : World} {R : Value → World → Prop}
    (h : ∀ cs, Steps P (lone ((baseF f ro).atR ⟨tmps, ds⟩ k) cs w) (lone ((baseF f ro).atR ⟨tmps', ds'⟩ k') cs w'))
    (r : Run P f ro ds' k' tmps' w' R) : Run P f ro ds k tmps w R := by
  intro cs hcs
  obtain ⟨v, w2, hv, hf⟩ := r cs hcs
  exact ⟨v, w2, hv, hf.head (h cs)⟩

/-- A round of a loop over a function, called from whatever frame. -/
def RoundC (P : Program) (l : Nat) (f : FuncId) (tmps : Array Value) (assign body : Code) (w : World) (R : Value → World → Prop) : Prop :=
  ∀ (c : Frame) (cs : List Frame), ∃ v w', R v w' ∧ Steps P (lone (Frame.round l f tmps assign body .normal) (c :: cs) w) (lone (c.finish v) cs w')

def CallsR (P : Program) (f : FuncId) (args : Array Value) (w : World) (R : Value → World → Prop) : Prop :=
  Calls P f args w fun e w' => ∃ v, e = .returned v ∧ R v w'

theorem CallsR.steps {P : Program} {f : FuncId} {args : Array Value} {w : World} {R : Value → World → Prop} (h : CallsR P f args w R) (c : Frame) (cs : List Frame) :
    ∃ v w', R v w' ∧ Steps P (lone (Frame.enter P f args .normal) (c :: cs) w) (lone (c.finish v) cs w') := by
  obtain ⟨e, w', fr, ⟨v, he, hR⟩, hs, _, hl⟩ := h (c :: cs)
  subst he
  exact ⟨v, w', hR, Steps.trans hs (.one (step_leave_returned hl))⟩

/-- What a step's outcome comes to. -/
def NextC (P : Program) (nx : Next) (w : World) (Φ : Value → World → Prop) : Prop :=
  match nx with
  | .value v => Φ v w
  | .skip => Φ undef w
  | .enter f args => CallsR P f args w Φ
  | .round l f tmps assign body => RoundC P l f tmps assign body w Φ
  | _ => False

def SemC (P : Program) (s : Sem Next) (w : World) (Φ : Value → World → Prop) : Prop :=
  match s.run P w with
  | .ok nx w' => NextC P nx w' Φ
  | .halt _ _ => False

theorem NextC.mono {P : Program} {nx : Next} {w : World} {Φ Ψ : Value → World → Prop} (h : NextC P nx w Φ) (hm : ∀ v w, Φ v w → Ψ v w) : NextC P nx w Ψ := by
  cases nx <;> simp only [NextC] at h ⊢
  case value => exact hm _ _ h
  case skip => exact hm _ _ h
  case enter f args => exact Calls.mono h fun e w' ⟨v, he, hv⟩ => ⟨v, he, hm _ _ hv⟩
  case round l f tmps a b => exact fun c cs => let ⟨v, w', hv, hs⟩ := h c cs; ⟨v, w', hm _ _ hv, hs⟩
theorem SemC.mono {P : Program} {s : Sem Next} {w : World} {Φ Ψ : Value → World → Prop} (h : SemC P s w Φ) (hm : ∀ v w, Φ v w → Ψ v w) : SemC P s w Ψ := by
  unfold SemC at h ⊢
  split <;> rename_i heq <;> rw [heq] at h
  · exact NextC.mono h hm
  · exact h.elim

theorem SemC.value {P : Program} {s : Sem Next} {w w' : World} {v : Value} {Φ : Value → World → Prop} (h : s.run P w = .ok (.value v) w') (hv : Φ v w') : SemC P s w Φ := by
  unfold SemC; rw [h]; exact hv
theorem SemC.skip {P : Program} {s : Sem Next} {w w' : World} {Φ : Value → World → Prop} (h : s.run P w = .ok .skip w') (hv : Φ undef w') : SemC P s w Φ := by
  unfold SemC; rw [h]; exact hv

attribute [irreducible] SemC

/-- A value that is a function, called with these arguments. -/
def CallV (P : Program) (fv : Value) (args : Array Value) (w : World) (Φ : Value → World → Prop) : Prop :=
  SemC P (do let d ← Deferred.ofValue fv args; invoke d.target d.args) w Φ

section steps
variable {P : Program} {f : FuncId} {ro : Option Nat} {ds : List Deferred} {k : List Item} {tmps : Array Value} {w : World} {R : Value → World → Prop} {ops : Array Oper}

theorem Run.op {i : Nat} {rest : List Nat} {o : Oper} (ho : ops[i]? = some o) (hw : Region.wanted o (yielded ops tmps) = true) (hd : ∀ c, o.op ≠ .defer c)
    (h : SemC P (execOp (Act.eval ⟨tmps, ds⟩) o) w fun v w' => Run P f ro ds (.inRegion ops rest :: k) (Act.put ⟨tmps, ds⟩ o.dst v).tmps w' R) :
    Run P f ro ds (.inRegion ops (i :: rest) :: k) tmps w R := by
  intro cs hcs
  have hg := stepGR_op (P := P) (b := baseF f ro) (a := ⟨tmps, ds⟩) (k := k) (cs := cs) (w := w) (rest := rest) ho hw
  rw [Oper.semAt_eq _ _ _ hd] at hg
  have hfin : ∀ v, ((baseF f ro).atR ⟨tmps, ds⟩ (.inRegion ops (i :: rest) :: k)).finish v =
      (baseF f ro).atR ⟨(Act.put ⟨tmps, ds⟩ o.dst v).tmps, ds⟩ (.inRegion ops rest :: k) := by
    intro v; rw [Frame.finish_atR, ho]
    cases hdst : o.dst <;> simp [Act.put, hdst]
  have hkind : ((baseF f ro).atR ⟨tmps, ds⟩ (.inRegion ops (i :: rest) :: k)).todo = .inRegion ops (i :: rest) :: k := rfl
  unfold SemC at h
  cases hr : (execOp (Act.eval ⟨tmps, ds⟩) o).run P w with
  | halt x w' => rw [hr] at h; exact h.elim
  | ok nx w' =>
    rw [hr] at h
    cases nx <;> simp only [NextC] at h
    case value v =>
      obtain ⟨u, w2, hu, hF⟩ := h cs hcs
      refine ⟨u, w2, hu, hF.head (.one (step_lone_go ?_))⟩
      rw [hg, ← hfin]; simp [stepG.apply, hr]
    case skip =>
      obtain ⟨u, w2, hu, hF⟩ := h cs hcs
      refine ⟨u, w2, hu, hF.head (.one (step_lone_go ?_))⟩
      rw [hg, ← hfin]; simp [stepG.apply, hr]
    case enter g args =>
      obtain ⟨v, w1, hK, hs⟩ := CallsR.steps h ((baseF f ro).atR ⟨tmps, ds⟩ (.inRegion ops (i :: rest) :: k)) cs
      obtain ⟨u, w2, hu, hF⟩ := hK cs hcs
      refine ⟨u, w2, hu, hF.head (.head (m₁ := lone (Frame.enter P g args .normal) ((baseF f ro).atR ⟨tmps, ds⟩ (.inRegion ops (i :: rest) :: k) :: cs) w') ?_ ?_)⟩
      · exact step_lone_go (by rw [hg]; simp [stepG.apply, hr, Frame.atR])
      · rw [← hfin]; exact hs
    case round l g tm as bd =>
      obtain ⟨v, w1, hK, hs⟩ := h ((baseF f ro).atR ⟨tmps, ds⟩ (.inRegion ops (i :: rest) :: k)) cs
      obtain ⟨u, w2, hu, hF⟩ := hK cs hcs
      refine ⟨u, w2, hu, hF.head (.head (m₁ := lone (Frame.round l g tm as bd .normal) ((baseF f ro).atR ⟨tmps, ds⟩ (.inRegion ops (i :: rest) :: k) :: cs) w') ?_ ?_)⟩
      · exact step_lone_go (by rw [hg]; simp [stepG.apply, hr, Frame.atR])
      · rw [← hfin]; exact hs

theorem Run.op_skip {i : Nat} {rest : List Nat} {o : Oper} (ho : ops[i]? = some o) (hw : Region.wanted o (yielded ops tmps) = false)
    (h : Run P f ro ds (.inRegion ops rest :: k) (Act.put ⟨tmps, ds⟩ o.dst undef).tmps w R) : Run P f ro ds (.inRegion ops (i :: rest) :: k) tmps w R := by
  refine Run.step (fun cs => .one ?_) h
  have hs := stepR_op_skip (P := P) (b := baseF f ro) (a := ⟨tmps, ds⟩) (k := k) (cs := cs) (w := w) (ops := ops) (i := i) (rest := rest) (by simp [ho, hw])
  rw [hs, ho]
  cases hdst : o.dst <;> simp [Act.put, hdst]

theorem Run.seq {a b : Code} (h : Run P f ro ds (.code a :: .code b :: k) tmps w R) : Run P f ro ds (.code (.seq a b) :: k) tmps w R := h.step fun _ => .one stepR_seq
theorem Run.skip (h : Run P f ro ds k tmps w R) : Run P f ro ds (.code .skip :: k) tmps w R := h.step fun _ => .one stepR_skip
theorem Run.inBlock {id : Nat} (h : Run P f ro ds k tmps w R) : Run P f ro ds (.inBlock id :: k) tmps w R := h.step fun _ => .one stepR_inBlock
theorem Run.block {id : Nat} {c : Code} (h : Run P f ro ds (.code c :: .inBlock id :: k) tmps w R) : Run P f ro ds (.code (.block id c) :: k) tmps w R := h.step fun _ => .one stepR_block
theorem Run.loop {c : Code} (h : Run P f ro ds (.code c :: .inLoop c :: k) tmps w R) : Run P f ro ds (.code (.loop c) :: k) tmps w R := h.step fun _ => .one stepR_loop
theorem Run.inLoop {c : Code} (h : Run P f ro ds (.code c :: .inLoop c :: k) tmps w R) : Run P f ro ds (.inLoop c :: k) tmps w R := h.step fun _ => .one stepR_inLoop
theorem Run.exit {id : Nat} {k' : List Item} (he : exitTo id k = some k') (h : Run P f ro ds k' tmps w R) : Run P f ro ds (.code (.exit id) :: k) tmps w R := h.step fun _ => .one (stepR_exit he)
theorem Run.cond {c : Operand} {x y : Code} {t : Bool} (hc : (⟨tmps, ds⟩ : Act).eval c = .bool t) (h : Run P f ro ds (.code (if t then x else y) :: k) tmps w R) :
    Run P f ro ds (.code (.cond c x y) :: k) tmps w R := h.step fun _ => .one (stepR_cond hc)
theorem Run.region {id : Nat} (h : Run P f ro ds (.inRegion ops (List.range ops.size) :: k) tmps w R) : Run P f ro ds (.code (.region id ops false) :: k) tmps w R := h.step fun _ => .one stepR_region
theorem Run.region_draw {id : Nat} (h : ∀ t, Run P f ro ds (.inRegion ops (Region.schedule (P.follows .mixedOrders) ops t) :: k) tmps { w with drawn := w.drawn + 1 } R) :
    Run P f ro ds (.code (.region id ops true) :: k) tmps w R := (h _).step fun _ => .one stepR_region_draw
theorem Run.region_end (h : Run P f ro ds k tmps w R) : Run P f ro ds (.inRegion ops [] :: k) tmps w R := h.step fun _ => .one stepR_region_end

theorem Run.ret {fn : Func} {v : Value} (hf : P.funcs[f]? = some fn) (hro : ro = none) (hds : ds = []) (hr : (results fn tmps).run P w = .ok v w) (h : R v w) : Run P f ro ds (.code .ret :: k) tmps w R := by
  subst hro hds
  exact fun cs _ => ⟨v, w, h, _, .one (stepR_ret rfl), rfl, rfl, rfl, rfl, fn, hf, hr⟩
theorem Run.end_ {fn : Func} {v : Value} (hf : P.funcs[f]? = some fn) (hro : ro = none) (hds : ds = []) (hr : (results fn tmps).run P w = .ok v w) (h : R v w) : Run P f ro ds [] tmps w R := by
  subst hro hds
  exact fun cs _ => ⟨v, w, h, _, .one (stepR_end rfl), rfl, rfl, rfl, rfl, fn, hf, hr⟩
end steps

theorem callsR_of_run {P : Program} {f : FuncId} {fn : Func} {c : Code} {args : Array Value} {w : World} {R : Value → World → Prop} (hf : P.funcs[f]? = some fn) (hb : fn.body = some c)
    (h : Run P f none [] [.code c] (args ++ Array.replicate (fn.ntmps - args.size) undef) w R) : CallsR P f args w R := by
  intro cs
  obtain ⟨v, w', hv, fr, hs, h1, h2⟩ := h cs (by simp)
  refine ⟨.returned v, w', fr, ⟨v, rfl, hv⟩, ?_, h1, h2⟩
  have henter : Frame.enter P f args .normal = (baseF f none).atR ⟨args ++ Array.replicate (fn.ntmps - args.size) undef, []⟩ [.code c] := by
    simp [Frame.enter, Frame.atR, hf, hb, baseF]
  rw [henter]; exact hs

/-! ### Temporaries, known by name -/

abbrev Env := List (Nat × Value)

def lk : Env → Nat → Option Value
  | [], _ => none
  | (d, v) :: e, s => bif Nat.beq d s then some v else lk e s

def ev (e : Env) : Operand → Option Value
  | .tmp t => lk e t
  | .const v => some v
  | .global g => some (.pointer (some ⟨g, 0, none⟩))
  | .func f => some (.func (.func f) #[] #[])

def evs (e : Env) : List Operand → Option (List Value)
  | [] => some []
  | o :: os => match ev e o, evs e os with
    | some v, some vs => some (v :: vs)
    | _, _ => none

structure Agree (n : Nat) (e : Env) (tmps : Array Value) : Prop where
  size : tmps.size = n
  get : ∀ s v, lk e s = some v → tmps[s]? = some v

theorem Agree.ev {n : Nat} {e : Env} {tmps : Array Value} (h : Agree n e tmps) {o : Operand} {v : Value} (ho : ev e o = some v) (ds : List Deferred) : (⟨tmps, ds⟩ : Act).eval o = v := by
  cases o with
  | tmp t => have := h.get t v ho; simp [Act.eval, Array.getD_eq_getD_getElem?, this]
  | const u => simpa [Act.eval, Go.Proofs.YtealmijbkebipaaGreatDoor.ev] using ho
  | global g => simpa [Act.eval, Go.Proofs.YtealmijbkebipaaGreatDoor.ev] using ho
  | func f => simpa [Act.eval, Go.Proofs.YtealmijbkebipaaGreatDoor.ev] using ho

theorem Agree.evs {n : Nat} {e : Env} {tmps : Array Value} (h : Agree n e tmps) (ds : List Deferred) : ∀ {os : List Operand} {vs : List Value}, evs e os = some vs → os.map (⟨tmps, ds⟩ : Act).eval = vs := by
  intro os
  induction os with
  | nil => intro vs hv; simp [Go.Proofs.YtealmijbkebipaaGreatDoor.evs] at hv; simp [hv]
  | cons o os ih =>
    intro vs hv
    simp only [Go.Proofs.YtealmijbkebipaaGreatDoor.evs] at hv
    split at hv
    · rename_i v vs' h1 h2
      cases hv
      simp [h.ev h1 ds, ih h2]
    · cases hv

theorem Agree.put {n : Nat} {e : Env} {tmps : Array Value} (h : Agree n e tmps) {d : Nat} (hd : Nat.blt d n = true) (v : Value) : Agree n ((d, v) :: e) (tmps.setIfInBounds d v) := by
  refine ⟨by simp [h.size], fun s u hs => ?_⟩
  simp only [lk] at hs
  have hd' : d < n := Nat.le_of_ble_eq_true hd
  by_cases hds : d = s
  · subst hds
    rw [show Nat.beq d d = true from Nat.beq_refl d, cond_true] at hs
    cases hs
    rw [Array.getElem?_setIfInBounds_self_of_lt (by rw [h.size]; exact hd')]
  · rw [show Nat.beq d s = false from by simpa [Nat.beq_eq_true_eq] using (Bool.eq_false_iff.2 (fun hh => hds (Nat.eq_of_beq_eq_true hh)))] at hs
    simp only [cond_false] at hs
    rw [Array.getElem?_setIfInBounds_ne hds]
    exact h.get s u hs

def envLe : Env → Env → Prop
  | [], _ => True
  | (s, v) :: E, e => lk e s = some v ∧ envLe E e

theorem envLe.get {E e : Env} (h : envLe E e) : ∀ s v, lk E s = some v → lk e s = some v := by
  induction E with
  | nil => intro s v hs; cases hs
  | cons p E ih =>
    obtain ⟨d, u⟩ := p
    intro s v hs
    simp only [lk] at hs
    by_cases hds : Nat.beq d s = true
    · rw [hds, cond_true] at hs
      cases hs
      have := Nat.eq_of_beq_eq_true hds
      subst this
      exact h.1
    · rw [Bool.eq_false_iff.2 hds, cond_false] at hs
      exact ih h.2 s v hs
theorem Agree.le {n : Nat} {E e : Env} {tmps : Array Value} (h : Agree n e tmps) (le : envLe E e) : Agree n E tmps := ⟨h.size, fun s v hs => h.get s v (le.get s v hs)⟩

/-! ### What is owed -/

structure Cx where
  f : FuncId
  ro : Option Nat
  n : Nat
  G : Gl
  R : Value → World → Prop

def Wk (P : Program) (C : Cx) (ds : List Deferred) (k : List Item) (e : Env) (L : List HP) : Prop :=
  ∀ w tmps, Sat C.G w L → Agree C.n e tmps → Run P C.f C.ro ds k tmps w C.R

/-- What an operation does, whatever comes then. -/
def OpW (P : Program) (C : Cx) (o : Oper) (e : Env) (L : List HP) (K : Value → List HP → Prop) : Prop :=
  ∀ w tmps ds, Sat C.G w L → Agree C.n e tmps → SemC P (execOp (Act.eval ⟨tmps, ds⟩) o) w fun v w' => ∃ L', Sat C.G w' L' ∧ K v L'

/-- An operation that leaves the world as it is. -/
def OpV (P : Program) (C : Cx) (o : Op) (t : TypeId) (e : Env) (L : List HP) (v : Value) : Prop :=
  ∀ w tmps ds pos after guard dst, Sat C.G w L → Agree C.n e tmps → (execOp (Act.eval ⟨tmps, ds⟩) ⟨dst, o, t, pos, after, guard⟩).run P w = .ok (.value v) w

/-- A region's operations, in the order of the text. -/
def Wo (P : Program) (C : Cx) (ds : List Deferred) (all : Array Oper) (i : Nat) (os : List Oper) (k : List Item) (e : Env) (L : List HP) : Prop :=
  all.toList.drop i = os → ∀ w tmps, Sat C.G w L → Agree C.n e tmps → Run P C.f C.ro ds (.inRegion all (List.range' i os.length) :: k) tmps w C.R

section rules
variable {P : Program} {C : Cx} {ds : List Deferred} {k : List Item} {e : Env} {L : List HP}

theorem Wk.use {E : Env} {M : List HP} (h : Wk P C ds k E M) (he : envLe E e) (hl : Ent L M) : Wk P C ds k e L :=
  fun w tmps hs ha => h w tmps (hl.sat hs) (ha.le he)

theorem wk_ent {M : List HP} (hl : Ent L M) (h : Wk P C ds k e M) : Wk P C ds k e L := fun w tmps hs ha => h w tmps (hl.sat hs) ha
theorem wo_ent {all : Array Oper} {i : Nat} {os : List Oper} {M : List HP} (hl : Ent L M) (h : Wo P C ds all i os k e M) : Wo P C ds all i os k e L := fun hd w tmps hs ha => h hd w tmps (hl.sat hs) ha

theorem wk_seq {a b : Code} (h : Wk P C ds (.code a :: .code b :: k) e L) : Wk P C ds (.code (.seq a b) :: k) e L := fun w t s a' => (h w t s a').seq
theorem wk_skip (h : Wk P C ds k e L) : Wk P C ds (.code .skip :: k) e L := fun w t s a' => (h w t s a').skip
theorem wk_label {l : Nat} (h : Wk P C ds k e L) : Wk P C ds (.code (.label l) :: k) e L := fun w t s a' => (h w t s a').step fun _ => .one stepR_label
theorem wk_scope {c : Code} (h : Wk P C ds (.code c :: .inScope c :: k) e L) : Wk P C ds (.code (.scope c) :: k) e L := fun w t s a' => (h w t s a').step fun _ => .one (step_lone_go (by simp [stepG, stepG.exec, Frame.atR]))
theorem wk_inScope {c : Code} (h : Wk P C ds k e L) : Wk P C ds (.inScope c :: k) e L := fun w t s a' => (h w t s a').step fun _ => .one (step_lone_go (by simp [stepG, stepG.exec, Frame.atR]))
theorem wk_inBlock {id : Nat} (h : Wk P C ds k e L) : Wk P C ds (.inBlock id :: k) e L := fun w t s a' => (h w t s a').inBlock
theorem wk_block {id : Nat} {c : Code} (h : Wk P C ds (.code c :: .inBlock id :: k) e L) : Wk P C ds (.code (.block id c) :: k) e L := fun w t s a' => (h w t s a').block
theorem wk_exit {id : Nat} {k' : List Item} (he : exitTo id k = some k') (h : Wk P C ds k' e L) : Wk P C ds (.code (.exit id) :: k) e L := fun w t s a' => (h w t s a').exit he
theorem wk_cond {c : Operand} {x y : Code} {t : Bool} (hc : ev e c = some (.bool t)) (h1 : t = true → Wk P C ds (.code x :: k) e L) (h2 : t = false → Wk P C ds (.code y :: k) e L) :
    Wk P C ds (.code (.cond c x y) :: k) e L := by
  intro w tm s a'
  refine Run.cond (t := t) (a'.ev hc ds) ?_
  cases t
  · exact h2 rfl w tm s a'
  · exact h1 rfl w tm s a'
theorem wk_condT {c : Operand} {x y : Code} (hc : ev e c = some (.bool true)) (h1 : Wk P C ds (.code x :: k) e L) : Wk P C ds (.code (.cond c x y) :: k) e L := wk_cond hc (fun _ => h1) (fun h => by cases h)
theorem wk_condF {c : Operand} {x y : Code} (hc : ev e c = some (.bool false)) (h1 : Wk P C ds (.code y :: k) e L) : Wk P C ds (.code (.cond c x y) :: k) e L := wk_cond hc (fun h => by cases h) (fun _ => h1)

theorem wk_region {id : Nat} {l : List Oper} (h : Wo P C ds l.toArray 0 l k e L) : Wk P C ds (.code (.region id l.toArray false) :: k) e L := by
  intro w tm s a'
  refine Run.region ?_
  have := h (by simp) w tm s a'
  rw [List.range_eq_range']
  simpa using this

theorem wo_nil {all : Array Oper} {i : Nat} (h : Wk P C ds k e L) : Wo P C ds all i [] k e L := fun _ w tm s a' => by
  simpa using (h w tm s a').region_end

theorem drop_head {α : Type} {l : List α} {i : Nat} {o : α} {os : List α} (h : l.drop i = o :: os) : l[i]? = some o ∧ l.drop (i + 1) = os := by
  constructor
  · have := congrArg List.head? h
    simpa [List.head?_drop] using this
  · have := congrArg List.tail h
    simpa [List.tail_drop] using this

/-- One operation of the region, not guarded. -/
theorem wo_op {all : Array Oper} {i d : Nat} {op : Op} {ty : TypeId} {pos : String} {after : Array Edge} {os : List Oper} (hd : Nat.blt d C.n = true) (hdef : ∀ c, op ≠ .defer c)
    (h : OpW P C ⟨some d, op, ty, pos, after, none⟩ e L fun v L' => Wo P C ds all (i + 1) os k ((d, v) :: e) L') : Wo P C ds all i (⟨some d, op, ty, pos, after, none⟩ :: os) k e L := by
  intro hdr w tm s a'
  obtain ⟨h1, h2⟩ := drop_head hdr
  rw [show List.range' i (List.length (_ :: os)) = i :: List.range' (i + 1) os.length from by simp [List.range'_succ]]
  refine Run.op (o := ⟨some d, op, ty, pos, after, none⟩) (by simpa using h1) rfl hdef ?_
  refine (h w tm ds s a').mono ?_
  rintro v w' ⟨L', hs, hK⟩
  exact hK h2 w' _ hs (a'.put hd v)

theorem wo_op0 {all : Array Oper} {i : Nat} {op : Op} {ty : TypeId} {pos : String} {after : Array Edge} {os : List Oper} (hdef : ∀ c, op ≠ .defer c)
    (h : OpW P C ⟨none, op, ty, pos, after, none⟩ e L fun _ L' => Wo P C ds all (i + 1) os k e L') : Wo P C ds all i (⟨none, op, ty, pos, after, none⟩ :: os) k e L := by
  intro hdr w tm s a'
  obtain ⟨h1, h2⟩ := drop_head hdr
  rw [show List.range' i (List.length (_ :: os)) = i :: List.range' (i + 1) os.length from by simp [List.range'_succ]]
  refine Run.op (o := ⟨none, op, ty, pos, after, none⟩) (by simpa using h1) rfl hdef ?_
  refine (h w tm ds s a').mono ?_
  rintro v w' ⟨L', hs, hK⟩
  exact hK h2 w' _ hs a'

theorem OpV.w {o : Op} {t : TypeId} {v : Value} (h : OpV P C o t e L v) {K : Value → List HP → Prop} (hk : K v L) {pos : String} {after : Array Edge} {guard : Option (Nat × Bool)} {dst : Option Tmp} :
    OpW P C ⟨dst, o, t, pos, after, guard⟩ e L K := fun w tm ds s a' => SemC.value (h w tm ds pos after guard dst s a') ⟨L, s, hk⟩

/-- A guarded operation: what it hangs on is known by name. -/
theorem wanted_of {all : Array Oper} {tm : Array Value} {n j t : Nat} {b want : Bool} {o : Oper} (hj : (all[j]?).bind (·.dst) = some t) (a' : Agree n e tm) (ht : lk e t = some (.bool b)) (hg : o.guard = some (j, want)) :
    Region.wanted o (yielded all tm) = (b == want) := by
  have h1 := a'.get t _ ht
  simp [Region.wanted, hg, yielded, hj, h1]

theorem wo_guardT {all : Array Oper} {i d j t : Nat} {want : Bool} {op : Op} {ty : TypeId} {pos : String} {after : Array Edge} {os : List Oper}
    (hj : (all[j]?).bind (·.dst) = some t) (ht : lk e t = some (.bool want)) (hd : Nat.blt d C.n = true) (hdef : ∀ c, op ≠ .defer c)
    (h : OpW P C ⟨some d, op, ty, pos, after, some (j, want)⟩ e L fun v L' => Wo P C ds all (i + 1) os k ((d, v) :: e) L') : Wo P C ds all i (⟨some d, op, ty, pos, after, some (j, want)⟩ :: os) k e L := by
  intro hdr w tm s a'
  obtain ⟨h1, h2⟩ := drop_head hdr
  rw [show List.range' i (List.length (_ :: os)) = i :: List.range' (i + 1) os.length from by simp [List.range'_succ]]
  refine Run.op (o := ⟨some d, op, ty, pos, after, some (j, want)⟩) (by simpa using h1) (by rw [wanted_of hj a' ht rfl]; simp) hdef ?_
  refine (h w tm ds s a').mono ?_
  rintro v w' ⟨L', hs, hK⟩
  exact hK h2 w' _ hs (a'.put hd v)

theorem wo_guardT0 {all : Array Oper} {i j t : Nat} {want : Bool} {op : Op} {ty : TypeId} {pos : String} {after : Array Edge} {os : List Oper}
    (hj : (all[j]?).bind (·.dst) = some t) (ht : lk e t = some (.bool want)) (hdef : ∀ c, op ≠ .defer c)
    (h : OpW P C ⟨none, op, ty, pos, after, some (j, want)⟩ e L fun _ L' => Wo P C ds all (i + 1) os k e L') : Wo P C ds all i (⟨none, op, ty, pos, after, some (j, want)⟩ :: os) k e L := by
  intro hdr w tm s a'
  obtain ⟨h1, h2⟩ := drop_head hdr
  rw [show List.range' i (List.length (_ :: os)) = i :: List.range' (i + 1) os.length from by simp [List.range'_succ]]
  refine Run.op (o := ⟨none, op, ty, pos, after, some (j, want)⟩) (by simpa using h1) (by rw [wanted_of hj a' ht rfl]; simp) hdef ?_
  refine (h w tm ds s a').mono ?_
  rintro v w' ⟨L', hs, hK⟩
  exact hK h2 w' _ hs a'

theorem wo_guardF {all : Array Oper} {i d j t : Nat} {b want : Bool} {op : Op} {ty : TypeId} {pos : String} {after : Array Edge} {os : List Oper}
    (hj : (all[j]?).bind (·.dst) = some t) (ht : lk e t = some (.bool b)) (hb : (b == want) = false) (hd : Nat.blt d C.n = true)
    (h : Wo P C ds all (i + 1) os k ((d, undef) :: e) L) : Wo P C ds all i (⟨some d, op, ty, pos, after, some (j, want)⟩ :: os) k e L := by
  intro hdr w tm s a'
  obtain ⟨h1, h2⟩ := drop_head hdr
  rw [show List.range' i (List.length (_ :: os)) = i :: List.range' (i + 1) os.length from by simp [List.range'_succ]]
  refine Run.op_skip (o := ⟨some d, op, ty, pos, after, some (j, want)⟩) (by simpa using h1) (by rw [wanted_of hj a' ht rfl]; exact hb) ?_
  exact h h2 w _ s (a'.put hd undef)

theorem wo_guardF0 {all : Array Oper} {i j t : Nat} {b want : Bool} {op : Op} {ty : TypeId} {pos : String} {after : Array Edge} {os : List Oper}
    (hj : (all[j]?).bind (·.dst) = some t) (ht : lk e t = some (.bool b)) (hb : (b == want) = false)
    (h : Wo P C ds all (i + 1) os k e L) : Wo P C ds all i (⟨none, op, ty, pos, after, some (j, want)⟩ :: os) k e L := by
  intro hdr w tm s a'
  obtain ⟨h1, h2⟩ := drop_head hdr
  rw [show List.range' i (List.length (_ :: os)) = i :: List.range' (i + 1) os.length from by simp [List.range'_succ]]
  refine Run.op_skip (o := ⟨none, op, ty, pos, after, some (j, want)⟩) (by simpa using h1) (by rw [wanted_of hj a' ht rfl]; exact hb) ?_
  exact h h2 w _ s a'

/-- A bool that is known by name, both ways: the name is bound anew. -/
theorem wo_split {all : Array Oper} {i t : Nat} {b : Bool} {os : List Oper} (ht : lk e t = some (.bool b))
    (h1 : b = true → Wo P C ds all i os k ((t, .bool true) :: e) L) (h2 : b = false → Wo P C ds all i os k ((t, .bool false) :: e) L) : Wo P C ds all i os k e L := by
  intro hdr w tm s a'
  have key : Agree C.n ((t, .bool b) :: e) tm := ⟨a'.size, fun x v hx => by
    simp only [lk] at hx
    by_cases hxt : Nat.beq t x = true
    · rw [hxt, cond_true] at hx; cases hx
      have := Nat.eq_of_beq_eq_true hxt
      subst this; exact a'.get _ _ ht
    · rw [Bool.eq_false_iff.2 hxt, cond_false] at hx; exact a'.get _ _ hx⟩
  cases b
  · exact h2 rfl hdr w tm s key
  · exact h1 rfl hdr w tm s key

theorem wk_nf {α : Type} {p : α → Prop} {l : α → List HP} (h : ∀ a, p a → Wk P C ds k e (l a ++ L)) : Wk P C ds k e (nf p l :: L) := by
  intro w tm s a'
  obtain ⟨h0, r, H, h1, h2, hs, ⟨a, hp, k1⟩, k2⟩ := s
  exact h a hp w tm ⟨h0, r, H, starL_append.2 ⟨h1, h2, hs, k1, k2⟩⟩ a'
theorem wo_nf {all : Array Oper} {i : Nat} {os : List Oper} {α : Type} {p : α → Prop} {l : α → List HP} (h : ∀ a, p a → Wo P C ds all i os k e (l a ++ L)) : Wo P C ds all i os k e (nf p l :: L) := by
  intro hdr w tm s a'
  obtain ⟨h0, r, H, h1, h2, hs, ⟨a, hp, k1⟩, k2⟩ := s
  exact h a hp hdr w tm ⟨h0, r, H, starL_append.2 ⟨h1, h2, hs, k1, k2⟩⟩ a'

/-- A plain fact that the row bears. -/
theorem wk_fact {p : Prop} (hp : ∀ G w, Sat G w L → p) (h : p → Wk P C ds k e L) : Wk P C ds k e L := fun w tm s a' => h (hp _ _ s) w tm s a'

/-- A loop. -/
theorem wk_loop {c : Code} {α : Type} (I : α → Prop) (E : α → Env) (M : α → List HP) (μ : α → Nat) (a0 : α) (h0 : I a0) (hE : envLe (E a0) e) (hM : Ent L (M a0))
    (round : ∀ a, I a → (∀ a', I a' → μ a' < μ a → Wk P C ds (.inLoop c :: k) (E a') (M a')) → Wk P C ds (.code c :: .inLoop c :: k) (E a) (M a)) :
    Wk P C ds (.code (.loop c) :: k) e L := by
  have key : ∀ n a, μ a = n → I a → Wk P C ds (.code c :: .inLoop c :: k) (E a) (M a) := by
    intro n
    induction n using Nat.strongRecOn with
    | _ n ih =>
      intro a hn hI
      exact round a hI fun a' hI' hlt w tm s g => (ih (μ a') (hn ▸ hlt) a' rfl hI' w tm s g).inLoop
  exact Wk.use (fun w tm s g => (key _ a0 rfl h0 w tm s g).loop) hE hM

/-- What follows is proved once, from a state that is named. -/
theorem wk_mid {x rest : Code} {α : Type} (φ : α → Prop) (E : α → Env) (M : α → List HP) (h : ∀ a, φ a → Wk P C ds (.code rest :: k) (E a) (M a))
    (g : (∀ a, φ a → Wk P C ds (.code rest :: k) (E a) (M a)) → Wk P C ds (.code x :: .code rest :: k) e L) : Wk P C ds (.code x :: .code rest :: k) e L := g h
end rules

/-! ### Results -/

def mkRes (vs : List Value) : Value := if h : vs.toArray.size = 1 then vs.toArray[0] else .tuple vs.toArray

def resOne (tm : Array Value) : ResultVar → Sem Value
  | .tmp t => pure (tm.getD t undef)
  | .cell a t => do loadVar t (← asAddr (tm.getD a undef))

/-- The results, read off. -/
def ResOK (P : Program) (C : Cx) (rs : List ResultVar) (e : Env) (L : List HP) (vs : List Value) : Prop :=
  ∀ w tmps, Sat C.G w L → Agree C.n e tmps → (rs.mapM (resOne tmps)).run P w = .ok vs w

section rets
variable {P : Program} {C : Cx} {k : List Item} {e : Env} {L : List HP}
theorem res_nil : ResOK P C [] e L [] := fun _ _ _ _ => rfl
theorem res_tmp {t : Nat} {v : Value} {rs : List ResultVar} {vs : List Value} (h : lk e t = some v) (hr : ResOK P C rs e L vs) : ResOK P C (.tmp t :: rs) e L (v :: vs) := by
  intro w tm s a'
  have h1 := a'.get t v h
  have h2 := hr w tm s a'
  simp [List.mapM_cons, resOne, Array.getD_eq_getD_getElem?, h1, h2]

theorem results_eq (fn : Func) (tm : Array Value) : results fn tm = (do let vs ← fn.results.mapM (resOne tm); pure (if h : vs.size = 1 then vs[0] else .tuple vs)) := by
  unfold results
  congr 2

theorem results_run {fn : Func} {tm : Array Value} {w : World} {vs : List Value} {rs : List ResultVar} (hrs : fn.results = rs.toArray)
    (h : (rs.mapM (resOne tm)).run P w = .ok vs w) : (results fn tm).run P w = .ok (mkRes vs) w := by
  simp only [results_eq, hrs, List.mapM_toArray, map_eq_pure_bind, bind_assoc, pure_bind, Sem.run_bind, mkRes]
  rw [h]
  simp only [Result.andThen_ok, Sem.run_pure]

theorem wk_ret {fn : Func} {rs : List ResultVar} {vs : List Value} (hf : P.funcs[C.f]? = some fn) (hrs : fn.results = rs.toArray) (hro : C.ro = none) (hr : ResOK P C rs e L vs)
    (hR : ∀ w, Sat C.G w L → C.R (mkRes vs) w) : Wk P C [] (.code .ret :: k) e L := fun w tm s a' => Run.ret hf hro rfl (results_run hrs (hr w tm s a')) (hR w s)
theorem wk_end {fn : Func} {rs : List ResultVar} {vs : List Value} (hf : P.funcs[C.f]? = some fn) (hrs : fn.results = rs.toArray) (hro : C.ro = none) (hr : ResOK P C rs e L vs)
    (hR : ∀ w, Sat C.G w L → C.R (mkRes vs) w) : Wk P C [] [] e L := fun w tm s a' => Run.end_ hf hro rfl (results_run hrs (hr w tm s a')) (hR w s)
end rets

/-! ### Contracts -/

/-- A Go function that may be called. -/
def HasBody (P : Program) (f : FuncId) : Prop := ∃ fn, P.funcs[f]? = some fn ∧ (fn.name == "runtime.NumGoroutine") = false ∧ fn.body.isNone = false

/-- A contract: from these assertions the call comes back with a value and these. -/
def FnSpec (P : Program) (f : FuncId) (args : Array Value) (Pre : List HP) {α : Type} (ret : α → Value) (fact : α → Prop) (Post : α → List HP → List HP) : Prop :=
  HasBody P f ∧ ∀ (G : Gl) (w : World) (R : List HP), Sat G w (Pre ++ R) → CallsR P f args w fun v w' => ∃ x, v = ret x ∧ fact x ∧ Sat G w' (Post x R)

/-- The same of a value that is a function. -/
def FvSpec (P : Program) (fv : Value) (args : Array Value) (Pre : List HP) {α : Type} (ret : α → Value) (fact : α → Prop) (Post : α → List HP → List HP) : Prop :=
  ∀ (G : Gl) (w : World) (R : List HP), Sat G w (Pre ++ R) → CallV P fv args w fun v w' => ∃ x, v = ret x ∧ fact x ∧ Sat G w' (Post x R)

theorem callFunc_run {P : Program} {f : FuncId} (hb : HasBody P f) (args : Array Value) (w : World) : (callFunc f args).run P w = .ok (.enter f args) w := by
  obtain ⟨fn, h1, h2, h3⟩ := hb
  have h2' : ¬ fn.name = "runtime.NumGoroutine" := by simpa using h2
  have h3' : ¬ fn.body = none := by intro h; simp [h] at h3
  simp [callFunc, h1, h2', h3']

theorem callV_func {P : Program} {f : FuncId} {first cap args : Array Value} {w : World} {Φ : Value → World → Prop} (hb : HasBody P f)
    (h : CallsR P f (first ++ args ++ cap) w Φ) : CallV P (.func (.func f) first cap) args w Φ := by
  unfold CallV SemC
  simp only [Deferred.ofValue, pure_bind, invoke, callFunc_run hb]
  exact h

theorem FnSpec.fv {P : Program} {f : FuncId} {first cap args : Array Value} {Pre : List HP} {α : Type} {ret : α → Value} {fact : α → Prop} {Post : α → List HP → List HP}
    (h : FnSpec P f (first ++ args ++ cap) Pre ret fact Post) : FvSpec P (.func (.func f) first cap) args Pre ret fact Post :=
  fun G w R hs => callV_func h.1 (h.2 G w R hs)

/-- How a contract is proved: the walk of its body. -/
theorem fn_intro {P : Program} {f : FuncId} {fn : Func} {c : Code} {args : List Value} {Pre : List HP} {α : Type} {ret : α → Value} {fact : α → Prop} {Post : α → List HP → List HP} {n : Nat} {E : Env}
    (hf : P.funcs[f]? = some fn) (hname : (fn.name == "runtime.NumGoroutine") = false) (hb : fn.body = some c) (hn : fn.ntmps = n) (hE : ∀ tmps, tmps.size = n → (∀ i, i < args.length → tmps[i]? = args[i]?) → Agree n E tmps) (hle : args.length ≤ n)
    (h : ∀ (G : Gl) (R : List HP), Wk P ⟨f, none, n, G, fun v w' => ∃ x, v = ret x ∧ fact x ∧ Sat G w' (Post x R)⟩ [] [.code c] E (Pre ++ R)) : FnSpec P f args.toArray Pre ret fact Post := by
  refine ⟨⟨fn, hf, hname, by simp [hb]⟩, fun G w R hs => callsR_of_run hf hb (h G R w _ hs ?_)⟩
  subst hn
  refine hE _ (by simp; omega) fun i hi => ?_
  rw [Array.getElem?_append_left (by simpa using hi)]
  simp

/-- The first temporaries are the arguments. -/
def argsEnv : Nat → List Value → Env
  | _, [] => []
  | i, v :: vs => (i, v) :: argsEnv (i + 1) vs
theorem lk_argsEnv : ∀ (vs : List Value) (i s : Nat) (v : Value), lk (argsEnv i vs) s = some v → i ≤ s ∧ vs[s - i]? = some v
  | [], _, _, _, h => by cases h
  | u :: vs, i, s, v, h => by
    simp only [argsEnv, lk] at h
    by_cases hs : Nat.beq i s = true
    · rw [hs, cond_true] at h; cases h
      have := Nat.eq_of_beq_eq_true hs
      subst this; simp
    · rw [Bool.eq_false_iff.2 hs, cond_false] at h
      obtain ⟨h1, h2⟩ := lk_argsEnv vs (i + 1) s v h
      refine ⟨by omega, ?_⟩
      rw [show s - i = (s - (i + 1)) + 1 from by omega]
      simpa using h2
theorem fn_spec {P : Program} {f : FuncId} {fn : Func} {c : Code} {args : List Value} {Pre : List HP} {α : Type} {ret : α → Value} {fact : α → Prop} {Post : α → List HP → List HP} {n : Nat}
    (hf : P.funcs[f]? = some fn) (hname : (fn.name == "runtime.NumGoroutine") = false) (hb : fn.body = some c) (hn : fn.ntmps = n) (hle : Nat.ble args.length n = true)
    (h : ∀ (G : Gl) (R : List HP), Wk P ⟨f, none, n, G, fun v w' => ∃ x, v = ret x ∧ fact x ∧ Sat G w' (Post x R)⟩ [] [.code c] (argsEnv 0 args) (Pre ++ R)) : FnSpec P f args.toArray Pre ret fact Post :=
  fn_intro hf hname hb hn (fun tm hs hg => ⟨hs, fun s v hv => by
    obtain ⟨_, h2⟩ := lk_argsEnv args 0 s v hv
    have hlt : s < args.length := (List.getElem?_eq_some_iff.1 h2).1
    rw [hg s hlt]; simpa using h2⟩) (by simpa [Nat.ble_eq] using hle) h

/-- A call of a function by its contract. -/
theorem w_call {P : Program} {C : Cx} {e : Env} {L M : List HP} {g : FuncId} {os : Array Operand} {ats : Array TypeId} {ty : TypeId} {pos : String} {after : Array Edge} {guard : Option (Nat × Bool)} {dst : Option Tmp}
    {args : Array Value} {Pre : List HP} {α : Type} {ret : α → Value} {fact : α → Prop} {Post : α → List HP → List HP} {K : Value → List HP → Prop} (sp : FnSpec P g args Pre ret fact Post)
    (ha : evs e os.toList = some args.toList) (ht : TakeL Pre L M) (h : ∀ x, fact x → K (ret x) (Post x M)) :
    OpW P C ⟨dst, .call ⟨.value (.func g), os, ats⟩, ty, pos, after, guard⟩ e L K := by
  intro w tm ds s a'
  have hargs : os.map (Act.eval ⟨tm, ds⟩) = args := by
    have h1 := a'.evs ds ha
    apply Array.toList_inj.1
    simpa using h1
  have hrun : (execOp (Act.eval ⟨tm, ds⟩) ⟨dst, .call ⟨.value (.func g), os, ats⟩, ty, pos, after, guard⟩).run P w = .ok (.enter g args) w := by
    simp [execOp, resolve, Act.eval, Deferred.ofValue, invoke, hargs, callFunc_run sp.1]
  unfold SemC
  rw [hrun]
  exact Calls.mono (sp.2 C.G w M (ht.sat s)) fun en w' ⟨v, he, x, hv, hf, hs⟩ => ⟨v, he, Post x M, hs, by rw [hv]; exact h x hf⟩

/-- A call of a value that is a function. -/
theorem w_callv {P : Program} {C : Cx} {e : Env} {L M : List HP} {g : Operand} {fv : Value} {os : Array Operand} {ats : Array TypeId} {ty : TypeId} {pos : String} {after : Array Edge} {guard : Option (Nat × Bool)} {dst : Option Tmp}
    {args : Array Value} {Pre : List HP} {α : Type} {ret : α → Value} {fact : α → Prop} {Post : α → List HP → List HP} {K : Value → List HP → Prop} (hg : ev e g = some fv) (sp : FvSpec P fv args Pre ret fact Post)
    (ha : evs e os.toList = some args.toList) (ht : TakeL Pre L M) (h : ∀ x, fact x → K (ret x) (Post x M)) :
    OpW P C ⟨dst, .call ⟨.value g, os, ats⟩, ty, pos, after, guard⟩ e L K := by
  intro w tm ds s a'
  have hargs : os.map (Act.eval ⟨tm, ds⟩) = args := by
    have h1 := a'.evs ds ha
    apply Array.toList_inj.1
    simpa using h1
  have h1 := sp C.G w M (ht.sat s)
  have heq : execOp (Act.eval ⟨tm, ds⟩) ⟨dst, .call ⟨.value g, os, ats⟩, ty, pos, after, guard⟩ = (do let d ← Deferred.ofValue fv args; invoke d.target d.args) := by
    simp [execOp, resolve, a'.ev hg, hargs]
  rw [heq]
  exact SemC.mono h1 fun v w' ⟨x, hv, hf, hs⟩ => ⟨Post x M, hs, by rw [hv]; exact h x hf⟩

end Go.Proofs.YtealmijbkebipaaGreatDoor
