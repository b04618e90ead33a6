/- Loops over functions. Appends, texts, maps. More values: comparisons, parts of structs, texts; the rules as the walks use them. -/
import Derived.Test.YtealmijbkebipaaGreatDoorSwAC
import Derived.Laws.Append
import Derived.KernelRfl
import Derived.Laws.BytesString
namespace Go.Proofs.YtealmijbkebipaaGreatDoor
open Go

abbrev mark1 (r : Nat) : Deferred := { target := .collected r, args := #[] }
abbrev marks (rs : List Nat) : List Deferred := rs.map mark1

/-- The blocks for the rounds' deferred calls: nothing stands in them. -/
def defH (rs : List Nat) : HP := nf (fun (_ : Unit) => True) fun _ => rs.map fun r => own r (.deferred (some []))

/-- A loop's record. -/
def loopH (l : Nat) (st : LoopState) (pd : Option Code) (f n : Nat) (e : Env) (ps : Array Tmp) (assign body : Code) (D : Nat) : HP :=
  nf (fun (tm : Array Value) => Agree n e tm) fun tm => [own l (.loop ⟨st, pd, f, tm, ps, assign, body, D⟩)]

/-- A call of a value that is a function. -/
def CallW (P : Program) (C : Cx) (fv : Value) (args : Array Value) (L : List HP) (K : Value → List HP → Prop) : Prop :=
  ∀ w, Sat C.G w L → CallV P fv args w fun v w' => ∃ L', Sat C.G w' L' ∧ K v L'
theorem callw_spec {P : Program} {C : Cx} {fv : Value} {args : Array Value} {L M : List HP} {K : Value → List HP → Prop} {Pre : List HP} {α : Type} {ret : α → Value} {fact : α → Prop} {Post : α → List HP → List HP}
    (sp : FvSpec P fv args Pre ret fact Post) (ht : TakeL Pre L M) (h : ∀ x, fact x → K (ret x) (Post x M)) : CallW P C fv args L K :=
  fun w s => SemC.mono (sp C.G w M (ht.sat s)) fun v w' ⟨x, hv, hf, hs⟩ => ⟨Post x M, hs, by rw [hv]; exact h x hf⟩
theorem callw_ent {P : Program} {C : Cx} {fv : Value} {args : Array Value} {L M : List HP} {K : Value → List HP → Prop} (hl : Ent L M) (h : CallW P C fv args M K) : CallW P C fv args L K := fun w s => h w (hl.sat s)

section
variable {P : Program} {f : FuncId} {ro : Option Nat} {ds : List Deferred} {k : List Item} {tmps : Array Value} {w : World} {R : Value → World → Prop}

/-- The machine's step into the iterator. -/
theorem Run.rangeFunc {g : Operand} {ps : Array Tmp} {assign body : Code} {l : Nat} {mk : List Deferred} {w1 : World}
    (hen : (Instr.enterLoop f tmps ps assign body ro).run P w = .ok (l, mk) w1)
    (h : CallV P ((⟨tmps, mk ++ ds⟩ : Act).eval g) #[.func (.yield l) #[] #[]] w1 fun _ w' => Run P f ro (mk ++ ds) (.endRangeFunc l :: k) tmps w' R) :
    Run P f ro ds (.code (.rangeFunc g ps assign body) :: k) tmps w R := by
  intro cs hcs
  have hev : ({ (baseF f ro).atR ⟨tmps, ds⟩ (.code (.rangeFunc g ps assign body) :: k) with todo := .inRangeFunc l :: k, defers := mk ++ ds } : Frame) = (baseF f ro).atR ⟨tmps, mk ++ ds⟩ (.inRangeFunc l :: k) := rfl
  have heval : ((baseF f ro).atR ⟨tmps, mk ++ ds⟩ (.inRangeFunc l :: k)).eval = (⟨tmps, mk ++ ds⟩ : Act).eval := Frame.eval_atR _ _ _
  have hstep : ∀ s, stepG P true { frame := (baseF f ro).atR ⟨tmps, ds⟩ (.code (.rangeFunc g ps assign body) :: k), callers := cs, status := .running, dying := none } w = s → s =
      GStep.after (seen P f ((Instr.enterLoop f tmps ps assign body ro).runT P w #[]).2) (stepG.apply P true ((baseF f ro).atR ⟨tmps, mk ++ ds⟩ (.inRangeFunc l :: k)) cs none
        (do let d ← resolve (⟨tmps, mk ++ ds⟩ : Act).eval { callee := .value g, args := #[.const (.func (.yield l) #[] #[])], argTypes := #[] } 0; invoke d.target d.args) w1) := by
    intro s hs
    rw [← hs]
    have hen' : ((Instr.enterLoop f tmps ps assign body ro).runT P w #[]).1 = .ok (l, mk) w1 := by rw [Sem.runT_eq]; exact hen
    rw [show stepG P true { frame := (baseF f ro).atR ⟨tmps, ds⟩ (.code (.rangeFunc g ps assign body) :: k), callers := cs, status := .running, dying := none } w =
      (let (r, es) := (Instr.enterLoop f tmps ps assign body ro).runT P w #[]
      GStep.after (seen P f es) <| match r with
      | .ok (l, mark) w =>
        let fr := { (baseF f ro).atR ⟨tmps, ds⟩ (.code (.rangeFunc g ps assign body) :: k) with todo := .inRangeFunc l :: k, defers := mark ++ ds }
        let call : Call := { callee := .value g, args := #[.const (.func (.yield l) #[] #[])], argTypes := #[] }
        stepG.apply P true fr cs none (do let d ← resolve fr.eval call 0; invoke d.target d.args) w
      | .halt _ w => .ended (.stuck "range over a function: no such loop" (((baseF f ro).atR ⟨tmps, ds⟩ (.code (.rangeFunc g ps assign body) :: k)).pos P)) w) from rfl]
    generalize (Instr.enterLoop f tmps ps assign body ro).runT P w #[] = q at hen' ⊢
    obtain ⟨r, es⟩ := q
    simp only at hen'
    subst hen'
    simp only [hev, heval]
  have hres : (do let d ← resolve (⟨tmps, mk ++ ds⟩ : Act).eval { callee := .value g, args := #[.const (.func (.yield l) #[] #[])], argTypes := #[] } 0; invoke d.target d.args : Sem Next) =
      (do let d ← Deferred.ofValue ((⟨tmps, mk ++ ds⟩ : Act).eval g) #[.func (.yield l) #[] #[]]; invoke d.target d.args) := by
    simp [resolve, Act.eval]
  have hfin : ∀ v, ((baseF f ro).atR ⟨tmps, mk ++ ds⟩ (.inRangeFunc l :: k)).finish v = (baseF f ro).atR ⟨tmps, mk ++ ds⟩ (.endRangeFunc l :: k) := fun v => rfl
  unfold CallV SemC at h
  cases hr : (do let d ← Deferred.ofValue ((⟨tmps, mk ++ ds⟩ : Act).eval g) #[.func (.yield l) #[] #[]]; invoke d.target d.args : Sem Next).run P w1 with
  | halt x w' => rw [hr] at h; exact h.elim
  | ok nx w' =>
    rw [hr] at h
    cases nx <;> simp only [NextC] at h
    case value v =>
      obtain ⟨u, w2, hu, hF⟩ := h cs hcs
      refine ⟨u, w2, hu, hF.head (.one (step_lone_go ?_))⟩
      rw [hstep _ rfl, hres, ← hfin v]; simp [stepG.apply, hr]
    case skip =>
      obtain ⟨u, w2, hu, hF⟩ := h cs hcs
      refine ⟨u, w2, hu, hF.head (.one (step_lone_go ?_))⟩
      rw [hstep _ rfl, hres, ← hfin undef]; simp [stepG.apply, hr]
    case enter g' args =>
      obtain ⟨v, w2, hK, hs⟩ := CallsR.steps h ((baseF f ro).atR ⟨tmps, mk ++ ds⟩ (.inRangeFunc l :: k)) cs
      obtain ⟨u, w3, hu, hF⟩ := hK cs hcs
      refine ⟨u, w3, hu, hF.head (.head (m₁ := lone (Frame.enter P g' args .normal) ((baseF f ro).atR ⟨tmps, mk ++ ds⟩ (.inRangeFunc l :: k) :: cs) w') ?_ ?_)⟩
      · exact step_lone_go (by rw [hstep _ rfl, hres]; simp [stepG.apply, hr, Frame.atR])
      · rw [← hfin v]; exact hs
    case round l' g' tm as bd =>
      obtain ⟨v, w2, hK, hs⟩ := h ((baseF f ro).atR ⟨tmps, mk ++ ds⟩ (.inRangeFunc l :: k)) cs
      obtain ⟨u, w3, hu, hF⟩ := hK cs hcs
      refine ⟨u, w3, hu, hF.head (.head (m₁ := lone (Frame.round l' g' tm as bd .normal) ((baseF f ro).atR ⟨tmps, mk ++ ds⟩ (.inRangeFunc l :: k) :: cs) w') ?_ ?_)⟩
      · exact step_lone_go (by rw [hstep _ rfl, hres]; simp [stepG.apply, hr, Frame.atR])
      · rw [← hfin v]; exact hs

theorem Run.endRangeFunc {l : Nat} {jump : Option Code} {w1 : World} (hen : (Instr.endLoop l).run P w = .ok jump w1) (h : Run P f ro ds ((jump.map Item.code).toList ++ k) tmps w1 R) :
    Run P f ro ds (.endRangeFunc l :: k) tmps w R := by
  refine h.step fun cs => .one (step_lone_go ?_)
  simp [stepG, stepG.exec, Frame.atR, Sem.runT_eq, hen]

theorem Run.beginRound {l : Nat} {w' : World} (hro : ro = some l) (hr : (Instr.beginRound l).run P w = .ok () w') (h : Run P f ro ds k tmps w' R) : Run P f ro ds (.beginRound :: k) tmps w R :=
  h.step fun _ => .one (stepR_beginRound (b := baseF f ro) hro hr)
theorem Run.round_end {l : Nat} {v : Value} {w' : World} (hro : ro = some l) (hr : (Instr.endRound l none).run P w = .ok v w') (h : R v w') : Run P f ro ds [] tmps w R := by
  intro cs hcs
  subst hro
  cases cs with
  | nil => exact absurd rfl (hcs rfl)
  | cons c cs => exact ⟨v, w', h, c, cs, rfl, .one (stepR_round_end (b := baseF f (some l)) rfl rfl hr)⟩
theorem Run.round_ret {l : Nat} {v : Value} {w' : World} (hro : ro = some l) (hr : (Instr.endRound l (some .ret)).run P w = .ok v w') (h : R v w') : Run P f ro ds (.code .ret :: k) tmps w R := by
  intro cs hcs
  subst hro
  cases cs with
  | nil => exact absurd rfl (hcs rfl)
  | cons c cs => exact ⟨v, w', h, c, cs, rfl, .one (stepR_round_ret (b := baseF f (some l)) rfl rfl hr)⟩
theorem Run.round_exit {l id : Nat} {v : Value} {w' : World} (hro : ro = some l) (hx : exitTo id k = none) (hr : (Instr.endRound l (some (.exit id))).run P w = .ok v w') (h : R v w') : Run P f ro ds (.code (.exit id) :: k) tmps w R := by
  intro cs hcs
  subst hro
  cases cs with
  | nil => exact absurd rfl (hcs rfl)
  | cons c cs => exact ⟨v, w', h, c, cs, rfl, .one (stepR_round_exit (b := baseF f (some l)) rfl rfl hx hr)⟩

end

theorem steps_unwind {P : Program} {f : FuncId} {tmps : Array Value} {cs : List Frame} {k : List Item} : ∀ (rs : List Nat) (w : World), (∀ r ∈ rs, w.heap[r]? = some (.deferred (some []))) → rs.Nodup →
    Steps P (lone { (baseF f none).atR ⟨tmps, marks rs⟩ k with mode := .returning } cs w)
      (lone { (baseF f none).atR ⟨tmps, []⟩ k with mode := .returning } cs { w with heap := rs.foldl (fun h r => h.setIfInBounds r (.deferred none)) w.heap })
  | [], w, _, _ => .refl _ _
  | r :: rs, w, hr, hn => by
    rw [List.nodup_cons] at hn
    have h1 : w.heap[r]? = some (.deferred (some [])) := hr r (by simp)
    have htake : (Instr.takeDeferred r).run P w = .ok [] { w with heap := w.heap.setIfInBounds r (.deferred none) } := by
      simp [Instr.takeDeferred, getObj, setObj, Sem.run, h1]
    have hst : step P (lone { (baseF f none).atR ⟨tmps, marks (r :: rs)⟩ k with mode := .returning } cs w) =
        .next (lone { (baseF f none).atR ⟨tmps, marks rs⟩ k with mode := .returning } cs { w with heap := w.heap.setIfInBounds r (.deferred none) }) := by
      refine step_lone_go ?_
      simp [stepG, unwind, Frame.atR, Sem.runT_eq, htake, mark1]
    refine .head hst ?_
    refine steps_unwind rs { w with heap := w.heap.setIfInBounds r (.deferred none) } (fun r' h' => ?_) hn.2
    have hne : r ≠ r' := fun e => hn.1 (e ▸ h')
    show (w.heap.setIfInBounds r (.deferred none))[r']? = _
    rw [Array.getElem?_setIfInBounds_ne hne]
    exact hr r' (by simp [h'])

theorem foldl_set_get : ∀ (rs : List Nat) (h : Array Obj) (b : Nat), b ∉ rs → (rs.foldl (fun h r => h.setIfInBounds r (.deferred none)) h)[b]? = h[b]?
  | [], _, _, _ => rfl
  | r :: rs, h, b, hb => by
    simp only [List.mem_cons, not_or] at hb
    simp only [List.foldl_cons]
    rw [foldl_set_get rs _ b hb.2, Array.getElem?_setIfInBounds_ne (Ne.symm hb.1)]

/-- Owned blocks may be turned into anything, if nobody else speaks of them. -/
theorem Sat.drop_set {G : Gl} {w : World} {rs : List Nat} {L : List HP} (o : Obj) (h : Sat G w (rs.map (fun r => own r o) ++ L)) {hp : Array Obj} (hh : ∀ b, b ∉ rs → hp[b]? = w.heap[b]?) :
    Sat G { w with heap := hp } L ∧ rs.Nodup ∧ (∀ r ∈ rs, w.heap[r]? = some o) := by
  obtain ⟨h0, r0, H, hl⟩ := h
  obtain ⟨h1, h2, hs, k1, k2⟩ := starL_append.1 hl
  have key : ∀ (rs : List Nat) (h1 : PH), starL (rs.map (fun r => own r o)) h1 r0 → rs.Nodup ∧ ∀ r ∈ rs, h1 r = some o := by
    intro rs
    induction rs with
    | nil => intro _ _; exact ⟨List.nodup_nil, fun r hr => by cases hr⟩
    | cons r rs ih =>
      rintro h1 ⟨a1, a2, as, ha, hl⟩
      obtain ⟨hn, hall⟩ := ih a2 hl
      have hr1 : a1 r = some o := ha
      refine ⟨List.nodup_cons.2 ⟨fun hm => ?_, hn⟩, fun x hx => ?_⟩
      · have := hall r hm
        rcases as.disj r with e | e
        · rw [e] at hr1; cases hr1
        · rw [e] at this; cases this
      · rcases List.mem_cons.1 hx with rfl | hx
        · exact as.le1 _ _ hr1
        · exact as.le2 _ _ (hall x hx)
  obtain ⟨hn, hall⟩ := key rs h1 k1
  have hall0 : ∀ r ∈ rs, h0 r = some o := fun r hr => hs.le1 _ _ (hall r hr)
  refine ⟨⟨h2, r0, ⟨H.os, H.out, H.tape, ?_, ?_, ?_⟩, k2⟩, hn, fun r hr => H.subH r o (hall0 r hr)⟩
  · intro b
    rcases H.disj b with e | e
    · exact .inl (hs.non e).2
    · exact .inr e
  · intro b x hx
    have hb : b ∉ rs := fun hm => by
      have e1 := hall b hm
      rcases hs.disj b with e | e
      · rw [e] at e1; cases e1
      · rw [e] at hx; cases hx
    show hp[b]? = some x
    rw [hh b hb]; exact H.subH b x (hs.le2 b x hx)
  · intro b x hx
    have hb : b ∉ rs := fun hm => by
      have e1 := hall0 b hm
      rcases H.disj b with e | e
      · rw [e] at e1; cases e1
      · rw [e] at hx; cases hx
    show hp[b]? = some x
    rw [hh b hb]; exact H.subR b x hx

section rules
variable {P : Program} {C : Cx} {k : List Item} {e : Env} {L M : List HP}

theorem defH_open {G : Gl} {w : World} {rs : List Nat} {L : List HP} (h : Sat G w (defH rs :: L)) : Sat G w (rs.map (fun r => own r (.deferred (some []))) ++ L) := by
  obtain ⟨h0, r, H, h1, h2, hs, ⟨_, _, k1⟩, k2⟩ := h
  exact ⟨h0, r, H, starL_append.2 ⟨h1, h2, hs, k1, k2⟩⟩

/-- A return behind loops over functions. -/
theorem wk_retD {fn : Func} {rv : List ResultVar} {vs : List Value} {rs : List Nat} (hf : P.funcs[C.f]? = some fn) (hrs : fn.results = rv.toArray) (hro : C.ro = none) (ht : Take (defH rs) L M) (hr : ResOK P C rv e M vs)
    (hR : ∀ w, Sat C.G w M → C.R (mkRes vs) w) : Wk P C (marks rs) (.code .ret :: k) e L := by
  obtain ⟨cf, ro, cn, G, CR⟩ := C
  simp only at hro; subst hro
  intro w tm s a' cs _
  obtain ⟨s1, hn, hall⟩ := Sat.drop_set (hp := rs.foldl (fun h r => h.setIfInBounds r (.deferred none)) w.heap) _ (defH_open (ht.sat s)) (fun b hb => foldl_set_get rs w.heap b hb)
  refine ⟨mkRes vs, _, hR _ s1, _, Steps.trans (.one (stepR_ret (b := baseF cf none) rfl)) (steps_unwind rs w hall hn), rfl, rfl, rfl, rfl, fn, hf, results_run hrs (hr _ tm s1 a')⟩
theorem wk_endD {fn : Func} {rv : List ResultVar} {vs : List Value} {rs : List Nat} (hf : P.funcs[C.f]? = some fn) (hrs : fn.results = rv.toArray) (hro : C.ro = none) (ht : Take (defH rs) L M) (hr : ResOK P C rv e M vs)
    (hR : ∀ w, Sat C.G w M → C.R (mkRes vs) w) : Wk P C (marks rs) [] e L := by
  obtain ⟨cf, ro, cn, G, CR⟩ := C
  simp only at hro; subst hro
  intro w tm s a' cs _
  obtain ⟨s1, hn, hall⟩ := Sat.drop_set (hp := rs.foldl (fun h r => h.setIfInBounds r (.deferred none)) w.heap) _ (defH_open (ht.sat s)) (fun b hb => foldl_set_get rs w.heap b hb)
  refine ⟨mkRes vs, _, hR _ s1, _, Steps.trans (.one (stepR_end (b := baseF cf none) rfl)) (steps_unwind rs w hall hn), rfl, rfl, rfl, rfl, fn, hf, results_run hrs (hr _ tm s1 a')⟩

/-- A loop over a function, in a function's own body. -/
theorem wk_rangeFunc {g : Operand} {fv : Value} {ps : Array Tmp} {assign body : Code} {rs : List Nat} (hro : C.ro = none) (hg : ev e g = some fv) (ht : Take (defH rs) L M)
    (h : ∀ l r, CallW P C fv #[.func (.yield l) #[] #[]] (loopH l .ready none C.f C.n e ps assign body r :: defH (r :: rs) :: M) fun _ L' => Wk P C (marks (r :: rs)) (.endRangeFunc l :: k) e L') :
    Wk P C (marks rs) (.code (.rangeFunc g ps assign body) :: k) e L := by
  intro w tm s a'
  have s0 := ht.sat s
  have s1 : Sat C.G { w with heap := w.heap.push (.deferred (some [])) } (own w.heap.size (.deferred (some [])) :: defH rs :: M) := s0.push rfl rfl rfl rfl
  have s2 : Sat C.G { w with heap := w.heap.push (.deferred (some [])) } (defH (w.heap.size :: rs) :: M) := by
    have s2' := Ent.sat (Ent.take (.there .here)) s1
    obtain ⟨h0, r0, H, h1, h2, hs, ⟨_, _, k1⟩, h3, h4, hs', ha, k2⟩ := s2'
    have sA : Sat C.G { w with heap := w.heap.push (.deferred (some [])) } ((own w.heap.size (.deferred (some [])) :: rs.map fun r => own r (.deferred (some []))) ++ M) := by
      have h9 : starL ((rs.map fun r => own r (.deferred (some []))) ++ (own w.heap.size (.deferred (some [])) :: M)) h0 r0 := starL_append.2 ⟨h1, h2, hs, k1, h3, h4, hs', ha, k2⟩
      refine ⟨h0, r0, H, ?_⟩
      have tk : ∀ (l : List HP) (p : HP) (M : List HP), Take p (l ++ p :: M) (l ++ M) := by
        intro l p M
        induction l with
        | nil => exact .here
        | cons x l ih => exact .there ih
      exact (tk _ _ M).sound h9
    obtain ⟨h0, r0, H, hl⟩ := sA
    obtain ⟨k1, k2, ks, kl, km⟩ := starL_append.1 hl
    exact ⟨h0, r0, H, k1, k2, ks, ⟨(), trivial, kl⟩, km⟩
  let lp : Loop := ⟨.ready, none, C.f, tm, ps, assign, body, w.heap.size⟩
  have hen : (Instr.enterLoop C.f tm ps assign body C.ro).run P w = .ok (w.heap.size + 1, [mark1 w.heap.size]) { w with heap := (w.heap.push (.deferred (some []))).push (.loop lp) } := by
    rw [hro]
    simp [Instr.enterLoop, newObj, Sem.run, lp, mark1]
    rfl
  have s3 : Sat C.G { w with heap := (w.heap.push (.deferred (some []))).push (.loop lp) } (loopH (w.heap.size + 1) .ready none C.f C.n e ps assign body w.heap.size :: defH (w.heap.size :: rs) :: M) := by
    have := s2.push (o := .loop lp) (w' := { w with heap := (w.heap.push (.deferred (some []))).push (.loop lp) }) rfl rfl rfl rfl
    simp only [Array.size_push] at this
    obtain ⟨h0, r0, H, h1, h2, hs, ha, k2⟩ := this
    exact ⟨h0, r0, H, h1, h2, hs, ⟨tm, a', h1, fun _ => none, fun b => .inl ⟨rfl, rfl⟩, ha, trivial⟩, k2⟩
  refine Run.rangeFunc hen ?_
  have hgv : (⟨tm, [mark1 w.heap.size] ++ marks rs⟩ : Act).eval g = fv := a'.ev hg _
  rw [hgv]
  refine SemC.mono (h (w.heap.size + 1) w.heap.size _ s3) ?_
  rintro v w' ⟨L', s', hK⟩
  exact hK w' tm s' a'

/-- Behind the loop. -/
theorem wk_endRange {ds : List Deferred} {l : Nat} {st : LoopState} {pd : Option Code} {f' n' : Nat} {e' : Env} {ps : Array Tmp} {assign body : Code} {D : Nat} (ht : Take (loopH l st pd f' n' e' ps assign body D) L M) (hst : st ≠ .busy)
    (h : Wk P C ds ((pd.map Item.code).toList ++ k) e M) : Wk P C ds (.endRangeFunc l :: k) e L := by
  intro w tm s a'
  obtain ⟨h0, r0, H, h1, h2, hs, ⟨tm0, ha0, k1, k2, ks, kown, _⟩, hM⟩ := ht.sat s
  have hsat : Sat C.G w (own l (.loop ⟨st, pd, f', tm0, ps, assign, body, D⟩) :: M) := ⟨h0, r0, H, h1, h2, hs, ks.le1 _ _ kown, hM⟩
  have hg := hsat.own_get
  have hend : (Instr.endLoop l).run P w = .ok pd { w with heap := w.heap.setIfInBounds l (.loop ⟨.exhausted, pd, f', tm0, ps, assign, body, D⟩) } := by
    simp [Instr.endLoop, Instr.getLoop, getObj, setObj, Sem.run, hg, hst]
  have hlt : l < w.heap.size := (Array.getElem?_eq_some_iff.1 hg).1
  have s' := Sat.tail (hsat.own_set (w' := { w with heap := w.heap.setIfInBounds l (.loop ⟨.exhausted, pd, f', tm0, ps, assign, body, D⟩) }) (o' := .loop ⟨.exhausted, pd, f', tm0, ps, assign, body, D⟩) rfl rfl rfl (by simp [hlt]) (fun c hc => by simp [Array.getElem?_setIfInBounds_ne (Ne.symm hc)]))
  exact Run.endRangeFunc hend (h _ tm s' a')

theorem wk_beginRound {ds : List Deferred} {l : Nat} {pd : Option Code} {f' n' : Nat} {e' : Env} {ps : Array Tmp} {assign body : Code} {D : Nat} (hro : C.ro = some l) (ht : Take (loopH l .ready pd f' n' e' ps assign body D) L M)
    (h : Wk P C ds k e (loopH l .busy pd f' n' e' ps assign body D :: M)) : Wk P C ds (.beginRound :: k) e L := by
  intro w tm s a'
  obtain ⟨h0, r0, H, h1, h2, hs, ⟨tm0, ha0, k1, k2, ks, kown, _⟩, hM⟩ := ht.sat s
  have hsat : Sat C.G w (own l (.loop ⟨.ready, pd, f', tm0, ps, assign, body, D⟩) :: M) := ⟨h0, r0, H, h1, h2, hs, ks.le1 _ _ kown, hM⟩
  have hg := hsat.own_get
  have hend : (Instr.beginRound l).run P w = .ok () { w with heap := w.heap.setIfInBounds l (.loop ⟨.busy, pd, f', tm0, ps, assign, body, D⟩) } := by
    simp [Instr.beginRound, Instr.getLoop, getObj, setObj, Sem.run, hg]
  have hlt : l < w.heap.size := (Array.getElem?_eq_some_iff.1 hg).1
  have s' := hsat.own_set (w' := { w with heap := w.heap.setIfInBounds l (.loop ⟨.busy, pd, f', tm0, ps, assign, body, D⟩) }) (o' := .loop ⟨.busy, pd, f', tm0, ps, assign, body, D⟩) rfl rfl rfl (by simp [hlt]) (fun c hc => by simp [Array.getElem?_setIfInBounds_ne (Ne.symm hc)])
  refine Run.beginRound hro hend (h _ tm ?_ a')
  obtain ⟨g0, q0, HH, g1, g2, gs, ga, gM⟩ := s'
  exact ⟨g0, q0, HH, g1, g2, gs, ⟨tm0, ha0, g1, fun _ => none, fun b => .inl ⟨rfl, rfl⟩, ga, trivial⟩, gM⟩

/-- The end of a round, whichever. -/
theorem endRound_sat {w : World} {l : Nat} {st : LoopState} {pd : Option Code} {f' n' : Nat} {e' : Env} {ps : Array Tmp} {assign body : Code} {D : Nat} (jump : Option Code) (s : Sat C.G w (loopH l st pd f' n' e' ps assign body D :: M)) :
    ∃ w', (Instr.endRound l jump).run P w = .ok (.bool jump.isNone) w' ∧ Sat C.G w' (loopH l (if jump.isNone then .ready else .done) jump f' n' e' ps assign body D :: M) := by
  obtain ⟨h0, r0, H, h1, h2, hs, ⟨tm0, ha0, k1, k2, ks, kown, _⟩, hM⟩ := s
  have hsat : Sat C.G w (own l (.loop ⟨st, pd, f', tm0, ps, assign, body, D⟩) :: M) := ⟨h0, r0, H, h1, h2, hs, ks.le1 _ _ kown, hM⟩
  have hg := hsat.own_get
  have hlt : l < w.heap.size := (Array.getElem?_eq_some_iff.1 hg).1
  have s' := hsat.own_set (w' := { w with heap := w.heap.setIfInBounds l (.loop ⟨if jump.isNone then .ready else .done, jump, f', tm0, ps, assign, body, D⟩) }) (o' := .loop ⟨if jump.isNone then .ready else .done, jump, f', tm0, ps, assign, body, D⟩) rfl rfl rfl (by simp [hlt]) (fun c hc => by simp [Array.getElem?_setIfInBounds_ne (Ne.symm hc)])
  refine ⟨{ w with heap := w.heap.setIfInBounds l (.loop ⟨if jump.isNone then .ready else .done, jump, f', tm0, ps, assign, body, D⟩) }, ?_, ?_⟩
  · simp [Instr.endRound, Instr.getLoop, getObj, setObj, Sem.run, hg]
  · obtain ⟨g0, q0, HH, g1, g2, gs, ga, gM⟩ := s'
    exact ⟨g0, q0, HH, g1, g2, gs, ⟨tm0, ha0, g1, fun _ => none, fun b => .inl ⟨rfl, rfl⟩, ga, trivial⟩, gM⟩

theorem wk_roundEnd {ds : List Deferred} {l : Nat} {st : LoopState} {pd : Option Code} {f' n' : Nat} {e' : Env} {ps : Array Tmp} {assign body : Code} {D : Nat} (hro : C.ro = some l) (ht : Take (loopH l st pd f' n' e' ps assign body D) L M)
    (hR : ∀ w, Sat C.G w (loopH l .ready none f' n' e' ps assign body D :: M) → C.R (.bool true) w) : Wk P C ds [] e L := by
  intro w tm s a'
  obtain ⟨w', h1, h2⟩ := endRound_sat (P := P) none (ht.sat s)
  exact Run.round_end hro h1 (hR w' h2)
theorem wk_roundRet {ds : List Deferred} {l : Nat} {st : LoopState} {pd : Option Code} {f' n' : Nat} {e' : Env} {ps : Array Tmp} {assign body : Code} {D : Nat} (hro : C.ro = some l) (ht : Take (loopH l st pd f' n' e' ps assign body D) L M)
    (hR : ∀ w, Sat C.G w (loopH l .done (some .ret) f' n' e' ps assign body D :: M) → C.R (.bool false) w) : Wk P C ds (.code .ret :: k) e L := by
  intro w tm s a'
  obtain ⟨w', h1, h2⟩ := endRound_sat (P := P) (some .ret) (ht.sat s)
  exact Run.round_ret hro h1 (hR w' h2)
theorem wk_roundExit {ds : List Deferred} {l id : Nat} {st : LoopState} {pd : Option Code} {f' n' : Nat} {e' : Env} {ps : Array Tmp} {assign body : Code} {D : Nat} (hro : C.ro = some l) (hx : exitTo id k = none) (ht : Take (loopH l st pd f' n' e' ps assign body D) L M)
    (hR : ∀ w, Sat C.G w (loopH l .done (some (.exit id)) f' n' e' ps assign body D :: M) → C.R (.bool false) w) : Wk P C ds (.code (.exit id) :: k) e L := by
  intro w tm s a'
  obtain ⟨w', h1, h2⟩ := endRound_sat (P := P) (some (.exit id)) (ht.sat s)
  exact Run.round_exit hro hx h1 (hR w' h2)
end rules

def setPs : List Nat → List Value → Env → Env
  | p :: ps, v :: vs, e => setPs ps vs ((p, v) :: e)
  | _, _, e => e

theorem Agree.setPs {n : Nat} : ∀ (ps : List Nat) (vs : List Value) (e : Env) (tm : Array Value), Agree n e tm → (∀ p ∈ ps, Nat.blt p n = true) → Agree n (setPs ps vs e) ((ps.zip vs).foldl (fun tm (t, a) => tm.setIfInBounds t a) tm)
  | [], _, _, _, h, _ => by simpa [Go.Proofs.YtealmijbkebipaaGreatDoor.setPs] using h
  | _ :: _, [], _, _, h, _ => by simpa [Go.Proofs.YtealmijbkebipaaGreatDoor.setPs] using h
  | p :: ps, v :: vs, e, tm, h, hp => by
    simp only [Go.Proofs.YtealmijbkebipaaGreatDoor.setPs, List.zip_cons_cons, List.foldl_cons]
    exact Agree.setPs ps vs _ _ (h.put (hp p (by simp)) v) (fun q hq => hp q (by simp [hq]))

/-- A round of the loop, by the walk of its body: what a call of yield is owed. -/
theorem fv_yield {P : Program} {l f n : Nat} {e : Env} {ps : List Nat} {assign body : Code} {D : Nat} {args : List Value} {I : List HP} {α : Type} {ret : α → Value} {fact : α → Prop} {Post : α → List HP → List HP} (hlen : Nat.beq args.length ps.length = true) (hps : ps.all (fun p => Nat.blt p n) = true)
    (h : ∀ (G : Gl) (R : List HP), Wk P ⟨f, some l, n, G, fun v w' => ∃ x, v = ret x ∧ fact x ∧ Sat G w' (Post x R)⟩ [] [.code assign, .beginRound, .code body] (setPs ps args e) (loopH l .ready none f n e ps.toArray assign body D :: (I ++ R))) :
    FvSpec P (.func (.yield l) #[] #[]) args.toArray (loopH l .ready none f n e ps.toArray assign body D :: I) ret fact Post := by
  intro G w R s
  have s0 : Sat G w (loopH l .ready none f n e ps.toArray assign body D :: (I ++ R)) := s
  obtain ⟨h0, r0, H, h1, h2, hs, ⟨tm0, ha0, k1, k2, ks, kown, _⟩, hM⟩ := s0
  have hsat : Sat G w (own l (.loop ⟨.ready, none, f, tm0, ps.toArray, assign, body, D⟩) :: (I ++ R)) := ⟨h0, r0, H, h1, h2, hs, ks.le1 _ _ kown, hM⟩
  have hg := hsat.own_get
  have hl := Nat.eq_of_beq_eq_true hlen
  have hy : (Instr.yield l args.toArray).run P w = .ok (.round l f ((ps.zip args).foldl (fun tm (t, a) => tm.setIfInBounds t a) tm0) assign body) w := by
    simp [Instr.yield, Instr.getLoop, getObj, Sem.run, hg, hl]
  unfold CallV SemC
  simp only [Deferred.ofValue, pure_bind, invoke, Array.empty_append]
  rw [hy]
  intro c cs
  have ha := Agree.setPs ps args e tm0 ha0 (fun p hp => List.all_eq_true.1 hps p hp)
  obtain ⟨v, w', hv, c', cs', hcs, hst⟩ := h G R w _ s ha (c :: cs) (fun _ => by simp)
  cases hcs
  exact ⟨v, w', hv, hst⟩

theorem ent_defNil {L M : List HP} (h : Ent L M) : Ent L (defH [] :: M) := h.trans (Ent.close () trivial .nil)

end Go.Proofs.YtealmijbkebipaaGreatDoor

namespace Go.Proofs.YtealmijbkebipaaGreatDoor
open Go

inductive HasPe : List HP → Pe → Prop
  | here {p : Pe} {L : List HP} : HasPe (pe p :: L) p
  | there {p : Pe} {q : HP} {L : List HP} : HasPe L p → HasPe (q :: L) p
theorem HasPe.get {L : List HP} {p : Pe} (h : HasPe L p) : ∀ {G : Gl} {w : World}, Sat G w L → ∃ r, p.q r ∧ ∀ b o, r b = some o → w.heap[b]? = some o := by
  induction h with
  | here => exact fun s => s.pe_get
  | there _ ih => exact fun s => ih s.tail
/-- What persists, and follows from what is there, may be laid beside it. -/
theorem HasPe.sat {L : List HP} {p : Pe} (h : HasPe L p) {q : Pe} (hq : ∀ r, p.q r → q.q r) : Ent L (pe q :: L) := by
  intro h0 r hl
  have key : ∀ {L : List HP} {p : Pe}, HasPe L p → ∀ {h0 : PH}, starL L h0 r → p.q r := by
    intro L p h
    induction h with
    | here => intro h0 hl; obtain ⟨_, _, _, ha, _⟩ := hl; exact ha
    | there _ ih => intro h0 hl; obtain ⟨_, h2, _, _, hl⟩ := hl; exact ih hl
  have : p.q r := key h hl
  exact ⟨fun _ => none, h0, fun b => .inr ⟨rfl, rfl⟩, hq r this, hl⟩

inductive HasH : List HP → HP → Prop
  | here {p : HP} {L : List HP} : HasH (p :: L) p
  | there {p q : HP} {L : List HP} : HasH L p → HasH (q :: L) p
theorem HasH.get {L : List HP} {p : HP} (h : HasH L p) : ∀ {h0 r : PH}, starL L h0 r → ∃ h1, (∀ b o, h1 b = some o → h0 b = some o) ∧ p.f h1 r := by
  induction h with
  | here => rintro h0 r ⟨h1, h2, hs, ha, _⟩; exact ⟨h1, hs.le1, ha⟩
  | there _ ih => rintro h0 r ⟨h1, h2, hs, _, hl⟩; obtain ⟨k, hk, hp⟩ := ih hl; exact ⟨k, fun b o hb => hs.le2 b o (hk b o hb), hp⟩

def SrcOK (P : Program) (C : Cx) (L : List HP) (y : Value) (size m : Nat) (new : List Value) : Prop :=
  ∀ w, Sat C.G w L → (Builtin.lenOf y).run P w = .ok m w ∧ (Builtin.firstCells size m y).run P w = .ok new.toArray w

section src
variable {P : Program} {C : Cx} {L : List HP}
theorem src_blk {b o m c size : Nat} {vs new : List Value} (hv : (vs.drop o).take (m * size) = new) (hle : o + m * size ≤ vs.length) (hc : HasC L b vs := by repeat constructor) : SrcOK P C L (.slice (some ⟨b, o, none⟩) m c) size m new := fun w s => by
  refine ⟨by simp [Builtin.lenOf], ?_⟩
  simp only [Builtin.firstCells]
  rw [run_loadCells (fun j => hc.cell s j) hle, hv]
theorem src_nil {c size : Nat} : SrcOK P C L (.slice none 0 c) size 0 [] := fun w _ => by simp [Builtin.lenOf, Builtin.firstCells]
theorem src_str {bs : List UInt8} : SrcOK P C L (.string ⟨bs.toArray⟩) 1 bs.length (bs.map fun b => .int .u8 b.toNat) := fun w _ => by
  refine ⟨by simp [Builtin.lenOf, ByteArray.size], ?_⟩
  simp only [Builtin.firstCells, Sem.run_pure]
  congr 1
  have : ((⟨bs.toArray⟩ : ByteArray).extract 0 bs.length).data = bs.toArray := by
    simp [ByteArray.data_extract]
  rw [this]
  simp
theorem src_ro {x : SV} {cells : List Value} {size : Nat} (h : HasPe L (roSl x cells size) := by repeat constructor) : SrcOK P C L x.v size x.n cells := fun w s => by
  obtain ⟨xa, xn, xc⟩ := x
  obtain ⟨r, ⟨⟨b, o, vs, T, fz⟩, ⟨hlen, hcap, hx⟩, hr⟩, hsub⟩ := h.get s
  simp only at hlen hcap hx hr
  refine ⟨by simp [Builtin.lenOf], ?_⟩
  by_cases hn : xn = 0
  · have hc : cells = [] := List.eq_nil_of_length_eq_zero (by rw [hlen, hn, Nat.zero_mul])
    subst hn hc
    cases xa <;> simp [Builtin.firstCells, loadCells, loadCellsFrom]
  · obtain ⟨rfl, hv, hle⟩ := hx.resolve_left hn
    simp only [hn, if_false, List.mem_singleton, forall_eq] at hr
    have hg := hsub _ _ hr
    simp only [Builtin.firstCells]
    rw [run_loadCells (b := b) (o := o) (vs := vs) (fun j => by simp [World.cell?, hg]) hle, hv]
theorem src_osl {x : SV} {cells : List Value} {size : Nat} {T : TypeId} (h : HasH L (osl x cells size T) := by repeat constructor) : SrcOK P C L x.v size x.n cells := fun w s => by
  obtain ⟨xa, xn, xc⟩ := x
  obtain ⟨h0, r, H, hl⟩ := s
  obtain ⟨h1, hle1, ⟨⟨b, sp⟩, ⟨hlen, hcap, hcm, hx⟩, k1⟩⟩ := h.get hl
  simp only at hlen hcap hcm hx k1
  refine ⟨by simp [Builtin.lenOf], ?_⟩
  rcases hx with ⟨hnil, rfl⟩ | ⟨rfl, hsz⟩
  · cases hnil
    have hc : cells = [] := List.eq_nil_of_length_eq_zero (by rw [hlen]; simp)
    simp [Builtin.firstCells, hc]
  · simp only [reduceCtorEq, if_false] at k1
    obtain ⟨a1, a2, as, ha1, _⟩ := k1
    have hg := H.subH b _ (hle1 _ _ (as.le1 _ _ ha1))
    simp only [Builtin.firstCells]
    have hsz' := hsz
    have hle' : xn * size ≤ xc * size := Nat.mul_le_mul_right _ hcap
    rw [run_loadCells (b := b) (o := 0) (vs := cells ++ sp) (fun j => by simp [World.cell?, hg]) (by rw [Nat.zero_add, hsz]; exact hle')]
    rw [← hlen]; simp
end src

section ap
variable {P : Program} {C : Cx} {e : Env} {L M : List HP} {ty : TypeId} {pos : String} {after : Array Edge} {guard : Option (Nat × Bool)} {dst : Option Tmp} {K : Value → List HP → Prop}

theorem SrcOK.mono {y : Value} {size m : Nat} {new : List Value} (h : SrcOK P C M y size m new) (hl : Ent L M) : SrcOK P C L y size m new := fun w s => h w (hl.sat s)

/-- append, to a slice whose block is owned, or to nil. -/
theorem w_append {t1 t2 el bytes size m : Nat} {d2 : TypeDesc} {x : SV} {cells new : List Value} {dO sO : Operand} {y : Value} {z : Value} (hu1 : TyUnd P t1 (.slice el)) (hu2 : TyUnd P t2 d2) (hni : (∃ e2, d2 = .slice e2) ∨ d2 = .string)
    (hb : (P.info? el).map (·.bytes) = some bytes) (hs : TySize P el size) (hz : TyZero P el z) (hzs : (cellsL z).length = size) (hpos : 0 < size)
    (hd : ev e dO = some x.v) (hy : ev e sO = some y) (hsrc : SrcOK P C L y size m new) (hone : allOne new = true) (ht : Take (osl x cells size el) L M)
    (hmax : x.n + m ≤ 9223372036854775807 := by omega) (hbytes : (x.n + m) * bytes ≤ 140737488355328 := by omega) (hnl : new.length = m * size)
    (h : ∀ x' : SV, x'.n = x.n + m → K x'.v (osl x' (cells ++ new) size el :: M)) :
    OpW P C ⟨dst, .call ⟨.builtin .append, #[dO, sO], #[t1, t2]⟩, ty, pos, after, guard⟩ e L K := by
  obtain ⟨xa, xn, xc⟩ := x
  intro w tm ds s a'
  obtain ⟨i, hi, hby⟩ : ∃ i, P.info? el = some i ∧ i.bytes = bytes := by
    cases hi : P.info? el with
    | none => rw [hi] at hb; cases hb
    | some i => rw [hi] at hb; exact ⟨i, rfl, by simpa using hb⟩
  have s0 := ht.sat s
  obtain ⟨h0, r, H, h1, h2, hsp, ⟨⟨b, sp⟩, ⟨hlen, hcap, hcm, hx⟩, k1⟩, hM⟩ := s0
  simp only at hlen hcap hcm hx k1 hmax hbytes h
  have hl1 := (hsrc w s).1
  have hf1 := (hsrc w s).2
  have sd : Sat C.G { w with drawn := w.drawn + 1 } L := s.same rfl rfl rfl rfl
  have hf1d : (Builtin.firstCells size m y).run P w.drew = .ok new.toArray w.drew := (hsrc _ sd).2
  have hx1 := a'.ev hd ds
  have hy1 := a'.ev hy ds
  have hbase : ∀ K', (Builtin.append_ #[t1, t2] ty #[(SV.v ⟨xa, xn, xc⟩), y]).run P w = K' → (execOp (Act.eval ⟨tm, ds⟩) ⟨dst, .call ⟨.builtin .append, #[dO, sO], #[t1, t2]⟩, ty, pos, after, guard⟩).run P w = K'.andThen fun a w' => .ok (.value a) w' := by
    intro K' hK'
    simp [execOp, resolve, hx1, hy1, invoke, builtin, hK']
  by_cases hroom : xn + m ≤ xc
  ·
    rcases hx with ⟨hnil, rfl⟩ | ⟨rfl, hsz⟩
    · cases hnil
      simp at hroom hlen
      subst hroom
      have hn0 : new = [] := List.eq_nil_of_length_eq_zero (by simpa using hnl)
      subst hn0
      have hrun : (Builtin.append_ #[t1, t2] ty #[nilSV.v, y]).run P w = .ok (.slice none 0 0) w := by
        rcases hni with ⟨e2, rfl⟩ | rfl <;> simp [Builtin.append_, hu1.run, hs.run, hu2.run, hl1, hf1]
      refine SemC.value (w' := w) (v := .slice none 0 0) (by rw [hbase _ hrun]; rfl) ⟨_, ?_, h nilSV rfl⟩
      exact ⟨h0, r, H, h1, h2, hsp, ⟨(b, []), ⟨by simp [hlen], by simp, by simp, .inl ⟨rfl, rfl⟩⟩, trivial⟩, hM⟩
    · simp only [reduceCtorEq, if_false] at k1
      obtain ⟨a1, a2, as, ha1, _⟩ := k1
      have hsat : Sat C.G w (blk b (cells ++ sp) el :: M) := ⟨h0, r, H, h1, h2, hsp, as.le1 _ _ ha1, hM⟩
      have hle : xn * size + m * size ≤ (cells ++ sp).length := by rw [hsz, ← Nat.add_mul]; exact Nat.mul_le_mul_right _ hroom
      obtain ⟨w', r1, r2, r3, r4, r5, r6⟩ := run_storeCells (P := P) new 0 w b (xn * size) (cells ++ sp) el hsat.own_get (by rw [hnl]; omega) (allOne_spec hone)
      have hrun : (Builtin.append_ #[t1, t2] ty #[(SV.v ⟨some ⟨b, 0, none⟩, xn, xc⟩), y]).run P w = .ok (.slice (some ⟨b, 0, none⟩) (xn + m) xc) w' := by
        rcases hni with ⟨e2, rfl⟩ | rfl <;> simp [Builtin.append_, hu1.run, hs.run, hu2.run, hl1, hf1, hroom, add_lit, r1]
      refine SemC.value (w' := w') (v := .slice (some ⟨b, 0, none⟩) (xn + m) xc) (by rw [hbase _ hrun]; rfl) ⟨_, ?_, h ⟨some ⟨b, 0, none⟩, xn + m, xc⟩ rfl⟩
      have hcont : (cells ++ sp).take (xn * size + 0) ++ new ++ (cells ++ sp).drop (xn * size + 0 + new.length) = (cells ++ new) ++ sp.drop new.length := by
        rw [Nat.add_zero, ← hlen, List.take_left, List.drop_append]
        simp
      have s' := hsat.own_set r2 r3 r4 r5 r6
      rw [hcont] at s'
      obtain ⟨g0, q0, HH, g1, g2, gs, ga, gM⟩ := s'
      refine ⟨g0, q0, HH, g1, g2, gs, ⟨(b, sp.drop new.length), ⟨?_, hroom, hcm, .inr ⟨rfl, ?_⟩⟩, ?_⟩, gM⟩
      · simp [hlen, hnl, Nat.add_mul]
      · have : (cells ++ sp).length = xc * size := hsz
        simp only [List.length_append, List.length_drop] at this ⊢
        have h3 := hle
        simp only [List.length_append] at h3
        omega
      · simp only [reduceCtorEq, if_false]
        exact ⟨g1, fun _ => none, fun b => .inl ⟨rfl, rfl⟩, ga, trivial⟩
  ·
    have hgrow : xc < xn + m := by omega
    have h63 : ¬ (((xn + m : Nat) : Int) > IntKind.i64.max) := by
      have : IntKind.i64.max = 9223372036854775807 := rfl
      rw [this]; omega
    have h48 : ¬ (Builtin.nextslicecap (xn + m) xc * i.bytes > 281474976710656) := by
      have := growslice_fits (need := xn + m) (old := xc) (bytes := bytes) hgrow hbytes
      rw [hby]; omega
    have hge : xn + m ≤ grownCap w (xn + m) xc el := by simp [grownCap, Question.cut]
    have hcap2 : grownCap w (xn + m) xc el ≤ 9223372036854775807 := by
      have hlt := Nat.mod_lt (w.tape w.drawn (.appendCap (xn + m) xc el)) (show 0 < 2 ^ 63 - (xn + m) by omega)
      simp only [grownCap, Question.cut]; omega
    have hzc : z.cells = (cellsL z).toArray := by rw [← cells_toList]
    have hsx : SrcOK P C L (SV.v ⟨xa, xn, xc⟩) size xn cells := SrcOK.mono (M := osl ⟨xa, xn, xc⟩ cells size el :: M) (src_osl (x := ⟨xa, xn, xc⟩) (T := el) .here) (Ent.take ht)
    have hold : (Builtin.firstCells size xn (SV.v ⟨xa, xn, xc⟩)).run P w.drew = .ok cells.toArray w.drew := (hsx _ sd).2
    obtain ⟨arr, harr⟩ : ∃ arr : Array Value, arr = ((cells ++ new) ++ (Builtin.zeroCells z.cells (grownCap w (xn + m) xc el - (xn + m))).toList).toArray := ⟨_, rfl⟩
    have harr' : cells.toArray ++ (new.toArray ++ Builtin.zeroCells z.cells (grownCap w (xn + m) xc el - (xn + m))) = arr := by
      rw [harr]; apply Array.toList_inj.1; simp
    have hrun : (Builtin.append_ #[t1, t2] ty #[(SV.v ⟨xa, xn, xc⟩), y]).run P w = .ok (.slice (some ⟨w.heap.size, 0, none⟩) (xn + m) (grownCap w (xn + m) xc el)) (w.drew.alloc (.cells arr el)) := by
      have h63' : ¬ (9223372036854775807 < (xn : Int) + (m : Int)) := by omega
      have h48' : ¬ (281474976710656 < Builtin.nextslicecap (xn + m) xc * i.bytes) := by omega
      rw [← harr']
      rcases hni with ⟨e2, rfl⟩ | rfl <;> simp [Builtin.append_, hu1.run, hs.run, hu2.run, hl1, hroom, h63', h48', typeInfo, hi, Question.forced, hold, hf1d, hz.run, newRow, grownCap]
    refine SemC.value (by rw [hbase _ hrun]; rfl) ⟨_, ?_, h ⟨some ⟨w.heap.size, 0, none⟩, xn + m, grownCap w (xn + m) xc el⟩ rfl⟩
    have sM : Sat C.G w M := ⟨h0, r, H, starL_le hM hsp.le2⟩
    have s' := sM.push (o := .cells arr el) (w' := w.drew.alloc (.cells arr el)) rfl rfl rfl rfl
    rw [harr] at s' ⊢
    obtain ⟨g0, q0, HH, g1, g2, gs, ga, gM⟩ := s'
    refine ⟨g0, q0, HH, g1, g2, gs, ⟨(w.heap.size, (Builtin.zeroCells z.cells (grownCap w (xn + m) xc el - (xn + m))).toList), ⟨?_, hge, hcap2, .inr ⟨rfl, ?_⟩⟩, ?_⟩, gM⟩
    · simp [hlen, hnl, Nat.add_mul]
    · have : z.cells.size = size := by rw [hzc]; simpa using hzs
      simp only [List.length_append, hlen, hnl, Array.length_toList, Builtin.zeroCells, Array.size_map, Array.size_range, this]
      rw [← Nat.add_mul, ← Nat.add_mul]; congr 1; omega
    · simp only [reduceCtorEq, if_false]
      exact ⟨g1, fun _ => none, fun b => .inl ⟨rfl, rfl⟩, ga, trivial⟩
end ap
end Go.Proofs.YtealmijbkebipaaGreatDoor

namespace Go.Proofs.YtealmijbkebipaaGreatDoor
open Go

section vals
variable {P : Program} {C : Cx} {e : Env} {L : List HP} {ty t t' : TypeId} {x y : Operand}

/-- '==' and '!=' of what is no number and no text, by what the comparison comes to. -/
theorem v_eqW {u v : Value} {r : Bool} (hx : ev e x = some u) (hy : ev e y = some v) (hg : ∀ w, (eqGuard .eql t x y u v).run P w = .ok () w) (hb : binOp .eql t u v = (do pure (.bool (← Op.equal t u v))))
    (h : ∀ d w, (Op.equalIn (d + 1) t u v).run P w = .ok r w) : OpV P C (.binOp .eql t x y t') ty e L (.bool r) := fun w tm ds pos after guard dst s a' => by
  have h1 : (Op.equal t u v).run P w = .ok r w := h 9999 w
  simp only [execOp, a'.ev hx, a'.ev hy, hb, bind_assoc, pure_bind, Sem.run_bind, hg, Result.andThen_ok, h1, Sem.run_pure]
theorem v_neW {u v : Value} {r : Bool} (hx : ev e x = some u) (hy : ev e y = some v) (hg : ∀ w, (eqGuard .neq t x y u v).run P w = .ok () w) (hb : binOp .neq t u v = (do pure (.bool (!(← Op.equal t u v)))))
    (h : ∀ d w, (Op.equalIn (d + 1) t u v).run P w = .ok r w) : OpV P C (.binOp .neq t x y t') ty e L (.bool !r) := fun w tm ds pos after guard dst s a' => by
  have h1 : (Op.equal t u v).run P w = .ok r w := h 9999 w
  simp only [execOp, a'.ev hx, a'.ev hy, hb, bind_assoc, pure_bind, Sem.run_bind, hg, Result.andThen_ok, h1, Sem.run_pure]
theorem guard_ptr {op : BinOp} {a b : Option Addr} (w : World) : (eqGuard op t x y (.pointer a) (.pointer b)).run P w = .ok () w := by unfold eqGuard; split <;> rfl
theorem guard_sl {op : BinOp} {a b : Option Addr} {n c m d : Nat} (w : World) : (eqGuard op t x y (.slice a n c) (.slice b m d)).run P w = .ok () w := by unfold eqGuard; split <;> rfl
theorem guard_b {op : BinOp} {a b : Bool} (w : World) : (eqGuard op t x y (.bool a) (.bool b)).run P w = .ok () w := by unfold eqGuard; split <;> rfl
theorem guard_s {op : BinOp} {a b : ByteArray} (w : World) : (eqGuard op t x y (.string a) (.string b)).run P w = .ok () w := by unfold eqGuard; split <;> rfl

theorem v_eqSome {a : Addr} {el : TypeId} (hu : TyUnd P t (.pointer el)) (hx : ev e x = some (.pointer (some a))) (hy : ev e y = some (.pointer none)) : OpV P C (.binOp .eql t x y t') ty e L (.bool false) :=
  v_eqW hx hy guard_ptr rfl fun d w => by simp [Op.equalIn, hu.run]
theorem v_eqNone {el : TypeId} (hu : TyUnd P t (.pointer el)) (hx : ev e x = some (.pointer none)) (hy : ev e y = some (.pointer none)) : OpV P C (.binOp .eql t x y t') ty e L (.bool true) :=
  v_eqW hx hy guard_ptr rfl fun d w => by simp [Op.equalIn, hu.run]
theorem v_neSome {a : Addr} {el : TypeId} (hu : TyUnd P t (.pointer el)) (hx : ev e x = some (.pointer (some a))) (hy : ev e y = some (.pointer none)) : OpV P C (.binOp .neq t x y t') ty e L (.bool true) :=
  v_neW (r := false) hx hy guard_ptr rfl fun d w => by simp [Op.equalIn, hu.run]
theorem v_neNone {el : TypeId} (hu : TyUnd P t (.pointer el)) (hx : ev e x = some (.pointer none)) (hy : ev e y = some (.pointer none)) : OpV P C (.binOp .neq t x y t') ty e L (.bool false) :=
  v_neW (r := true) hx hy guard_ptr rfl fun d w => by simp [Op.equalIn, hu.run]
theorem v_eqSlN {el : TypeId} {a : Option Addr} {n c : Nat} (hu : TyUnd P t (.slice el)) (hx : ev e x = some (.slice a n c)) (hy : ev e y = some (.slice none 0 0)) : OpV P C (.binOp .eql t x y t') ty e L (.bool a.isNone) :=
  v_eqW hx hy guard_sl rfl fun d w => by cases a <;> simp [Op.equalIn, hu.run]
theorem v_eqB {a b : Bool} (hu : TyUnd P t .bool) (hx : ev e x = some (.bool a)) (hy : ev e y = some (.bool b)) : OpV P C (.binOp .eql t x y t') ty e L (.bool (a == b)) :=
  v_eqW hx hy guard_b rfl fun d w => by simp [Op.equalIn, hu.run]
theorem v_neB {a b : Bool} (hu : TyUnd P t .bool) (hx : ev e x = some (.bool a)) (hy : ev e y = some (.bool b)) : OpV P C (.binOp .neq t x y t') ty e L (.bool (!(a == b))) :=
  v_neW hx hy guard_b rfl fun d w => by simp [Op.equalIn, hu.run]

/-- A text, by its bytes. -/
abbrev str (bs : List UInt8) : Value := .string ⟨bs.toArray⟩
theorem toList_str (bs : List UInt8) : (⟨bs.toArray⟩ : ByteArray).toList = bs := by
  have key : ∀ (n i : Nat) (r : List UInt8), bs.length - i = n → i ≤ bs.length → ByteArray.toList.loop ⟨bs.toArray⟩ i r = r.reverse ++ bs.drop i := by
    intro n
    induction n with
    | zero =>
      intro i r h1 h2
      unfold ByteArray.toList.loop
      have : ¬ i < (⟨bs.toArray⟩ : ByteArray).size := by simp [ByteArray.size]; omega
      rw [if_neg this, List.drop_eq_nil_of_le (by omega), List.append_nil]
    | succ n ih =>
      intro i r h1 h2
      unfold ByteArray.toList.loop
      have h3 : i < bs.length := by omega
      have : i < (⟨bs.toArray⟩ : ByteArray).size := by simpa [ByteArray.size] using h3
      rw [if_pos this, ih (i + 1) _ (by omega) (by omega), List.drop_eq_getElem_cons h3]
      have hg : (⟨bs.toArray⟩ : ByteArray).get! i = bs[i] := by
        simp [ByteArray.get!, h3]
      rw [hg]; simp
  have := key bs.length 0 [] (by omega) (by omega)
  simpa [ByteArray.toList] using this
theorem size_str (bs : List UInt8) : (⟨bs.toArray⟩ : ByteArray).size = bs.length := by simp [ByteArray.size]
theorem v_eqS {a b : List UInt8} (hx : ev e x = some (str a)) (hy : ev e y = some (str b)) : OpV P C (.binOp .eql t x y t') ty e L (.bool (decide (a = b))) := fun w tm ds pos after guard dst s a' => by
  have : (a == b) = decide (a = b) := by by_cases h : a = b <;> simp [h]
  simp [execOp, a'.ev hx, a'.ev hy, guard_s, binOp, Op.stringOp, toList_str, this]
theorem v_neS {a b : List UInt8} (hx : ev e x = some (str a)) (hy : ev e y = some (str b)) : OpV P C (.binOp .neq t x y t') ty e L (.bool (!decide (a = b))) := fun w tm ds pos after guard dst s a' => by
  have : (a == b) = decide (a = b) := by by_cases h : a = b <;> simp [h]
  simp [execOp, a'.ev hx, a'.ev hy, guard_s, binOp, Op.stringOp, toList_str, this]
theorem v_lenStr {bs : List UInt8} (hu : TyUnd P t .string) (hx : ev e x = some (str bs)) : OpV P C (.call ⟨.builtin .len, #[x], #[t]⟩) ty e L (.int .i64 bs.length) := by
  have := v_lenS (C := C) (L := L) (ty := ty) hu hx
  rw [size_str] at this; exact this
theorem v_indexS {k : IntKind} {i : Int} {bs : List UInt8} {b : UInt8} (hu : TyUnd P t .string) (hx : ev e x = some (str bs)) (hy : ev e y = some (.int k i)) (h0 : 0 ≤ i) (hb : bs[i.toNat]? = some b) : OpV P C (.index t x y) ty e L (.int .u8 b.toNat) := fun w tm ds pos after guard dst s a' => by
  have hlt : i.toNat < bs.length := (List.getElem?_eq_some_iff.1 hb).1
  have hg : (⟨bs.toArray⟩ : ByteArray)[i.toNat]? = some b := by
    rw [getElem?_pos _ _ (by simpa [ByteArray.size] using hlt)]
    have := (List.getElem?_eq_some_iff.1 hb).2
    show some ((⟨bs.toArray⟩ : ByteArray).get _ _) = _
    simp [ByteArray.get, this]
  simp [execOp, a'.ev hx, a'.ev hy, Instr.index, asIntOf, hu.run, h0, hg]

/-- A part of a struct or an array that is a value. -/
theorem v_field {f off : Nat} {cs : List Value} {v : Value} (hf : TyField P t f off) (hs : ∀ fs, P.underlying t = some (.struct fs) → ∀ fd, fs[f]? = some fd → TyScalar P fd.type) (hx : ev e x = some (.agg cs.toArray)) (hv : cs[off]? = some v) : OpV P C (.field t x f) ty e L v := fun w tm ds pos after guard dst s a' => by
  have hf' := hf
  unfold TyField fieldB at hf'
  split at hf' <;> rename_i h1
  · split at hf' <;> rename_i h2
    · rename_i fields fd
      rw [Bool.and_eq_true] at hf'
      have e1 : fd.offset = off := by simpa using hf'.1
      have h3 := (hs _ h1 _ h2).notAgg.2
      simp [execOp, a'.ev hx, Instr.field, underlying, h1, h2, asAgg, part, h3, e1, hv]
    · cases hf'
  · cases hf'

/-- Bytes, as cells. -/
def u8s (bs : List UInt8) : List Value := bs.map fun b => .int .u8 b.toNat
@[simp] theorem u8s_length (bs : List UInt8) : (u8s bs).length = bs.length := by simp [u8s]
@[simp] theorem u8s_append (a b : List UInt8) : u8s (a ++ b) = u8s a ++ u8s b := by simp [u8s]
@[simp] theorem u8s_nil : u8s [] = [] := rfl
theorem u8s_get {bs : List UInt8} {i : Nat} {b : UInt8} (h : bs[i]? = some b) : (u8s bs)[i]? = some (.int .u8 b.toNat) := by simp [u8s, h]
theorem u8s_take (bs : List UInt8) (n : Nat) : (u8s bs).take n = u8s (bs.take n) := by simp [u8s]
theorem u8s_drop (bs : List UInt8) (n : Nat) : (u8s bs).drop n = u8s (bs.drop n) := by simp [u8s]
theorem allOne_u8s (bs : List UInt8) : allOne (u8s bs) = true := by
  induction bs with
  | nil => rfl
  | cons b bs ih => simpa [u8s, allOne, Value.oneCell'] using ih
theorem u8s_inj {a b : List UInt8} (h : u8s a = u8s b) : a = b := by
  induction a generalizing b with
  | nil => cases b with
    | nil => rfl
    | cons => simp [u8s] at h
  | cons x a ih => cases b with
    | nil => simp [u8s] at h
    | cons y b =>
      simp only [u8s, List.map_cons, List.cons.injEq, Value.int.injEq, true_and] at h
      obtain ⟨h1, h2⟩ := h
      have : x.toNat = y.toNat := by exact_mod_cast h1
      rw [UInt8.toNat_inj.1 this, ih h2]

/-- Bytes as a text. -/
theorem v_str {src dst el : TypeId} {a : Option Addr} {n c : Nat} {bs : List UInt8} (hs : TyUnd P src (.slice el)) (he : TyUnd P el (.int .u8)) (hd : TyUnd P dst .string) (hx : ev e x = some (.slice a n c)) (hsrc : SrcOK P C L (.slice a n c) 1 n (u8s bs)) :
    OpV P C (.convert src dst x) ty e L (str bs) := fun w tm ds pos after guard dst' s a' => by
  have h2 := (hsrc w s).2
  have hr : (Conv.bytesToString (.slice a n c)).run P w = .ok (str bs) w := by
    cases a with
    | none =>
      simp only [Builtin.firstCells, Sem.run_pure, Result.ok.injEq, and_true] at h2
      have hb : bs = [] := by
        have := congrArg Array.toList h2
        simp only [List.nil_eq] at this
        cases bs with
        | nil => rfl
        | cons => simp [u8s] at this
      subst hb
      rfl
    | some a =>
      simp only [Builtin.firstCells, Nat.mul_one] at h2
      have := run_bytesToString (P := P) w a n c (bs.map fun b => (b.toNat : Int)) (by rw [h2]; simp [u8s])
      rw [this]
      congr 1
      have key : ∀ (l : List UInt8) (acc : ByteArray), (l.map fun b => (b.toNat : Int)).foldl (fun r n => r.push (UInt8.ofNat n.toNat)) acc = ⟨acc.data ++ l.toArray⟩ := by
        intro l
        induction l with
        | nil => intro acc; simp
        | cons b l ih =>
          intro acc
          simp only [List.map_cons, List.foldl_cons, ih, Int.toNat_natCast, UInt8.ofNat_toNat]
          congr 1
          simp [ByteArray.push]
      rw [key]
      congr 2
      exact Array.empty_append
  have hu1 : P.underlying src = some (.slice el) := hs
  have hu2 : P.underlying el = some (.int .u8) := he
  have hu3 : P.underlying dst = some .string := hd
  simp [execOp, a'.ev hx, run_convert_bytes_string w src dst el a n c hu1 hu2 hu3, hr]
end vals

section ops
variable {P : Program} {C : Cx} {e : Env} {L M : List HP} {ty : TypeId} {pos : String} {after : Array Edge} {guard : Option (Nat × Bool)} {dst : Option Tmp} {K : Value → List HP → Prop}

/-- A block that stays, as a slice of it. -/
theorem roSl_of_blk {b : Nat} {vs cells : List Value} {T : TypeId} {fz : Nat × Nat} {o n c size : Nat} {L : List HP} (hl : cells.length = n * size) (hc : n ≤ c) (hv : (vs.drop o).take (n * size) = cells) (hle : o + n * size ≤ vs.length) :
    Ent (pe (rob b vs T fz) :: L) (pe (roSl ⟨some ⟨b, o, none⟩, n, c⟩ cells size) :: L) := by
  rintro h r ⟨h1, h2, hs, ha, hl'⟩
  refine ⟨h1, h2, hs, ⟨(b, o, vs, T, fz), ⟨hl, hc, .inr ⟨rfl, hv, hle⟩⟩, ?_⟩, hl'⟩
  intro x hx
  simp only at hx
  split at hx
  · cases hx
  · rw [List.mem_singleton.1 hx]; exact ha

/-- A text as bytes. -/
theorem w_bytes {src t el : TypeId} {x : Operand} {bs : List UInt8} (hs : TyUnd P src .string) (hu : TyUnd P t (.slice el)) (he : TyUnd P el (.int .u8)) (hx : ev e x = some (str bs)) (hlen : bs.length < 9223372036854775808)
    (h : ∀ x' : SV, x'.n = bs.length → K x'.v (pe (roSl x' (u8s bs) 1) :: L)) : OpW P C ⟨dst, .convert src t x, ty, pos, after, guard⟩ e L K := by
  intro w tm ds s a'
  let cp := grownCap w bs.length 0 el
  have hge : bs.length ≤ cp := by simp [cp, grownCap, Question.cut]
  let cells : List Value := u8s bs ++ List.replicate (cp - bs.length) (.int .u8 0)
  let ob : Obj := .cells cells.toArray el (cells.length, cells.length + 1)
  have hrun : (execOp (Act.eval ⟨tm, ds⟩) ⟨dst, .convert src t x, ty, pos, after, guard⟩).run P w = .ok (.value (.slice (some ⟨w.heap.size, 0, none⟩) bs.length cp)) (w.drew.alloc ob) := by
    have hc : (Array.map (fun b : UInt8 => Value.int .u8 b.toNat) bs.toArray ++ Array.replicate (cp - bs.length) (Value.int .u8 0)) = cells.toArray := by
      apply Array.toList_inj.1; simp [cells, u8s]
    have hshape : (w.drew.alloc (.cells cells.toArray el)).shape? w.heap.size = some (el, cells.length) := by
      have h0 : (w.drew.alloc (.cells cells.toArray el)).heap[w.heap.size]? = some (.cells cells.toArray el) := by show (w.heap.push _)[w.heap.size]? = _; simp
      simp only [World.shape?, h0, List.size_toArray]
    have hfr : (w.drew.alloc (.cells cells.toArray el)).freeze ⟨w.heap.size, cells.length, none⟩ 1 = w.drew.alloc ob := by
      have hg : ∀ (hp : Array Obj), hp = w.heap.push (.cells cells.toArray el) → (hp.modify w.heap.size fun
          | .cells c elem (lo, hi) => .cells c elem (if lo == hi then (cells.length, cells.length + 1) else (min lo cells.length, max hi (cells.length + 1)))
          | o => o) = w.heap.push ob := ?_
      · have := hg _ rfl
        unfold World.freeze
        rw [if_neg (by decide)]
        exact congrArg (fun hp => ({ w.drew with heap := hp } : World)) this
      rintro hp rfl
      apply Array.ext
      · simp
      · intro i h1 h2
        simp only [Array.size_modify, Array.size_push] at h1
        rw [Array.getElem_modify]
        by_cases hi : w.heap.size = i
        · subst hi; simp [ob]
        · simp only [hi, if_false]
          rw [Array.getElem_push_lt (by omega), Array.getElem_push_lt (by omega)]
    simp only [execOp, a'.ev hx, convert, bind_assoc, Sem.run_bind, hs.run, hu.run, he.run, Result.andThen_ok, Conv.stringToBytes, run_choose, Question.forced, Bool.false_eq_true, if_false]
    simp only [show (⟨bs.toArray⟩ : ByteArray).size = bs.length from size_str bs]
    have hcp : (Question.appendCap bs.length 0 el).cut (w.tape w.drawn (.appendCap bs.length 0 el)) = cp := rfl
    simp only [hcp, hc, newRow, Sem.run_bind, run_newObj, Result.andThen_ok, markStringish, Sem.run_pure]
    have hw : ({ w with drawn := w.drawn + 1, heap := w.heap.push (.cells cells.toArray el) } : World) = w.drew.alloc (.cells cells.toArray el) := rfl
    simp only [hw, run_shape, hshape, Result.andThen_ok]
    simp [hfr]
  have s1 := (s.push (o := ob) (w' := w.drew.alloc ob) rfl rfl rfl rfl).freeze
  refine SemC.value hrun ⟨_, ?_, h ⟨some ⟨w.heap.size, 0, none⟩, bs.length, cp⟩ rfl⟩
  exact (roSl_of_blk (by simp) hge (by simp only [cells, List.drop_zero, Nat.mul_one]; rw [← u8s_length bs, List.take_left]) (by simp [cells])).sat s1
end ops
end Go.Proofs.YtealmijbkebipaaGreatDoor
