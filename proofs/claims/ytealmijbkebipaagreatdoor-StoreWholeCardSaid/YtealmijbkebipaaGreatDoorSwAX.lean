/- The plain law of layer 13: dropped, read, written, flushed, committed. The plain law of layer 13: written, flushed, synced, committed. The plain law of layer 13: a store that is opened; the example. Pairs of numbers, compared. -/
import Derived.Test.YtealmijbkebipaaGreatDoorSwAW
import Derived.Test.YtealmijbkebipaaGreatDoorSwAK
namespace Go.Proofs.YtealmijbkebipaaGreatDoor
open Go

theorem mem_erase_page : ∀ {l : List PgR} {i : Nat} {p : PgR}, (l.map PgR.page).Nodup → l[i]? = some p → ∀ q, q ∈ l.eraseIdx i ↔ q ∈ l ∧ q.page ≠ p.page
  | [], _, _, _, h, _ => by cases h
  | a :: l, 0, p, hn, h, q => by
    cases h
    rw [List.map_cons, List.nodup_cons] at hn
    rw [List.eraseIdx_cons_zero]
    constructor
    · exact fun hq => ⟨List.mem_cons_of_mem _ hq, fun e => hn.1 (List.mem_map.2 ⟨q, hq, e⟩)⟩
    · rintro ⟨hq, hne⟩
      rcases List.mem_cons.1 hq with rfl | hq
      · exact absurd rfl hne
      · exact hq
  | a :: l, i + 1, p, hn, h, q => by
    rw [List.map_cons, List.nodup_cons] at hn
    have h' : l[i]? = some p := h
    have ih := mem_erase_page hn.2 h' q
    have hpl : p ∈ l := List.mem_of_getElem? h'
    rw [List.eraseIdx_cons_succ, List.mem_cons, List.mem_cons, ih]
    constructor
    · rintro (rfl | ⟨hq, hne⟩)
      · exact ⟨.inl rfl, fun e => hn.1 (List.mem_map.2 ⟨p, hpl, e.symm⟩)⟩
      · exact ⟨.inr hq, hne⟩
    · rintro ⟨rfl | hq, hne⟩
      · exact .inl rfl
      · exact .inr ⟨hq, hne⟩
theorem erase_len {l : List PgR} {i c : Nat} (h : l.length ≤ c) : (l.eraseIdx i).length ≤ c := by
  have := List.length_eraseIdx_le l i; omega
theorem erase_nodup {l : List PgR} {i : Nat} (h : (l.map PgR.page).Nodup) : ((l.eraseIdx i).map PgR.page).Nodup :=
  h.sublist ((List.eraseIdx_sublist l i).map _)

/-- A page that no step writes. -/
structure Safe (r : RefS) (k : Int) : Prop where
  k0 : 0 ≤ k
  has : r.T.has k.toNat = true
  fr : k ∉ r.fresh
abbrev Went (r : RefS) (c : Nat) (st st' : DevA) : Prop := DStep (fun k => ¬ Safe r k) c st st'

theorem drop_law {c i : Nat} {S : StA} {st : DevA} {r r' : RefS} {p : PgR} (h : Inv c S st r) (hp : r.live[i]? = some p) (hD : DropR r i r') :
    Inv (c + 1) (S.goneS p.page) st r' ∧ (∀ k, Safe r k → Safe r' k) ∧ r'.dead = r.dead ∧ r'.gen = r.gen := by
  have hpl : p ∈ r.live := List.mem_of_getElem? hp
  have hlv := h.live p hpl
  have her := mem_erase_page h.nodup hp
  have hbk : ((p.page.toNat : Nat) : Int) = p.page := Int.toNat_of_nonneg hlv.p0
  cases hD with
  | @fresh p' hp' hin =>
    rw [hp] at hp'; cases hp'
    have hT : S.taken.put p.page.toNat false = r.T.clr p.page := by
      unfold SetA.clr
      rw [if_pos (by simp [hlv.p0, hlv.has]), h.T]
    have hg : S.goneS p.page = { S with fresh := sout S.fresh p.page, taken := S.taken.put p.page.toNat false, mem := mout S.mem p.page } := by
      unfold StA.goneS; rw [if_pos ((h.fr _).2 hin)]
    rw [hg, hT]
    have hclr : ∀ k : Int, 0 ≤ k → k ≠ p.page → r.T.has k.toNat = true → (r.T.clr p.page).has k.toNat = true := by
      intro k h0 hk hh
      rw [SetA.clr_has _ hlv.p0, hh, decide_eq_false (by omega)]; rfl
    have hout : ∀ k, mout S.mem p.page k = if k = p.page then none else S.mem k := fun _ => rfl
    refine ⟨{ m := ⟨h.m.first, h.m.pages, h.m.room, h.m.n, h.m.size, h.m.down, fun k q hk hd => ?_, fun k q hk hd => ?_, fun k q hk => ?_⟩
              T := rfl, B := SetA.clr_B h.B _, tn := ?_, gen := h.gen, g1 := h.g1, g2 := h.g2, fr := fun k => ?_, dy := h.dy, de := h.de
              sep1 := fun k hk => h.sep1 k (List.mem_filter.1 hk).1, sep2 := h.sep2
              dyT := fun k hk => ?_, deT := fun k hk => ?_, frL := fun k hk => ?_, live := fun q hq => ?_, nodup := erase_nodup h.nodup, cont := fun q hq => ?_, memT := fun k hk => ?_
              l1 := erase_len (Nat.le_succ_of_le h.l1), l2 := Nat.le_trans (List.length_filter_le _ _) (Nat.le_succ_of_le h.l2), l3 := Nat.le_succ_of_le h.l3, l4 := Nat.le_succ_of_le h.l4 }, fun k hk => ?_, rfl, rfl⟩
    · have hk : mout S.mem p.page k = some q := hk
      rw [hout] at hk
      by_cases e : k = p.page
      · rw [if_pos e] at hk; cases hk
      · rw [if_neg e] at hk; exact h.m.clean k q hk hd
    · have hk : mout S.mem p.page k = some q := hk
      rw [hout] at hk
      by_cases e : k = p.page
      · rw [if_pos e] at hk; cases hk
      · rw [if_neg e] at hk
        show sout S.fresh p.page k = true
        unfold sout; rw [if_neg e]; exact h.m.dirty k q hk hd
    · have hk : mout S.mem p.page k = some q := hk
      rw [hout] at hk
      by_cases e : k = p.page
      · rw [if_pos e] at hk; cases hk
      · rw [if_neg e] at hk; exact h.m.memk k q hk
    · show (r.T.clr p.page).n = 48
      rw [← h.tn]; unfold SetA.clr; split <;> rfl
    · show sout S.fresh p.page k = true ↔ k ∈ r.fresh.filter _
      unfold sout
      by_cases e : k = p.page
      · rw [if_pos e, List.mem_filter]; simp [e]
      · rw [if_neg e, h.fr, List.mem_filter]; simp [e]
    · obtain ⟨a, b, d⟩ := h.dyT k hk
      exact ⟨a, b, hclr k a (fun e => (h.sep1 _ hin).1 (e ▸ hk)) d⟩
    · obtain ⟨a, b, d⟩ := h.deT k hk
      exact ⟨a, b, hclr k a (fun e => (h.sep1 _ hin).2 (e ▸ hk)) d⟩
    · obtain ⟨hk1, hk2⟩ := List.mem_filter.1 hk
      obtain ⟨q, hq, e1, e2⟩ := h.frL k hk1
      refine ⟨q, (her q).2 ⟨hq, ?_⟩, e1, e2⟩
      rw [e1]; simpa using hk2
    · obtain ⟨hq, hne⟩ := (her q).1 hq
      have hv := h.live q hq
      exact ⟨hv.p0, hv.p1, hv.load, hv.s0, hv.s1, hclr _ hv.p0 hne hv.has, hv.dy, hv.de⟩
    · obtain ⟨hq, hne⟩ := (her q).1 hq
      have hc := h.cont q hq
      unfold Cont at hc ⊢
      show (match mout S.mem p.page q.page with | some w => w.stamp = q.stamp ∧ w.load = q.load | none => _)
      rw [hout, if_neg hne]; exact hc
    · have hk : (mout S.mem p.page k).isSome = true := hk
      rw [hout] at hk
      by_cases e : k = p.page
      · rw [if_pos e] at hk; cases hk
      · rw [if_neg e] at hk
        obtain ⟨w, hw⟩ := Option.isSome_iff_exists.1 hk
        exact hclr k (h.m.memk k w hw).k0 e (h.memT k hk)
    · refine ⟨hk.k0, hclr k hk.k0 (fun e => hk.fr (e ▸ hin)) hk.has, fun hf => hk.fr (List.mem_filter.1 hf).1⟩
  | @old p' y hp' hin hW =>
    rw [hp] at hp'; cases hp'
    have hg : S.goneS p.page = { S with dying := sset S.dying p.page } := by
      unfold StA.goneS; rw [if_neg (fun hf => hin ((h.fr _).1 hf))]
    rw [hg]
    refine ⟨{ m := ⟨h.m.first, h.m.pages, h.m.room, h.m.n, h.m.size, h.m.down, h.m.clean, h.m.dirty, h.m.memk⟩
              T := h.T, B := h.B, tn := h.tn, gen := h.gen, g1 := h.g1, g2 := h.g2, fr := h.fr, dy := fun k => ?_, de := h.de
              sep1 := fun k hk => ⟨fun hd => ?_, (h.sep1 k hk).2⟩, sep2 := fun k hk => ?_
              dyT := fun k hk => ?_, deT := h.deT, frL := fun k hk => ?_, live := fun q hq => ?_, nodup := erase_nodup h.nodup, cont := fun q hq => h.cont q ((her q).1 hq).1, memT := h.memT
              l1 := erase_len (Nat.le_succ_of_le h.l1), l2 := Nat.le_succ_of_le h.l2, l3 := ?_, l4 := Nat.le_succ_of_le h.l4 }, fun k hk => ⟨hk.k0, hk.has, hk.fr⟩, rfl, rfl⟩
    · show sset S.dying p.page k = true ↔ k ∈ y
      rw [hW.mem]
      unfold sset
      by_cases e : k = p.page
      · rw [if_pos e]; simp [e]
      · rw [if_neg e, h.dy]; simp [e]
    · rcases (hW.mem k).1 hd with e | hd
      · exact hin (e ▸ hk)
      · exact (h.sep1 k hk).1 hd
    · rcases (hW.mem k).1 hk with e | hk
      · rw [e]; exact hlv.de
      · exact h.sep2 k hk
    · rcases (hW.mem k).1 hk with e | hk
      · rw [e]; exact ⟨hlv.p0, hlv.p1, hlv.has⟩
      · exact h.dyT k hk
    · obtain ⟨q, hq, e1, e2⟩ := h.frL k hk
      refine ⟨q, (her q).2 ⟨hq, fun e => hin ?_⟩, e1, e2⟩
      rw [← e, e1]; exact hk
    · obtain ⟨hq, hne⟩ := (her q).1 hq
      have hv := h.live q hq
      refine ⟨hv.p0, hv.p1, hv.load, hv.s0, hv.s1, hv.has, fun hd => ?_, hv.de⟩
      rcases (hW.mem _).1 hd with e | hd
      · exact hne e
      · exact hv.dy hd
    · show y.length ≤ c + 1
      rw [hW.len]; have := h.l3; omega

theorem get_eq {st : DevA} {k stamp : Int} {load : List UInt8} (hn : st.n = 60) (hd : st.down = false) (h0 : 0 ≤ k) (h1 : k < 48) (hr : readL (st.read (12 + k)) = some (pgLeaf k stamp load)) : st.get (12 + k) 2 k = (some (pgLeaf k stamp load), 0) := by
  have hready : st.ready (12 + k) = 0 := by
    unfold DevA.ready
    rw [hd, if_neg (by decide), if_pos ⟨by omega, by rw [hn]; omega⟩]
  unfold DevA.get
  rw [if_pos hready, hr]
  dsimp only
  rw [if_pos ⟨rfl, rfl⟩]
theorem inE_zero {S : StA} {st : DevA} (h : MInv S st) {k : Int} (h0 : 0 ≤ k) (h1 : k < 48) : S.inE k = 0 := by
  unfold StA.inE
  rw [h.pages, if_neg (by omega)]
theorem fresh_unsafe {c : Nat} {S : StA} {st : DevA} {r : RefS} (h : Inv c S st r) {k : Int} (hk : S.fresh k = true) : ¬ Safe r k := fun hs => hs.fr ((h.fr k).1 hk)

theorem read_law {c : Nat} {S S' : StA} {st st' : DevA} {r : RefS} {p : PgR} {load : List UInt8} {e : Nat} (h : Inv c S st r) (hp : p ∈ r.live) (hR : ReadR S st ⟨p.page, p.stamp⟩ load e S' st') :
    Went r 1 st st' ∧ (e = 4 ∨ e = 0 ∧ load = p.load ∧ Inv c S' st' r) := by
  have hlv := h.live p hp
  have hc := h.cont p hp
  have hin := inE_zero h.m hlv.p0 hlv.p1
  have hg2 := h.g2
  have hs1 := hlv.s1
  have hget : S.mem p.page = none → st.get (S.first + p.page) 2 p.page = (some (pgLeaf p.page p.stamp p.load), 0) := fun hm => by
    rw [h.m.first]
    exact get_eq h.m.n h.m.down hlv.p0 hlv.p1 ((Cont.dev hm).1 hc)
  have hkeep : ∀ {e : Nat} {x : LeafA}, S.mem p.page = none → st.get (S.first + p.page) 2 p.page = (some x, 0) → KeepR S st p.page ⟨x.stamp, x.load, false⟩ e S' st' →
      x = pgLeaf p.page p.stamp p.load ∧ Went r 1 st st' ∧ (e = 4 ∨ e = 0 ∧ Inv c S' st' r) := by
    intro e x hm hg hk
    rw [hget hm] at hg
    cases hg
    obtain ⟨hst, hor⟩ := keep_law h.m (q := ⟨p.stamp, p.load, false⟩) ⟨hlv.p0, hlv.p1, hlv.load, hlv.s0, by show p.stamp ≤ _; omega⟩ (fun hd => by cases hd) (fun _ => (Cont.dev hm).1 hc) hk
    refine ⟨rfl, hst.mono (fun k hk => fresh_unsafe h hk) (Nat.le_refl _), ?_⟩
    rcases hor with he | ⟨he, hki⟩
    · exact .inl he
    · refine .inr ⟨he, h.kept hki hlv.has fun q hq hqp => ?_⟩
      rw [nodup_page h.nodup hq hp hqp]
      exact ⟨rfl, rfl⟩
  cases hR with
  | range hne => exact absurd hin hne
  | @mem q _ hq =>
    have hc' := (Cont.mem hq).1 hc
    exact ⟨DStep.refl _, .inr (by dsimp only; rw [if_pos hc'.1, if_pos hc'.1]; exact ⟨rfl, hc'.2, h⟩)⟩
  | bad _ hm hne => exact absurd (by rw [hget hm]) hne
  | out _ hm hg hk hne =>
    obtain ⟨_, hw, hor⟩ := hkeep hm hg hk
    exact ⟨hw, .inl (hor.resolve_right fun hh => hne hh.1)⟩
  | dev _ hm hg hk =>
    obtain ⟨hx, hw, hor⟩ := hkeep hm hg hk
    subst hx
    refine ⟨hw, .inr ?_⟩
    rcases hor with he | ⟨_, hi⟩
    · cases he
    · rw [if_pos (show (pgLeaf p.page p.stamp p.load).stamp = p.stamp from rfl), if_pos (show (pgLeaf p.page p.stamp p.load).stamp = p.stamp from rfl)]
      exact ⟨rfl, rfl, hi⟩

end Go.Proofs.YtealmijbkebipaaGreatDoor

namespace Go.Proofs.YtealmijbkebipaaGreatDoor
open Go

/-- An act goes well, or the device goes down. -/
structure DidOK (c : Nat) (S : StA) (st : DevA) (r r' : RefS) : Prop where
  inv : Inv c S st r'
  safe : ∀ k, Safe r k → Safe r' k
  dead : r'.dead = r.dead
  gen : r'.gen = r.gen

theorem new_law2 {c : Nat} {S S' : StA} {st st' : DevA} {r r' : RefS} {load : List UInt8} {q : RefA} {e : Nat} {p : PgR} {ok : Bool} (h : Inv c S st r) (hl : load.length ≤ 77) (hN : NewR S st load q e S' st') (hM : MakeR r load r' p ok) :
    (ok = false ∧ e = 6 ∧ S' = S ∧ st' = st) ∨ (ok = true ∧ Went r 1 st st' ∧ (e = 4 ∨ (e = 0 ∧ q = ⟨p.page, p.stamp⟩ ∧ DidOK (c + 1) S' st' r r'))) := by
  rcases new_law h hl hN hM with hf | ⟨hok, hst, hfr, hor⟩
  · exact .inl hf
  · refine .inr ⟨hok, hst.mono (fun k hk hs => ?_) (Nat.le_refl _), ?_⟩
    · rcases hfr k hk with hh | hh
      · exact hs.fr hh
      · rw [hs.has] at hh; cases hh
    · rcases hor with he | ⟨he, hq, hi⟩
      · exact .inl he
      · refine .inr ⟨he, hq, hi, fun k hk => ?_, ?_, ?_⟩
        · refine ⟨hk.k0, ?_, fun hf => ?_⟩
          · cases hM with
            | full _ => cases hok
            | made hpk hW =>
              show r.T.took.has _ = true
              rw [SetA.took_has h.B hpk]; split
              · rfl
              · exact hk.has
          · rcases hfr k hf with hh | hh
            · exact hk.fr hh
            · rw [hk.has] at hh; cases hh
        · cases hM <;> rfl
        · cases hM <;> rfl

theorem write_law {c i : Nat} {S S' : StA} {st st' : DevA} {r r' : RefS} {load : List UInt8} {q : RefA} {e : Nat} {p p' : PgR} {ok : Bool} (h : Inv c S st r) (hp : r.live[i]? = some p) (hl : load.length ≤ 77)
    (hN : WriteR S st ⟨p.page, p.stamp⟩ load q e S' st') (hM : WrR r i load r' p' ok) :
    (ok = false ∧ e = 6 ∧ S' = S ∧ st' = st) ∨ (ok = true ∧ Went r 1 st st' ∧ (e = 4 ∨ (e = 0 ∧ q = ⟨p'.page, p'.stamp⟩ ∧ DidOK (c + 2) S' st' r r'))) := by
  have hpl : p ∈ r.live := List.mem_of_getElem? hp
  have hlv := h.live p hpl
  have hin := inE_zero h.m hlv.p0 hlv.p1
  have hroom := h.m.room
  have hhas : S.taken.has p.page.toNat = true := by rw [h.T]; exact hlv.has
  have hgen := h.gen
  have hg1 := h.g1
  have hg2 := h.g2
  cases hN with
  | long hlo => omega
  | range _ hne => exact absurd hin hne
  | none _ _ hno => rw [hhas] at hno; cases hno
  | fresh _ _ _ hfr hK =>
    have hf := (h.fr _).1 hfr
    cases hM with
    | full hp2 hnf _ => rw [hp] at hp2; cases hp2; exact absurd hf hnf
    | new hp2 hnf _ _ => rw [hp] at hp2; cases hp2; exact absurd hf hnf
    | @fresh p2 hp2 _ =>
      rw [hp] at hp2; cases hp2
      right
      have hst : p.stamp = r.gen := by
        obtain ⟨p2, h2, e1, e2⟩ := h.frL _ hf
        rw [← nodup_page h.nodup h2 hpl e1]; exact e2
      obtain ⟨hd, hor⟩ := keep_law h.m (q := ⟨S.gen, load, true⟩) ⟨hlv.p0, hlv.p1, hl, by show 0 ≤ S.gen; omega, by show S.gen ≤ _; omega⟩ (fun _ => hfr) (fun hd => by cases hd) hK
      refine ⟨rfl, hd.mono (fun k hk => fresh_unsafe h hk) (Nat.le_refl _), ?_⟩
      rcases hor with he | ⟨he, hki⟩
      · exact .inl he
      · refine .inr ⟨he, by rw [hgen, ← hst], ?_, fun k hk => ⟨hk.k0, hk.has, hk.fr⟩, rfl, rfl⟩
        have hs := hki.same
        have e1 : S'.taken = S.taken := (congrArg StA.taken hs).trans rfl
        have e2 : S'.gen = S.gen := (congrArg StA.gen hs).trans rfl
        have e3 : S'.fresh = S.fresh := (congrArg StA.fresh hs).trans rfl
        have e4 : S'.dying = S.dying := (congrArg StA.dying hs).trans rfl
        have e5 : S'.dead = S.dead := (congrArg StA.dead hs).trans rfl
        have hset : ∀ q ∈ r.live.set i { p with load := load }, q = { p with load := load } ∨ q ∈ r.live ∧ q.page ≠ p.page := by
          intro q hq
          obtain ⟨j, hj⟩ := List.mem_iff_getElem?.1 hq
          rw [List.getElem?_set] at hj
          by_cases hij : i = j
          · subst hij
            rw [if_pos rfl] at hj
            split at hj
            · left; exact (Option.some.inj hj).symm
            · cases hj
          · rw [if_neg hij] at hj
            refine .inr ⟨List.mem_of_getElem? hj, fun e => hij ?_⟩
            have hn := h.nodup
            have a1 : (r.live.map PgR.page)[i]? = some p.page := by rw [List.getElem?_map, hp]; rfl
            have a2 : (r.live.map PgR.page)[j]? = some p.page := by rw [List.getElem?_map, hj]; exact congrArg some e
            obtain ⟨l1, b1⟩ := List.getElem?_eq_some_iff.1 a1
            obtain ⟨l2, b2⟩ := List.getElem?_eq_some_iff.1 a2
            exact (List.getElem?_inj l1 hn).1 (a1.trans a2.symm)
        have hin2 : ∀ q ∈ r.live, q.page ≠ p.page → q ∈ r.live.set i { p with load := load } := by
          intro q hq hne
          obtain ⟨j, hj⟩ := List.mem_iff_getElem?.1 hq
          refine List.mem_iff_getElem?.2 ⟨j, ?_⟩
          rw [List.getElem?_set, if_neg]
          · exact hj
          · intro e; subst e; rw [hp] at hj; cases hj; exact hne rfl
        have hself : ({ p with load := load } : PgR) ∈ r.live.set i { p with load := load } := by
          refine List.mem_iff_getElem?.2 ⟨i, ?_⟩
          rw [List.getElem?_set, if_pos rfl, if_pos (List.getElem?_eq_some_iff.1 hp).1]
        have hmap : (r.live.set i { p with load := load }).map PgR.page = r.live.map PgR.page := by
          rw [List.map_set]
          refine List.ext_getElem? fun j => ?_
          rw [List.getElem?_set]
          by_cases hij : i = j
          · subst hij
            rw [if_pos rfl, List.getElem?_map, hp]
            rw [if_pos (by rw [List.length_map]; exact (List.getElem?_eq_some_iff.1 hp).1)]; rfl
          · rw [if_neg hij]
        refine { m := hki.inv, T := e1.trans h.T, B := h.B, tn := h.tn, gen := e2.trans h.gen, g1 := h.g1, g2 := h.g2
                 fr := fun k => by rw [e3]; exact h.fr k
                 dy := fun k => by rw [e4]; exact h.dy k
                 de := fun k => by rw [e5]; exact h.de k
                 sep1 := h.sep1, sep2 := h.sep2, dyT := h.dyT, deT := h.deT
                 frL := fun k hk => ?_, live := fun q hq => ?_, nodup := by show ((r.live.set i { p with load := load }).map PgR.page).Nodup; rw [hmap]; exact h.nodup
                 cont := fun q hq => ?_, memT := fun k hk => ?_
                 l1 := by show (r.live.set _ _).length ≤ _; rw [List.length_set]; have := h.l1; omega
                 l2 := Nat.le_add_right_of_le h.l2, l3 := Nat.le_add_right_of_le h.l3, l4 := Nat.le_add_right_of_le h.l4 }
        · obtain ⟨w, hw, a, b⟩ := h.frL k hk
          by_cases hwp : w.page = p.page
          · exact ⟨_, hself, hwp.symm.trans a, hst⟩
          · exact ⟨w, hin2 w hw hwp, a, b⟩
        · rcases hset q hq with rfl | ⟨hq, _⟩
          · exact ⟨hlv.p0, hlv.p1, hl, hlv.s0, hlv.s1, hlv.has, hlv.dy, hlv.de⟩
          · have hv := h.live q hq
            exact ⟨hv.p0, hv.p1, hv.load, hv.s0, hv.s1, hv.has, hv.dy, hv.de⟩
        · rcases hset q hq with rfl | ⟨hq, hne⟩
          · show Cont S' st' p.page p.stamp load
            rw [Cont.mem hki.here]; exact ⟨hgen.trans hst.symm, rfl⟩
          · exact hki.cont _ hne _ _ (h.cont q hq)
        · rcases hki.sub k hk with rfl | hk
          · exact hlv.has
          · exact h.memT k hk
  | @new q e S1 st1 _ _ _ hfr hN =>
    have hnf : p.page ∉ r.fresh := fun hf => by rw [(h.fr _).2 hf] at hfr; cases hfr
    cases hM with
    | fresh hp2 hf => rw [hp] at hp2; cases hp2; exact absurd hf hnf
    | full hp2 _ hpk =>
      left
      rcases new_law h hl hN (.full hpk) with ⟨_, he, h1, h2⟩ | ⟨hok, _⟩
      · exact ⟨rfl, he, by rw [he, if_neg (by decide)]; exact h1, h2⟩
      · cases hok
    | @new p2 _ r1 r2 hp2 _ hMk hD =>
      rw [hp] at hp2; cases hp2
      right
      rcases new_law2 h hl hN hMk with ⟨hok, _⟩ | ⟨_, hw, hor⟩
      · cases hok
      · refine ⟨rfl, hw, ?_⟩
        rcases hor with he | ⟨he, hq, hd⟩
        · exact .inl he
        · have hp1 : r1.live[i]? = some p := by
            cases hMk with
            | made hpk hW =>
              show (r.live ++ _)[i]? = _
              rw [List.getElem?_append_left (List.getElem?_eq_some_iff.1 hp).1]; exact hp
          obtain ⟨h1, h2, h3, h4⟩ := drop_law hd.inv hp1 hD
          refine .inr ⟨he, hq, ?_, fun k hk => h2 k (hd.safe k hk), h3.trans hd.dead, h4.trans hd.gen⟩
          rw [he, if_pos rfl]; exact h1

def CleanAt (S : StA) (k : Int) : Prop := ∀ q, S.mem k = some q → q.dirty = false

theorem Inv.cleaned {c : Nat} {S : StA} {st st1 : DevA} {r : RefS} {k : Int} {q : PageA} (h : Inv c S st r) (hq : S.mem k = some q) (e1 : st1.n = st.n) (e2 : st1.size = st.size) (e3 : st1.down = false)
    (e4 : readL (st1.read (12 + k)) = some (pgLeaf k q.stamp q.load)) (e5 : ∀ j, j ≠ k → st1.read (12 + j) = st.read (12 + j)) : Inv c { S with mem := mset S.mem k { q with dirty := false } } st1 r := by
  have hms : ∀ j, mset S.mem k { q with dirty := false } j = if j = k then some { q with dirty := false } else S.mem j := fun _ => rfl
  refine { h with
    m := ⟨h.m.first, h.m.pages, h.m.room, e1.trans h.m.n, e2.trans h.m.size, e3, fun j w hj hd => ?_, fun j w hj hd => ?_, fun j w hj => ?_⟩
    cont := fun p hp => ?_
    memT := fun j hj => ?_ }
  · have hj : mset S.mem k { q with dirty := false } j = some w := hj
    rw [hms] at hj
    by_cases hjk : j = k
    · rw [if_pos hjk] at hj; cases hj; rw [hjk]; exact e4
    · rw [if_neg hjk] at hj; rw [e5 j hjk]; exact h.m.clean j w hj hd
  · have hj : mset S.mem k { q with dirty := false } j = some w := hj
    rw [hms] at hj
    by_cases hjk : j = k
    · rw [if_pos hjk] at hj; cases hj; cases hd
    · rw [if_neg hjk] at hj; exact h.m.dirty j w hj hd
  · have hj : mset S.mem k { q with dirty := false } j = some w := hj
    rw [hms] at hj
    by_cases hjk : j = k
    · rw [if_pos hjk] at hj; cases hj; rw [hjk]
      have := h.m.memk k q hq
      exact ⟨this.k0, this.k1, this.load, this.s0, this.s1⟩
    · rw [if_neg hjk] at hj; exact h.m.memk j w hj
  · have hc := h.cont p hp
    unfold Cont at hc ⊢
    show (match mset S.mem k { q with dirty := false } p.page with | some w => w.stamp = p.stamp ∧ w.load = p.load | none => _)
    rw [hms]
    by_cases hpk : p.page = k
    · rw [if_pos hpk]
      rw [hpk, hq] at hc
      exact hc
    · rw [if_neg hpk, e5 _ hpk]; exact hc
  · have hj : (mset S.mem k { q with dirty := false } j).isSome = true := hj
    rw [hms] at hj
    by_cases hjk : j = k
    · rw [hjk]; exact h.memT k (by rw [hq]; rfl)
    · rw [if_neg hjk] at hj; exact h.memT j hj

theorem flush_law (r : RefS) (c : Nat) : ∀ (ks : List Int) (S : StA) (st : DevA), Inv c S st r →
    Went r ks.length st (S.flushL st ks).2.2 ∧ ((S.flushL st ks).1 = 4 ∨ (S.flushL st ks).1 = 0 ∧ Inv c (S.flushL st ks).2.1 (S.flushL st ks).2.2 r ∧
      (∀ k, CleanAt S k → CleanAt (S.flushL st ks).2.1 k) ∧ (∀ k ∈ ks, CleanAt (S.flushL st ks).2.1 k) ∧ ∀ k, ((S.flushL st ks).2.1.mem k).isSome = (S.mem k).isSome)
  | [], S, st, h => ⟨DStep.refl _, .inr ⟨rfl, h, fun _ hk => hk, fun k hk => (by cases hk), fun _ => rfl⟩⟩
  | k :: ks, S, st, h => by
    have skip : CleanAt S k → S.flushL st (k :: ks) = S.flushL st ks → Went r (k :: ks).length st (S.flushL st (k :: ks)).2.2 ∧ ((S.flushL st (k :: ks)).1 = 4 ∨ (S.flushL st (k :: ks)).1 = 0 ∧ Inv c (S.flushL st (k :: ks)).2.1 (S.flushL st (k :: ks)).2.2 r ∧
      (∀ j, CleanAt S j → CleanAt (S.flushL st (k :: ks)).2.1 j) ∧ (∀ j ∈ k :: ks, CleanAt (S.flushL st (k :: ks)).2.1 j) ∧ ∀ j, ((S.flushL st (k :: ks)).2.1.mem j).isSome = (S.mem j).isSome) := by
      intro hcl e
      obtain ⟨a, b⟩ := flush_law r c ks S st h
      rw [e]
      refine ⟨a.mono (fun _ hk => hk) (Nat.le_succ _), ?_⟩
      rcases b with b | ⟨b1, b2, b3, b4, b5⟩
      · exact .inl b
      · refine .inr ⟨b1, b2, b3, fun j hj => ?_, b5⟩
        rcases List.mem_cons.1 hj with rfl | hj
        · exact b3 _ hcl
        · exact b4 j hj
    cases hm : S.mem k with
    | none => exact skip (fun q hq => by rw [hm] at hq; cases hq) (by rw [StA.flushL, hm])
    | some p =>
      by_cases hd : p.dirty = true
      · have hw := h.m.memk k p hm
        have hf := h.m.dirty k p hm hd
        obtain ⟨e, st1, hput, hstep, hor, hrd, hoth⟩ := put_page (st := st) (k := k) (stamp := p.stamp) (load := p.load) h.m.n h.m.size h.m.down hw.k0 hw.k1 hw.load hw.s0 (by have := hw.s1; omega)
        have hout : S.out st k p = (e, st1) := by
          show st.put (S.first + k) (StA.leaf k p) = _
          rw [h.m.first]; exact hput
        have hwent : Went r 1 st st1 := hstep.mono (fun j hj => hj ▸ fresh_unsafe h hf) (Nat.le_refl _)
        rcases hor with ⟨he, hdn⟩ | he
        · have e1 : S.flushL st (k :: ks) = StA.flushL { S with mem := mset S.mem k { p with dirty := false } } st1 ks := by
            rw [StA.flushL, hm]; dsimp only; rw [if_pos hd, hout, if_pos he]
          have h1 := h.cleaned hm hstep.n hstep.size hdn hrd hoth
          have hms : ∀ j, mset S.mem k { p with dirty := false } j = if j = k then some { p with dirty := false } else S.mem j := fun _ => rfl
          obtain ⟨a, b⟩ := flush_law r c ks _ st1 h1
          rw [e1]
          refine ⟨(hwent.trans a).mono (fun _ hk => hk) (by rw [List.length_cons]; omega), ?_⟩
          rcases b with b | ⟨b1, b2, b3, b4, b5⟩
          · exact .inl b
          · refine .inr ⟨b1, b2, fun j hj => b3 j fun q hq => ?_, fun j hj => ?_, fun j => ?_⟩
            · have hq : mset S.mem k { p with dirty := false } j = some q := hq
              rw [hms] at hq
              by_cases hjk : j = k
              · rw [if_pos hjk] at hq; cases hq; rfl
              · rw [if_neg hjk] at hq; exact hj q hq
            · rcases List.mem_cons.1 hj with rfl | hj
              · refine b3 j fun q hq => ?_
                have hq : mset S.mem j { p with dirty := false } j = some q := hq
                rw [mset_same] at hq; cases hq; rfl
              · exact b4 j hj
            · rw [b5]
              show (mset S.mem k { p with dirty := false } j).isSome = _
              rw [hms]
              by_cases hjk : j = k
              · rw [if_pos hjk, hjk, hm]; rfl
              · rw [if_neg hjk]
        · have e1 : S.flushL st (k :: ks) = (e, S, st1) := by
            rw [StA.flushL, hm]; dsimp only; rw [if_pos hd, hout, if_neg (by rw [he]; exact (by decide : ¬ (4 : Nat) = 0))]
          rw [e1]
          exact ⟨hwent.mono (fun _ hk => hk) (by rw [List.length_cons]; omega), .inl he⟩
      · have hd' : p.dirty = false := by simpa using hd
        exact skip (fun q hq => by rw [hm] at hq; cases hq; exact hd') (by rw [StA.flushL, hm]; dsimp only; rw [if_neg hd])

/-- These pages are fast, and none of them is written over. -/
def Kept (st : DevA) (l : List PgR) : Prop := ∀ p ∈ l, readL (st.fast (12 + p.page)) = some (pgLeaf p.page p.stamp p.load) ∧ ∀ w ∈ st.loose, w.1 ≠ 12 + p.page
theorem Kept.step {A : Int → Prop} {c : Nat} {st st' : DevA} {l : List PgR} (h : Kept st l) (hs : DStep A c st st') (hA : ∀ p ∈ l, ¬ A p.page) : Kept st' l := fun p hp => by
  obtain ⟨a, b⟩ := h p hp
  obtain ⟨ws, e1, f1⟩ := hs.loose
  refine ⟨by rw [hs.fast]; exact a, fun w hw e => ?_⟩
  rw [e1] at hw
  rcases List.mem_append.1 hw with hw | hw
  · exact b w hw e
  · obtain ⟨k, hk, e2⟩ := f1 w hw
    have : k = p.page := by omega
    exact hA p hp (this ▸ hk)

theorem sync_law {c : Nat} {S : StA} {st : DevA} {r : RefS} (h : Inv c S st r) (hcl : ∀ k, CleanAt S k) :
    (st.sync.2.n = st.n ∧ st.sync.2.size = st.size ∧ st.sync.2.acts ≤ st.acts + 1) ∧ (st.sync.1 = 4 ∧ (∀ l, Kept st l → Kept st.sync.2 l) ∨ st.sync.1 = 0 ∧ Inv c S st.sync.2 r ∧ Kept st.sync.2 r.live ∧ ∀ l, Kept st l → Kept st.sync.2 l) := by
  unfold DevA.sync
  rw [if_neg (by rw [h.m.down]; decide)]
  by_cases hd : st.act.down = true
  · rw [if_pos hd]
    exact ⟨⟨rfl, rfl, Nat.le_refl _⟩, .inl ⟨rfl, fun l hl => hl⟩⟩
  · rw [if_neg hd]
    refine ⟨⟨rfl, rfl, Nat.le_refl _⟩, .inr ⟨rfl, ?_, ?_, ?_⟩⟩
    · have hrd : ∀ k, ({ st.act with fast := flush st.loose st.fast, loose := [] } : DevA).read k = st.read k := by
        intro k
        unfold DevA.read
        dsimp only
        rw [lastW, Option.getD_none, flush_last]
      exact { h with
        m := ⟨h.m.first, h.m.pages, h.m.room, h.m.n, h.m.size, by simpa using hd, fun k q hk hq => by rw [hrd]; exact h.m.clean k q hk hq, h.m.dirty, h.m.memk⟩
        cont := fun p hp => by
          have hc := h.cont p hp
          unfold Cont at hc ⊢
          rw [hrd]; exact hc }
    · intro p hp
      refine ⟨?_, fun w hw => by cases hw⟩
      show readL (flush st.loose st.fast (12 + p.page)) = _
      rw [flush_last]
      have hc := h.cont p hp
      cases hm : S.mem p.page with
      | none => exact (Cont.dev hm).1 hc
      | some q =>
        obtain ⟨a, b⟩ := (Cont.mem hm).1 hc
        have := h.m.clean _ q hm (hcl _ q hm)
        rw [a, b] at this
        exact this
    · intro l hl p hp
      obtain ⟨a, b⟩ := hl p hp
      refine ⟨?_, fun w hw => by cases hw⟩
      show readL (flush st.loose st.fast (12 + p.page)) = _
      rw [flush_last, lastW_none b]; exact a

theorem SetA.clrs {l : List Int} : ∀ {T : SetA}, (∀ k ∈ l, 0 ≤ k) → (l.foldl SetA.clr T).n = T.n ∧ (l.foldl SetA.clr T).hand = T.hand ∧ (l.foldl SetA.clr T).taken.length = T.taken.length ∧ ∀ i, (l.foldl SetA.clr T).has i = (T.has i && !decide ((i : Int) ∈ l)) := by
  induction l with
  | nil => exact fun _ => ⟨rfl, rfl, rfl, fun i => by simp⟩
  | cons a l ih =>
    intro T h
    obtain ⟨h1, h2, h3, h4⟩ := ih (T := T.clr a) fun k hk => h k (List.mem_cons_of_mem _ hk)
    rw [List.foldl_cons]
    have ha := h a List.mem_cons_self
    have hc : (T.clr a).n = T.n ∧ (T.clr a).hand = T.hand ∧ (T.clr a).taken.length = T.taken.length := by
      unfold SetA.clr; split
      · exact ⟨rfl, rfl, by simp [SetA.put]⟩
      · exact ⟨rfl, rfl, rfl⟩
    refine ⟨h1.trans hc.1, h2.trans hc.2.1, h3.trans hc.2.2, fun i => ?_⟩
    rw [h4, SetA.clr_has _ ha]
    by_cases e : (i : Int) = a
    · simp [e]
    · simp [e]
theorem SetA.ext_has {T U : SetA} (h1 : T.n = U.n) (h2 : T.hand = U.hand) (h3 : T.taken.length = U.taken.length) (h4 : ∀ i, T.has i = U.has i) : T = U := by
  obtain ⟨n, t, a⟩ := T
  obtain ⟨m, u, b⟩ := U
  dsimp only at h1 h2 h3
  subst h1; subst h2
  congr 1
  refine List.ext_getElem h3 fun i hi hj => ?_
  have := h4 i
  unfold SetA.has at this
  dsimp only at this
  rw [List.getElem?_eq_getElem hi, List.getElem?_eq_getElem hj] at this
  simpa using this

theorem commit_law {c : Nat} {S : StA} {st : DevA} {r : RefS} (h : Inv c S st r) (hcl : ∀ k, CleanAt S k) (hg : r.gen < 1099511627776) :
    Inv c S.commit st r.commit ∧ ∀ k, Safe r k → k ∉ r.dead → Safe r.commit k := by
  obtain ⟨t1, t2, t3, t4⟩ := SetA.clrs (T := r.T) fun k hk => (h.deT k hk).1
  have hde : ∀ i : Nat, S.dead i = decide ((i : Int) ∈ r.dead) := by
    intro i
    by_cases hi : (i : Int) ∈ r.dead
    · rw [decide_eq_true hi, (h.de _).2 hi]
    · rw [decide_eq_false hi]
      cases hs : S.dead i with
      | false => rfl
      | true => exact absurd ((h.de _).1 hs) hi
  have hT : S.commit.taken = r.dead.foldl SetA.clr r.T := by
    refine SetA.ext_has (by rw [t1, ← h.T]; rfl) (by rw [t2, ← h.T]; rfl) (by rw [t3, ← h.T]; show (List.mapIdx _ _).length = _; rw [List.length_mapIdx]) fun i => ?_
    rw [t4, ← h.T]
    show ((List.mapIdx (fun (i : Nat) b => b && !S.dead i) S.taken.taken)[i]?).getD false = _
    rw [List.getElem?_mapIdx]
    unfold SetA.has
    cases S.taken.taken[i]? with
    | none => rfl
    | some b => show (b && !S.dead i) = (b && _); rw [hde]
  have hmem : ∀ k q, S.commit.mem k = some q → k ∉ r.dead ∧ S.mem k = some q := by
    intro k q hk
    have hk : (if S.dead k = true then none else S.mem k) = some q := hk
    split at hk
    · cases hk
    · rename_i hn
      exact ⟨fun hh => hn ((h.de k).2 hh), hk⟩
  have hkeep : ∀ k : Int, 0 ≤ k → r.T.has k.toNat = true → k ∉ r.dead → (r.dead.foldl SetA.clr r.T).has k.toNat = true := by
    intro k h0 hh hd
    rw [t4, hh, Int.toNat_of_nonneg h0, decide_eq_false hd]; rfl
  refine ⟨{ m := ⟨h.m.first, h.m.pages, h.m.room, h.m.n, h.m.size, h.m.down, fun k q hk hd => h.m.clean k q (hmem k q hk).2 hd, fun k q hk hd => ?_, fun k q hk => h.m.memk k q (hmem k q hk).2⟩
            T := hT, B := ⟨by show (List.foldl SetA.clr r.T r.dead).taken.length = (List.foldl SetA.clr r.T r.dead).n; rw [t3, t1]; exact h.B.tl, by show 1 ≤ (List.foldl SetA.clr r.T r.dead).n; rw [t1]; exact h.B.pos, by show (List.foldl SetA.clr r.T r.dead).n ≤ _; rw [t1]; exact h.B.le, by show (List.foldl SetA.clr r.T r.dead).hand < (List.foldl SetA.clr r.T r.dead).n; rw [t1, t2]; exact h.B.hand⟩
            tn := t1.trans h.tn, gen := by show S.gen + 1 = r.gen + 1; rw [h.gen]
            g1 := by show 1 ≤ r.gen + 1; have := h.g1; omega
            g2 := by show r.gen + 1 ≤ _; omega
            fr := fun k => ⟨fun hk => (by cases hk), fun hk => (by cases hk)⟩
            dy := fun k => ⟨fun hk => (by cases hk), fun hk => (by cases hk)⟩
            de := h.dy
            sep1 := fun k hk => by cases hk
            sep2 := fun k hk => by cases hk
            dyT := fun k hk => by cases hk
            deT := fun k hk => ?_
            frL := fun k hk => by cases hk
            live := fun p hp => ?_, nodup := h.nodup, cont := fun p hp => ?_, memT := fun k hk => ?_
            l1 := h.l1, l2 := Nat.zero_le _, l3 := Nat.zero_le _, l4 := h.l3 }, fun k hk hd => ⟨hk.k0, hkeep k hk.k0 hk.has hd, fun hf => by cases hf⟩⟩
  · have := hcl k q (hmem k q hk).2
    rw [this] at hd; cases hd
  · obtain ⟨a, b, d⟩ := h.dyT k hk
    exact ⟨a, b, hkeep k a d (h.sep2 k hk)⟩
  · have hv := h.live p hp
    exact ⟨hv.p0, hv.p1, hv.load, hv.s0, by show p.stamp ≤ r.gen + 1; have := hv.s1; omega, hkeep _ hv.p0 hv.has hv.de, (fun hf => by cases hf), hv.dy⟩
  · have hv := h.live p hp
    have hc := h.cont p hp
    unfold Cont at hc ⊢
    have : S.commit.mem p.page = S.mem p.page := by
      show (if S.dead p.page = true then none else S.mem p.page) = _
      rw [if_neg (fun hh => hv.de ((h.de _).1 hh))]
    rw [this]; exact hc
  · obtain ⟨q, hq⟩ := Option.isSome_iff_exists.1 hk
    obtain ⟨a, b⟩ := hmem k q hq
    exact hkeep k (h.m.memk k q b).k0 (h.memT k (by rw [b]; rfl)) a

end Go.Proofs.YtealmijbkebipaaGreatDoor

namespace Go.Proofs.YtealmijbkebipaaGreatDoor
open Go

def smallP : PlanA := ⟨60, 96, 3, 2, 4, 2, 8, 0⟩
theorem smallP_ok : smallP.Ok := by constructor <;> decide

structure LsOK (l : List PgR) : Prop where
  pg : ∀ p ∈ l, 0 ≤ p.page ∧ p.page < 48 ∧ p.load.length ≤ 77 ∧ 0 ≤ p.stamp ∧ p.stamp ≤ 2199023255552
  nodup : (l.map PgR.page).Nodup
theorem LsOK.nil : LsOK [] := ⟨fun p h => (by cases h), List.nodup_nil⟩
theorem Inv.ls {c : Nat} {S : StA} {st : DevA} {r : RefS} (h : Inv c S st r) : LsOK r.live :=
  ⟨fun p hp => by
    have hv := h.live p hp
    have := h.g2
    have := hv.s1
    exact ⟨hv.p0, hv.p1, hv.load, hv.s0, by omega⟩, h.nodup⟩

/-- So many of them are marked and read. -/
structure ThI (l : List PgR) (i : Nat) (S : StA) (st : DevA) : Prop where
  m : MInv S st
  cl : ∀ k, CleanAt S k
  B : SetB S.taken
  tn : S.taken.n = 48
  has : ∀ j : Nat, S.taken.has j = true ↔ ∃ p ∈ l.take i, p.page = (j : Int)
  fr : S.fresh = snone
  dy : S.dying = snone
  de : S.dead = snone

theorem ThI.start {l : List PgR} {st : DevA} {gen : Int} (hn : st.n = 60) (hs : st.size = 96) (hd : st.down = false) : ThI l 0 (StA.new smallP gen) st where
  m := ⟨rfl, rfl, rfl, hn, hs, hd, fun k q hk => (by cases hk), fun k q hk => (by cases hk), fun k q hk => (by cases hk)⟩
  cl := fun k q hk => by cases hk
  B := by show SetB (SetA.new 48); exact ⟨by decide, by decide, by decide, by decide⟩
  tn := rfl
  fr := rfl
  dy := rfl
  de := rfl
  has := fun j => by
    have : (StA.new smallP gen).taken.has j = false := by
      show ((List.replicate 48 false)[j]?).getD false = false
      rw [List.getElem?_replicate]; split <;> rfl
    rw [this]; simp

theorem keep_clean {S S' : StA} {st st' : DevA} {k : Int} {q : PageA} {e : Nat} (h : ∀ k, CleanAt S k) (hq : q.dirty = false) (hk : KeepR S st k q e S' st') : e = 0 ∧ st' = st ∧ ∀ k, CleanAt S' k := by
  cases hk with
  | @mk res mem' hput =>
    cases hput with
    | stay =>
      refine ⟨rfl, rfl, fun j w hw => ?_⟩
      have hw : mset S.mem k q j = some w := hw
      by_cases hj : j = k
      · rw [hj, mset_same] at hw; cases hw; exact hq
      · rw [mset_ne _ _ hj] at hw; exact h j w hw
    | @goes g w hm hmg =>
      have hg1 : S.gone1 st (some (g, w)) = (0, st) := by
        unfold StA.gone1
        dsimp only
        rw [if_neg (by rw [h g w hmg]; decide)]
      rw [hg1]
      refine ⟨rfl, rfl, fun j v hv => ?_⟩
      have hv : mset (mout S.mem g) k q j = some v := hv
      by_cases hj : j = k
      · rw [hj, mset_same] at hv; cases hv; exact hq
      · rw [mset_ne _ _ hj] at hv
        by_cases hjg : j = g
        · rw [hjg, mout_same] at hv; cases hv
        · rw [mout_ne _ hjg] at hv; exact h j v hv

theorem there_step {l : List PgR} {i : Nat} {S : StA} {st : DevA} {p : PgR} (h : ThI l i S st) (hl : LsOK l) (hp : l[i]? = some p) (hk : Kept st l) (hlo : st.loose = []) :
    S.markE ⟨p.page, p.stamp⟩ = 0 ∧ ∀ load e S' st', ReadR { S with taken := S.taken.put p.page.toNat true } st ⟨p.page, p.stamp⟩ load e S' st' → e = 0 ∧ load = p.load ∧ st' = st ∧ ThI l (i + 1) S' st := by
  have hpl : p ∈ l := List.mem_of_getElem? hp
  obtain ⟨p0, p1, p2, p3, p4⟩ := hl.pg p hpl
  have hil : i < l.length := (List.getElem?_eq_some_iff.1 hp).1
  have htk : l.take (i + 1) = l.take i ++ [p] := by
    rw [List.take_succ_eq_append_getElem hil, (List.getElem?_eq_some_iff.1 hp).2]
  have hbk : ((p.page.toNat : Nat) : Int) = p.page := Int.toNat_of_nonneg p0
  have hin := inE_zero h.m p0 p1
  have hread : readL (st.read (12 + p.page)) = some (pgLeaf p.page p.stamp p.load) := by
    unfold DevA.read
    rw [hlo]; exact (hk p hpl).1
  have hnot : S.taken.has p.page.toNat = false := by
    cases hh : S.taken.has p.page.toNat with
    | false => rfl
    | true =>
      obtain ⟨q, hq, e⟩ := (h.has _).1 hh
      exfalso
      have hn := hl.nodup
      rw [← List.take_append_drop (i + 1) l, htk, List.map_append, List.nodup_append] at hn
      have hn2 := hn.1
      rw [List.map_append, List.nodup_append] at hn2
      exact hn2.2.2 q.page (List.mem_map.2 ⟨q, hq, rfl⟩) p.page (by simp) (e.trans hbk)
  have hfree : S.taken.isFree p.page = true := by
    unfold SetA.isFree
    rw [hnot, h.tn]; simp; omega
  refine ⟨?_, ?_⟩
  · unfold StA.markE
    dsimp only
    rw [if_neg (fun hh => hh hin), if_pos hfree]
  · intro load e S' st' hR
    have hm1 : MInv { S with taken := S.taken.put p.page.toNat true } st := ⟨h.m.first, h.m.pages, h.m.room, h.m.n, h.m.size, h.m.down, h.m.clean, h.m.dirty, h.m.memk⟩
    have hcl1 : ∀ k, CleanAt { S with taken := S.taken.put p.page.toNat true } k := h.cl
    have hB1 : SetB (S.taken.put p.page.toNat true) := SetA.put_B h.B _ _
    have hhas1 : ∀ j : Nat, (S.taken.put p.page.toNat true).has j = true ↔ ∃ q ∈ l.take (i + 1), q.page = (j : Int) := by
      intro j
      rw [SetA.has_put, htk]
      have hlt : p.page.toNat < S.taken.taken.length := by rw [h.B.tl, h.tn]; omega
      by_cases hj : j = p.page.toNat
      · rw [if_pos ⟨hj, hlt⟩]
        exact ⟨fun _ => ⟨p, by simp, by rw [hj, hbk]⟩, fun _ => rfl⟩
      · rw [if_neg (fun hh => hj hh.1), h.has]
        constructor
        · rintro ⟨q, hq, e⟩; exact ⟨q, List.mem_append_left _ hq, e⟩
        · rintro ⟨q, hq, e⟩
          rcases List.mem_append.1 hq with hq | hq
          · exact ⟨q, hq, e⟩
          · simp at hq; subst hq; omega
    have hget : S.mem p.page = none → st.get (S.first + p.page) 2 p.page = (some (pgLeaf p.page p.stamp p.load), 0) := fun hm => by
      rw [h.m.first]
      exact get_eq h.m.n h.m.down p0 p1 hread
    have hkeep : ∀ {e : Nat} {x : LeafA}, S.mem p.page = none → st.get (S.first + p.page) 2 p.page = (some x, 0) → KeepR { S with taken := S.taken.put p.page.toNat true } st p.page ⟨x.stamp, x.load, false⟩ e S' st' →
        x = pgLeaf p.page p.stamp p.load ∧ e = 0 ∧ st' = st ∧ ThI l (i + 1) S' st := by
      intro e x hm hg hkp
      rw [hget hm] at hg
      cases hg
      obtain ⟨he, hst, hcl'⟩ := keep_clean hcl1 rfl hkp
      obtain ⟨_, hor⟩ := keep_law hm1 (q := ⟨p.stamp, p.load, false⟩) ⟨p0, p1, p2, p3, p4⟩ (fun hd => by cases hd) (fun _ => hread) hkp
      subst hst; subst he
      refine ⟨rfl, rfl, rfl, ?_⟩
      rcases hor with he | ⟨_, hki⟩
      · cases he
      · have e1 : S'.taken = S.taken.put p.page.toNat true := (congrArg StA.taken hki.same).trans rfl
        exact ⟨hki.inv, hcl', by rw [e1]; exact hB1, by rw [e1]; exact h.tn, fun j => by rw [e1]; exact hhas1 j, ((congrArg StA.fresh hki.same).trans rfl).trans h.fr, ((congrArg StA.dying hki.same).trans rfl).trans h.dy, ((congrArg StA.dead hki.same).trans rfl).trans h.de⟩
    cases hR with
    | range hne => exact absurd hin hne
    | @mem q _ hq =>
      have hq : S.mem p.page = some q := hq
      have hc := h.m.clean _ q hq (h.cl _ q hq)
      rw [hread] at hc
      have hst : p.stamp = q.stamp := by injection hc with hc; injection hc
      have hld : p.load = q.load := by injection hc with hc; injection hc
      dsimp only
      rw [if_pos hst.symm, if_pos hst.symm]
      exact ⟨rfl, hld.symm, rfl, ⟨hm1, hcl1, hB1, h.tn, hhas1, h.fr, h.dy, h.de⟩⟩
    | bad _ hm hne => exact absurd (by rw [hget hm]) hne
    | out _ hm hg hkp hne =>
      obtain ⟨_, he, _⟩ := hkeep hm hg hkp
      exact absurd he hne
    | dev _ hm hg hkp =>
      obtain ⟨hx, _, h3, h4⟩ := hkeep hm hg hkp
      subst hx
      rw [if_pos (show (pgLeaf p.page p.stamp p.load).stamp = p.stamp from rfl), if_pos (show (pgLeaf p.page p.stamp p.load).stamp = p.stamp from rfl)]
      exact ⟨rfl, rfl, h3, h4⟩

theorem there_end {l : List PgR} {S : StA} {st : DevA} (h : ThI l l.length S st) (hl : LsOK l) : S.taken.list.length = l.length := by
  have hn1 : (S.taken.list).Nodup := List.Nodup.sublist List.filter_sublist List.nodup_range
  have hnd : (l.map fun p => p.page.toNat).Nodup := by
    have hn := hl.nodup
    have hpg := hl.pg
    clear h hl
    induction l with
    | nil => exact List.nodup_nil
    | cons a l ih =>
      rw [List.map_cons, List.nodup_cons] at hn ⊢
      refine ⟨fun hm => ?_, ih hn.2 fun p hp => hpg p (List.mem_cons_of_mem _ hp)⟩
      obtain ⟨q, hq, e⟩ := List.mem_map.1 hm
      refine hn.1 (List.mem_map.2 ⟨q, hq, ?_⟩)
      have h1 := (hpg a List.mem_cons_self).1
      have h2 := (hpg q (List.mem_cons_of_mem _ hq)).1
      omega
  have := ((List.perm_ext_iff_of_nodup hn1 hnd).2 fun j => ?_).length_eq
  · rw [List.length_map] at this; exact this
  · unfold SetA.list SetA.upto
    rw [List.mem_filter, List.mem_range, h.has, List.take_length, List.mem_map, h.tn]
    constructor
    · rintro ⟨_, p, hp, e⟩; exact ⟨p, hp, by omega⟩
    · rintro ⟨p, hp, e⟩
      have := hl.pg p hp
      exact ⟨by omega, p, hp, by omega⟩

/-- The example. -/
def awk0 : StA := StA.new smallP 0
def awk1 : StA := { awk0 with taken := awk0.taken.took, fresh := sset awk0.fresh 0, mem := mset awk0.mem 0 ⟨1, [97], true⟩ }
def awk2 : StA := { awk1 with mem := mset awk1.mem 0 ⟨1, [98], true⟩ }
def awkD : DevA := DevA.new 60 96
structure AwF (S : StA) : Prop where
  pages : S.pages = 48
  mem : S.mem 1 = some ⟨2, [99], true⟩
  fr : ∀ k, S.fresh k = true → k = 1
  dy : ∀ k, S.dying k = decide (k = 0)
  de : ∀ k, S.dead k = false

theorem awake_law1 {a : RefA} {e : Nat} {S : StA} {st : DevA} (h : NewR awk0 awkD [97] a e S st) : e = 0 ∧ a = ⟨0, 1⟩ ∧ S = awk1 ∧ st = awkD := by
  have hpk : awk0.taken.pick = some 0 := by decide
  cases h with
  | long hl => exact absurd hl (by decide)
  | full _ hp => rw [hpk] at hp; cases hp
  | made _ hp hK =>
    rw [hpk] at hp; cases hp
    cases hK with
    | mk hput =>
      cases hput with
      | stay => exact ⟨rfl, rfl, rfl, rfl⟩
      | goes _ hg => cases hg

theorem awake_law2 {a : RefA} {e : Nat} {S : StA} {st : DevA} (h : WriteR awk1 awkD ⟨0, 1⟩ [98] a e S st) : e = 0 ∧ a = ⟨0, 1⟩ ∧ S = awk2 ∧ st = awkD := by
  cases h with
  | long hl => exact absurd hl (by decide)
  | range _ hn => exact absurd (by decide) hn
  | none _ _ hn => exact absurd hn (by decide)
  | fresh _ _ _ _ hK =>
    cases hK with
    | mk hput =>
      cases hput with
      | stay => exact ⟨rfl, rfl, rfl, rfl⟩
      | goes hm hg => exact absurd hm (by show ¬ (some _ = none); exact fun h => by cases h)
  | new _ _ _ hf => exact absurd hf (by decide)

theorem awake_law3 {a : RefA} {e : Nat} {S : StA} {st : DevA} (h : WriteR awk2.commit awkD ⟨0, 1⟩ [99] a e S st) : e = 0 ∧ a = ⟨1, 2⟩ ∧ AwF S ∧ DevB st := by
  have hpk : awk2.commit.taken.pick = some 1 := by decide
  cases h with
  | long hl => exact absurd hl (by decide)
  | range _ hn => exact absurd (by decide) hn
  | none _ _ hn => exact absurd hn (by decide)
  | fresh _ _ _ hf => exact absurd hf (by decide)
  | new _ _ _ _ hN =>
    cases hN with
    | long hl => exact absurd hl (by decide)
    | full _ hp => rw [hpk] at hp; cases hp
    | made _ hp hK =>
      rw [hpk] at hp; cases hp
      have fin : ∀ m : MemA, AwF (StA.goneS { awk2.commit with taken := awk2.commit.taken.took, fresh := sset awk2.commit.fresh 1, mem := mset m 1 ⟨2, [99], true⟩ } 0) := by
        intro m
        unfold StA.goneS
        rw [if_neg (by show ¬ (sset snone 1 0 = true); decide)]
        refine ⟨rfl, by show mset m 1 (⟨2, [99], true⟩ : PageA) 1 = _; exact mset_same _ _ _, fun k hk => ?_, fun k => ?_, fun k => rfl⟩
        · have hk : (if k = 1 then true else false) = true := hk
          split at hk
          · assumption
          · cases hk
        · show (if k = 0 then true else false) = _
          by_cases h0 : k = 0
          · rw [if_pos h0, decide_eq_true h0]
          · rw [if_neg h0, decide_eq_false h0]
      cases hK with
      | mk hput =>
        cases hput with
        | stay => exact ⟨rfl, rfl, fin _, ⟨by decide, by decide, by decide⟩⟩
        | @goes g w hm hg =>
          have hg0 : g = 0 ∧ w = ⟨1, [98], true⟩ := by
            have hg : (if g = 0 then some (⟨1, [98], true⟩ : PageA) else if g = 0 then some ⟨1, [97], true⟩ else none) = some w := hg
            by_cases h0 : g = 0
            · rw [if_pos h0] at hg; exact ⟨h0, (Option.some.inj hg).symm⟩
            · rw [if_neg h0, if_neg h0] at hg; cases hg
          obtain ⟨rfl, rfl⟩ := hg0
          obtain ⟨e, st1, hput, hstep, hor, _, _⟩ := put_page (st := awkD) (k := 0) (stamp := 1) (load := [98]) rfl rfl rfl (by decide) (by decide) (by decide) (by decide) (by decide)
          have hg1 : StA.gone1 { awk2.commit with taken := awk2.commit.taken.took, fresh := sset awk2.commit.fresh 1 } awkD (some (0, ⟨1, [98], true⟩)) = (e, st1) := hput
          have he : e = 0 := by
            have h1 : (awkD.put (12 + 0) (pgLeaf 0 1 [98])).1 = e := by rw [hput]
            rw [← h1]
            have hr := pg_right (k := 0) (stamp := 1) (load := [98]) (by decide) (by decide) (by decide) (by decide)
            have hlen : ((pgLeaf 0 1 [98]).bytes 96).length = 96 := LeafA.bytes_length (LeafA.right_zero hr).2 (by decide)
            unfold DevA.put
            rw [if_pos (show (pgLeaf 0 1 [98]).right awkD.size = 0 from hr)]
            unfold DevA.write
            rw [if_pos (by decide), if_pos (show ((pgLeaf 0 1 [98]).bytes awkD.size).length = awkD.size from hlen)]
            rfl
          have hD : DevB st1 := ⟨by rw [hstep.size]; decide, by rw [hstep.size]; decide, by have := hstep.acts; have : awkD.acts = 0 := rfl; omega⟩
          rw [show ((1 : Nat) : Int) = 1 from rfl] at *
          rw [hg1]
          dsimp only
          rw [he, if_pos rfl]
          exact ⟨rfl, rfl, fin _, hD⟩

theorem awake_law4 {x : List UInt8} {e : Nat} {S S' : StA} {st st' : DevA} (h : AwF S) (hR : ReadR S st ⟨1, 2⟩ x e S' st') : e = 0 ∧ x = [99] ∧ S' = S ∧ st' = st := by
  have hm := h.mem
  cases hR with
  | range hn =>
    refine absurd ?_ hn
    unfold StA.inE; rw [h.pages, if_neg (by dsimp only; omega)]
  | mem _ hq => rw [hm] at hq; cases hq; exact ⟨rfl, rfl, rfl, rfl⟩
  | bad _ hn => rw [hm] at hn; cases hn
  | out _ hn => rw [hm] at hn; cases hn
  | dev _ hn => rw [hm] at hn; cases hn

end Go.Proofs.YtealmijbkebipaaGreatDoor

namespace Go.Proofs.YtealmijbkebipaaGreatDoor
open Go

def intB (P : Program) (t : TypeId) : Bool := match P.underlying t with
  | some (.int .i64) => true
  | _ => false
def pairB (P : Program) (t : TypeId) : Bool :=
  (match P.underlying t with
  | some (.struct fs) => match fs.toList with
    | [f, g] => f.name != "_" && g.name != "_" && f.offset == 0 && g.offset == 1 && scalarB P f.type && scalarB P g.type && intB P f.type && intB P g.type
    | _ => false
  | _ => false) && !P.stoodInHeld t && !P.eqGuardType P.depth t
theorem intB_und {P : Program} {t : TypeId} (h : intB P t = true) : TyUnd P t (.int .i64) := by
  unfold intB at h
  split at h
  · assumption
  · cases h

theorem v_eqW2 {P : Program} {C : Cx} {e : Env} {L : List HP} {ty t t' : TypeId} {x y : Operand} {u v : Value} {r : Bool} (hx : ev e x = some u) (hy : ev e y = some v) (hg : ∀ w, (eqGuard .eql t x y u v).run P w = .ok () w) (hb : binOp .eql t u v = (do pure (.bool (← Op.equal t u v))))
    (h : ∀ d w, (Op.equalIn (d + 2) t u v).run P w = .ok r w) : OpV P C (.binOp .eql t x y t') ty e L (.bool r) := fun w tm ds pos after guard dst s a' => by
  have h1 : (Op.equal t u v).run P w = .ok r w := h 9998 w
  simp only [execOp, a'.ev hx, a'.ev hy, hb, bind_assoc, pure_bind, Sem.run_bind, hg, Result.andThen_ok, h1, Sem.run_pure]
theorem v_eqPair {P : Program} {C : Cx} {e : Env} {L : List HP} {ty t t' : TypeId} {x y : Operand} {a1 a2 b1 b2 : Int} (h : pairB P t = true) (hx : ev e x = some (.agg (List.toArray [.int .i64 a1, .int .i64 a2]))) (hy : ev e y = some (.agg (List.toArray [.int .i64 b1, .int .i64 b2]))) :
    OpV P C (.binOp .eql t x y t') ty e L (.bool (decide (a1 = b1) && decide (a2 = b2))) := by
  unfold pairB at h
  rw [Bool.and_eq_true, Bool.and_eq_true] at h
  obtain ⟨⟨h, hs⟩, hg⟩ := h
  split at h
  · rename_i fs hu
    split at h
    · rename_i f g hfg
      simp only [Bool.and_eq_true, bne_iff_ne, beq_iff_eq] at h
      obtain ⟨⟨⟨⟨⟨⟨⟨n1, n2⟩, o1⟩, o2⟩, s1⟩, s2⟩, i1⟩, i2⟩ := h
      have hfs : fs = #[f, g] := by rw [← hfg]
      subst hfs
      have S1 := TyScalar.of s1
      have S2 := TyScalar.of s2
      have I1 := intB_und i1
      have I2 := intB_und i2
      have hs' : P.stoodInHeld t = false := by simpa using hs
      have hg' : P.eqGuardType P.depth t = false := by simpa using hg
      refine v_eqW2 hx hy (fun w => ?_) rfl fun d w => ?_
      · simp [eqGuard, hg']
      · have q1 : ∀ (a b : Int), (Op.equalIn (d + 1) f.type (.int .i64 a) (.int .i64 b)).run P w = .ok (a == b) w := fun a b => by simp [Op.equalIn, I1.run]
        have q2 : ∀ (a b : Int), (Op.equalIn (d + 1) g.type (.int .i64 a) (.int .i64 b)).run P w = .ok (a == b) w := fun a b => by simp [Op.equalIn, I2.run]
        have p1 : ∀ (a b : Int), (part f.type #[.int .i64 a, .int .i64 b] f.offset).run P w = .ok (.int .i64 a) w := fun a b => by simp [part, S1.notAgg.2, o1]
        have p2 : ∀ (a b : Int), (part g.type #[.int .i64 a, .int .i64 b] g.offset).run P w = .ok (.int .i64 b) w := fun a b => by simp [part, S2.notAgg.2, o2]
        have hu2 : TyUnd P t (.struct #[f, g]) := hu
        rw [Op.equalIn]
        simp only [Sem.run_bind, hu2.run, Result.andThen_ok, run_program, hs', Bool.false_eq_true, if_false]
        by_cases e1 : a1 = b1
        · by_cases e2 : a2 = b2
          · simp [n1, n2, p1, p2, q1, q2, e1, e2]
          · simp [n1, n2, p1, p2, q1, q2, e1, e2]
        · simp [n1, p1, q1, e1]
    · cases h
  · cases h

/-- Bytes written out, told that they may be a text's. -/
theorem w_convB {P : Program} {C : Cx} {e : Env} {L M : List HP} {ty : TypeId} {pos : String} {after : Array Edge} {guard : Option (Nat × Bool)} {dst : Option Tmp} {K : Value → List HP → Prop} {t el b : Nat} {x : Operand} {bs : List UInt8} {vs : List Value} {T : TypeId}
    (hu : TyUnd P t (.slice el)) (he : TyUnd P el (.int .u8)) (hx : ev e x = some (.slice (some ⟨b, 0, none⟩) bs.length bs.length)) (hvs : vs = u8s bs) (ht : Take (blk b vs T) L M)
    (h : K (SV.v ⟨some ⟨b, 0, none⟩, bs.length, bs.length⟩) (pe (bsl ⟨some ⟨b, 0, none⟩, bs.length, bs.length⟩ bs) :: M)) : OpW P C ⟨dst, .convert t t x, ty, pos, after, guard⟩ e L K := by
  subst hvs
  intro w tm ds s a'
  have s' := ht.sat s
  have hb := s'.own_get
  have hlen : (u8s bs).length = bs.length := u8s_length bs
  have hshape : w.shape? b = some (T, bs.length) := by simp only [World.shape?, hb, List.size_toArray, hlen]
  have hget : (w.freeze ⟨b, bs.length, none⟩ 1).heap[b]? = some (.cells (u8s bs).toArray T (bs.length, bs.length + 1)) := by
    unfold World.freeze
    rw [if_neg (by decide)]
    dsimp only
    rw [Array.getElem?_modify, if_pos rfl, hb]; rfl
  have hoth : ∀ c, c ≠ b → (w.freeze ⟨b, bs.length, none⟩ 1).heap[c]? = w.heap[c]? := by
    intro c hc
    unfold World.freeze
    rw [if_neg (by decide)]
    dsimp only
    rw [Array.getElem?_modify, if_neg (Ne.symm hc)]
  have e1 : (w.freeze ⟨b, bs.length, none⟩ 1).os = w.os ∧ (w.freeze ⟨b, bs.length, none⟩ 1).output = w.output ∧ (w.freeze ⟨b, bs.length, none⟩ 1).tape = w.tape := by
    unfold World.freeze
    rw [if_neg (by decide)]; exact ⟨rfl, rfl, rfl⟩
  have s1 := (s'.own_set e1.1 e1.2.1 e1.2.2 hget hoth).freeze
  have hrun : (execOp (Act.eval ⟨tm, ds⟩) ⟨dst, .convert t t x, ty, pos, after, guard⟩).run P w = .ok (.value (.slice (some ⟨b, 0, none⟩) bs.length bs.length)) (w.freeze ⟨b, bs.length, none⟩ 1) := by
    simp only [execOp, a'.ev hx, convert, bind_assoc, Sem.run_bind, hu.run, he.run, Result.andThen_ok, markStringish, run_shape, hshape, beq_self_eq_true]
    simp
  refine SemC.value hrun ⟨_, ?_, h⟩
  exact (roSl_of_blk (by simp) (Nat.le_refl _) (by rw [List.drop_zero, Nat.mul_one]; exact List.take_of_length_le (by rw [hlen]; exact Nat.le_refl _)) (by simp)).sat s1

/-- An operation behind one that was passed over. -/
theorem unwanted_of {e : Env} {all : Array Oper} {tm : Array Value} {n j t : Nat} {want : Bool} {o : Oper} (hj : (all[j]?).bind (·.dst) = some t) (a' : Agree n e tm) (ht : lk e t = some undef) (hg : o.guard = some (j, want)) :
    Region.wanted o (yielded all tm) = false := by
  have h1 := a'.get t _ ht
  simp [Region.wanted, hg, yielded, hj, h1, undef]
section
variable {P : Program} {C : Cx} {ds : List Deferred} {all : Array Oper} {i d : Nat} {os : List Oper} {k : List Item} {e : Env} {L : List HP} {W : Wat} {n pend : Nat}
theorem wo_gU {j t : Nat} {want : Bool} {op : Op} {ty : TypeId} {pos : String} {after : Array Edge} (h : Wo P C ds all (i + 1) os k ((d, undef) :: e) L) (hj : (all[j]?).bind (·.dst) = some t := by rfl) (ht : lk e t = some undef := by rfl) (hd : Nat.blt d C.n = true := by rfl) :
    Wo P C ds all i (⟨some d, op, ty, pos, after, some (j, want)⟩ :: os) k e L := by
  intro hdr w tm s a'
  obtain ⟨h1, h2⟩ := drop_head hdr
  rw [show List.range' i (List.length (_ :: os)) = i :: List.range' (i + 1) os.length from by simp [List.range'_succ]]
  refine Run.op_skip (o := ⟨some d, op, ty, pos, after, some (j, want)⟩) (by simpa using h1) (unwanted_of hj a' ht rfl) ?_
  exact h h2 w _ s (a'.put hd undef)
theorem wd_gU {op : Op} {ty : TypeId} {pos : String} {after : Array Edge} {j t : Nat} {want : Bool} (i : Nat) (hi : all[i]? = some ⟨some d, op, ty, pos, after, some (j, want)⟩) (hj : (all[j]?).bind (·.dst) = some t) (ht : lk e t = some undef)
    (h : Wd P C ds all W n (pend ^^^ 2 ^ i) k ((d, undef) :: e) L)
    (hr : readyM all pend i = true := by kernel_rfl) (hf : freeB all pend i ⟨some d, op, ty, pos, after, some (j, want)⟩ false = true := by kernel_rfl) (hd : Nat.blt d C.n = true := by rfl) (hiq : Nat.beq i W.q = false := by rfl) : Wd P C ds all W (n + 1) pend k e L := by
  intro hs hc w tm s a' hW
  refine AnyP.first (S := fun w => Sat C.G w []) hi (noSelB_sel hs).1 (Wat.back hiq) n pend tm w hc hr (fun j' oj hoj hj' hne hna => ?_) s.nil (fun w' hw' => .inr ⟨unwanted_of hj a' ht rfl, rfl⟩) ?_
  · exact ⟨(freeB_spec hf j' oj hoj hj' hne hna).1, .inr fun _ _ _ h => h.1⟩
  · exact h hs (hc.put hr) w _ s (a'.put hd undef) (Wat.fwd (readyM_spec hr).1 hW)
theorem wd_lgU {op : Op} {ty : TypeId} {pos : String} {after : Array Edge} {j t : Nat} {want : Bool} (i : Nat) (hi : all[i]? = some ⟨some d, op, ty, pos, after, some (j, want)⟩) (hj : (all[j]?).bind (·.dst) = some t) (ht : lk e t = some undef)
    (h : Wd P C ds all W n (pend ^^^ 2 ^ i) k ((d, undef) :: e) L)
    (hr : readyM all pend i = true := by kernel_rfl) (hal : aloneB all pend i = true := by kernel_rfl) (hcalm : calmOp op = false := by rfl) (hd : Nat.blt d C.n = true := by rfl) : Wd P C ds all W (n + 1) pend k e L := by
  intro hs hc w tm s a' hW
  refine ⟨⟨s.nil, hW⟩, (fun h => by rw [h i] at hr; cases hr), fun q hq => ?_⟩
  have h1 := List.all_eq_true.1 hal q (List.mem_range.2 (ready_lt hq))
  rw [hq] at h1
  obtain rfl : q = i := by simpa [Nat.beq_eq_true_eq] using h1
  unfold stepC
  simp only [hi, hcalm, Bool.false_eq_true, if_false]
  rw [if_neg (by rw [unwanted_of hj a' ht rfl]; decide)]
  exact h hs (hc.put hr) w _ s (a'.put hd undef) (Wat.fwd (readyM_spec hr).1 hW)
end
end Go.Proofs.YtealmijbkebipaaGreatDoor
