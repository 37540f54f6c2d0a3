/- A range over a function that comes to no round; what is left of it when the function ends. -/
import Derived.Test.YtinijohmcofhmaaGreatDoorLbSim3
import Derived.RangeFuncLeaves
namespace Lb
open Go

section
variable {P : Program} {w : World} {K : Kn} {J : Jn} {hp hp' : List Ob} {lo : Nat} {a : Act} {Q : Exit → Act → World → Prop}

/-- the mark that a range over a function leaves -/
def mk (r : Nat) : Deferred := { target := .collected r, args := #[] }

theorem step_rfunc {b : Frame} {k : List Item} {cs : List Frame} {g : Operand} {ps : Array Tmp} {assign body : Code} {l : Nat} {mark : List Deferred} {w₁ w₁' w₂ : World} {d : Deferred} {f : FuncId} {args : Array Value}
    (he : (Instr.enterLoop b.fn a.tmps ps assign body none).run P w = .ok (l, mark) w₁)
    (hres : (resolve a.eval (rangeCall g l) 0).run P w₁ = .ok d w₁') (hinv : (invoke d.target d.args).run P w₁' = .ok (.enter f args) w₂) :
    step P (lone (b.at a (.code (.rangeFunc g ps assign body) :: k)) cs w) =
      .next (lone (Frame.enter P f args .normal) (b.at { a with defers := mark ++ a.defers } (.inRangeFunc l :: k) :: cs) w₂) :=
  step_lone_go (by
    have hev := Frame.eval_at' b { a with defers := mark ++ a.defers } (.inRangeFunc l :: k)
    simp only [Frame.at] at hev
    have hres' : Sem.run P (resolve ({ tmps := a.tmps, defers := mark ++ a.defers } : Act).eval { callee := .value g, args := #[.const (.func (.yield l) #[] #[])], argTypes := #[] } 0) w₁ = .ok d w₁' := hres
    simp [stepG, stepG.exec, Frame.at, Sem.runT_eq, he, GStep.bare_after, stepG.apply, hev, Sem.run_bind, hres', hinv, Result.andThen])

theorem finish_rfunc (b : Frame) (a : Act) (l : Nat) (k : List Item) (v : Value) : (b.at a (.inRangeFunc l :: k)).finish v = b.at a (.endRangeFunc l :: k) := by
  simp [Frame.finish, Frame.at]

theorem step_endRfunc {b : Frame} {k : List Item} {cs : List Frame} {l : Nat} {w' : World} (h : (Instr.endLoop l).run P w = .ok none w') :
    step P (lone (b.at a (.endRangeFunc l :: k)) cs w) = .next (lone (b.at a k) cs w') :=
  step_lone_go (by simp [stepG, stepG.exec, Frame.at, Sem.runT_eq, h, GStep.bare_after])

theorem wp_rfunc {g : Operand} {ps : Array Tmp} {assign body : Code}
    (h : ∀ fn : FuncId, ∃ (l : Nat) (mark : List Deferred) (w₁ : World) (d : Deferred) (w₁' : World) (f : FuncId) (args : Array Value) (w₂ : World),
      (Instr.enterLoop fn a.tmps ps assign body none).run P w = .ok (l, mark) w₁ ∧ (resolve a.eval (rangeCall g l) 0).run P w₁ = .ok d w₁' ∧ (invoke d.target d.args).run P w₁' = .ok (.enter f args) w₂ ∧
      Calls P f args w₂ fun | .returned _, w₃ => ∃ w₄, (Instr.endLoop l).run P w₃ = .ok none w₄ ∧ Q .normal { a with defers := mark ++ a.defers } w₄ | _, _ => False) :
    (Code.rangeFunc g ps assign body).wp P Q a w := by
  intro b k cs
  obtain ⟨l, mark, w₁, d, w₁', f, args, w₂, he, hres, hinv, hcall⟩ := h b.fn
  have henter := step_rfunc (P := P) (b := b) (a := a) (k := k) (cs := cs) (w := w) he hres hinv
  obtain ⟨e, w₃, fr, hR, hsteps, hfn, hleave⟩ := hcall (b.at { a with defers := mark ++ a.defers } (.inRangeFunc l :: k) :: cs)
  cases e with
  | outgrown => exact hR.elim
  | panicked chain => exact hR.elim
  | returned v =>
    obtain ⟨w₄, hend, hq⟩ := hR
    refine ⟨.normal, _, w₄, hq, .head henter (Steps.trans hsteps (.head (step_leave_returned hleave) ?_))⟩
    rw [finish_rfunc]
    exact .one (step_endRfunc hend)

/-- some blocks forgotten -/
def Kn.shed (K : Kn) (E : Nat → Bool) : Kn := ⟨fun b => if E b then none else K b, K.sym⟩

theorem shed_at (K : Kn) (E : Nat → Bool) (b : Nat) : (K.shed E) b = if E b then none else K b := rfl

theorem shed_cell {E : Nat → Bool} (hE : ∀ b, E b = true → ∀ c e z, K b ≠ some (.cells c e z)) (x : Addr) (v : Value) (h : K.cell x = some v) : (K.shed E).cell x = some v := by
  unfold Kn.cell at *
  rw [shed_at]
  cases hb : E x.block with
  | true =>
    exfalso
    split at h
    · rename_i c e z heq; exact hE _ hb c e z heq
    · cases h
  | false => simpa [hb] using h

theorem RepL.monoC {K K' : Kn} {J J' : Jn} (hK : ∀ a v, K.cell a = some v → K'.cell a = some v) (hS : K'.sym = K.sym) (hJ : J.le J') {cs : List L} {us : List Value} (h : RepL K J cs us) : RepL K' J' cs us :=
  ⟨h.1, fun k a b => (h.2 k a b).monoC hK hS hJ⟩
theorem RepC.monoC {K K' : Kn} {J J' : Jn} (hK : ∀ a v, K.cell a = some v → K'.cell a = some v) (hS : K'.sym = K.sym) (hJ : J.le J') {cs : List L} {us : List Value} (h : RepC K J cs us) : RepC K' J' cs us := ⟨h.1.monoC hK hS hJ, h.2⟩

theorem ObAt.monoC {K K' : Kn} {w' : World} (hK : ∀ a v, K.cell a = some v → K'.cell a = some v) (hS : K'.sym = K.sym) {win : Win} {b : Ob} (hw : w'.heap[win.blk]? = w.heap[win.blk]?) (h : ObAt K J w win b) : ObAt K' J w' win b := by
  cases b with
  | cells c =>
    obtain ⟨arr, e, fz, us, h1, h2, h3, h4, h5, h6⟩ := h
    exact ⟨arr, e, fz, us, by rw [hw, h1], h2, h3, h4.monoC hK hS J.le_refl, h5, h6⟩
  | map es clock =>
    obtain ⟨arr, h1, h2⟩ := h
    exact ⟨arr, by rw [hw, h1], h2.1, fun k p q => ⟨(h2.2 k p q).1.monoC hK hS J.le_refl, (h2.2 k p q).2.1.monoC hK hS J.le_refl, (h2.2 k p q).2.2⟩⟩
  | siter s pos => exact ⟨by rw [hw]; exact h.1, h.2⟩
  | miter m since seen last =>
    obtain ⟨wm, h1, h2, h3⟩ := h
    exact ⟨wm, h1, by rw [hw]; exact h2, h3⟩
  | miter0 => exact ⟨by rw [hw]; exact h.1, h.2⟩
  | glob gs => trivial
  | const c => trivial
  | hole => trivial
  | gone => trivial

theorem HRel.shed {w' : World} (h : HRel K J hp w) {E : Nat → Bool} (hE : ∀ b, E b = true → ∃ o, K b = some o ∧ ∀ c e z, o ≠ .cells c e z) (hw : ∀ b, E b = false → w'.heap[b]? = w.heap[b]?) (hsz : w'.heap.size = w.heap.size) :
    HRel (K.shed E) J hp w' := by
  have hc : ∀ x v, K.cell x = some v → (K.shed E).cell x = some v := shed_cell fun b hb c e z hk => by
    obtain ⟨o, ho, hne⟩ := hE b hb
    rw [hk] at ho
    cases ho
    exact hne c e z rfl
  have nE : ∀ (o : Nat) b win, hp[o]? = some b → b.live = true → J o = some win → E win.blk = false := by
    intro o b win e l j
    cases hh : E win.blk with
    | false => rfl
    | true =>
      obtain ⟨x, hx, _⟩ := hE _ hh
      rw [h.free o b win e l j] at hx
      cases hx
  refine ⟨?_, ?_, h.hole, h.dom, h.inj, ?_, fun o win j => by rw [hsz]; exact h.bnd o win j, ?_⟩
  · intro b o e
    rw [shed_at] at e
    cases hb : E b with
    | true => rw [hb] at e; cases e
    | false => rw [hb] at e; rw [hw b hb]; exact h.hold b o (by simpa using e)
  · intro o b e l
    obtain ⟨win, j, ha⟩ := h.ob o b e l
    exact ⟨win, j, ha.monoC hc rfl (hw _ (nE o b win e l j))⟩
  · intro o b win e l j
    rw [shed_at]
    rw [nE o b win e l j]
    simpa using h.free o b win e l j
  · intro o b e
    have := h.cst o b e
    cases b with
    | glob gs => exact fun g c hg => let ⟨us, h1, h2⟩ := this g c hg; ⟨us, h1.monoC hc rfl J.le_refl, fun k hk => hc _ _ (h2 k hk)⟩
    | const c =>
      obtain ⟨win, us, arr, e', h0, h2, h3, h4⟩ := this
      refine ⟨win, us, arr, e', h0, ?_, h3.monoC hc rfl J.le_refl, h4⟩
      rw [shed_at]
      cases hh : E win.blk with
      | true =>
        obtain ⟨x, hx, hne⟩ := hE _ hh
        rw [h2] at hx
        cases hx
        exact absurd rfl (hne _ _ _)
      | false => simpa using h2
    | _ => trivial

/-- a known block -/
def Kn.upd (K : Kn) (n : Nat) (o : Obj) : Kn := ⟨fun b => if b = n then some o else K b, K.sym⟩

theorem upd_at (K : Kn) (n : Nat) (o : Obj) (b : Nat) : (K.upd n o) b = if b = n then some o else K b := rfl

theorem HRel.kNone (h : HRel K J hp w) {n : Nat} (hn : w.heap.size ≤ n) : K n = none := by
  cases hk : K n with
  | none => rfl
  | some x => have := (Array.getElem?_eq_some_iff.1 (h.hold _ _ hk)).1; omega

theorem Kn.le_upd {n : Nat} {o : Obj} (h : K n = none) : K.le (K.upd n o) := ⟨fun b x e => by
  rw [upd_at]
  split
  · rename_i hb; subst hb; rw [h] at e; cases e
  · exact e, rfl⟩

theorem HRel.know (h : HRel K J hp w) (obj : Obj) : HRel (K.upd w.heap.size obj) J hp (w.alloc obj) := by
  have le : K.le (K.upd w.heap.size obj) := Kn.le_upd (h.kNone (Nat.le_refl _))
  refine ⟨?_, ?_, h.hole, h.dom, h.inj, ?_, ?_, fun o b e => (h.cst o b e).mono le J.le_refl⟩
  · intro b o e
    rw [upd_at] at e
    split at e
    · rename_i hb; subst hb; cases e; exact heap_push_eq
    · have hk := h.hold b o e
      rw [heap_push_lt (Array.getElem?_eq_some_iff.1 hk).1]; exact hk
  · intro o b e l
    obtain ⟨win, j, ha⟩ := h.ob o b e l
    exact ⟨win, j, ha.mono le J.le_refl (heap_push_lt (h.bnd o win j))⟩
  · intro o b win e l j
    rw [upd_at]
    have := h.bnd o win j
    rw [if_neg (by omega)]
    exact h.free o b win e l j
  · intro o win j
    have := h.bnd o win j
    simp; omega

/-- the marks of a function that is under way -/
structure Marks (K : Kn) (base : Nat) (rs : List Nat) : Prop where
  nodup : rs.Nodup
  at' : ∀ r ∈ rs, K r = some (.deferred (some [])) ∧ base ≤ r

theorem Marks.nil {base : Nat} : Marks K base [] := ⟨List.nodup_nil, by simp⟩

/-- the marks, taken one by one -/
def TakeAll (P : Program) : List Nat → World → World → Prop
  | [], w, w' => w = w'
  | r :: rs, w, w' => ∃ w1, (Instr.takeDeferred r).run P w = .ok [] w1 ∧ TakeAll P rs w1 w'

theorem takeAll_of : ∀ (rs : List Nat) (w : World), rs.Nodup → (∀ r ∈ rs, w.heap[r]? = some (.deferred (some []))) →
    ∃ w', TakeAll P rs w w' ∧ (∀ b, b ∉ rs → w'.heap[b]? = w.heap[b]?) ∧ w'.heap.size = w.heap.size ∧ w'.os = w.os ∧ w'.tape = w.tape ∧ w'.output = w.output
  | [], w, _, _ => ⟨w, rfl, fun _ _ => rfl, rfl, rfl, rfl, rfl⟩
  | r :: rs, w, hn, h => by
    have hr := h r (by simp)
    have htake : (Instr.takeDeferred r).run P w = .ok [] { w with heap := w.heap.setIfInBounds r (.deferred none) } := by
      simp [Instr.takeDeferred, getObj, setObj, Sem.run, hr]
    obtain ⟨k1, k2⟩ := heap_set' (o' := .deferred none) hr
    obtain ⟨hnot, hn2⟩ := List.nodup_cons.1 hn
    obtain ⟨w', g1, g2, g3, g4, g5, g6⟩ := takeAll_of rs { w with heap := w.heap.setIfInBounds r (.deferred none) } hn2 (fun q hq => by
      have hne : q ≠ r := fun e => hnot (e ▸ hq)
      rw [k2 q hne]; exact h q (by simp [hq]))
    refine ⟨w', ⟨_, htake, g1⟩, fun b hb => ?_, by simpa using g3, g4, g5, g6⟩
    simp only [List.mem_cons, not_or] at hb
    rw [g2 b hb.2, k2 b hb.1]

theorem steps_takeAll {fr : Frame} {cs : List Frame} : ∀ (rs : List Nat) (fr : Frame) (w w' : World), fr.mode ≠ .run → fr.defers = rs.map mk → TakeAll P rs w w' → Steps P (lone fr cs w) (lone { fr with defers := [] } cs w')
  | [], fr, w, w', _, hd, ht => by
    cases ht
    have : { fr with defers := [] } = fr := by cases fr; simp at hd; subst hd; rfl
    rw [this]; exact Steps.refl _ _
  | r :: rs, fr, w, w', hm, hd, ht => by
    obtain ⟨w1, h1, h2⟩ := ht
    have hs := step_collected (cs := cs) (d := mk r) (ds := rs.map mk) hm (by simpa using hd) rfl h1
    have ih := steps_takeAll (fr := fr) (cs := cs) rs { fr with defers := [] ++ rs.map mk } w1 w' hm rfl h2
    exact .head hs ih

/-- a function's contract out of its code, marks and all -/
theorem calls_of_wp_marks {f : FuncId} {fn : Func} {c : Code} {args : Array Value} {R : Ending → World → Prop} (hf : P.funcs[f]? = some fn) (hb : fn.body = some c)
    (h : c.wp P (fun e a' w' => (e = .normal ∨ e = .ret) ∧ ∃ rs w'', a'.defers = rs.map mk ∧ TakeAll P rs w' w'' ∧ ∃ v, (results fn a'.tmps).run P w'' = .ok v w'' ∧ R (.returned v) w'') { tmps := args ++ Array.replicate (fn.ntmps - args.size) undef, defers := [] } w) :
    Calls P f args w R := by
  intro cs
  let b : Frame := { (default : Frame) with fn := f, kind := .normal }
  have henter : Frame.enter P f args .normal = b.at { tmps := args ++ Array.replicate (fn.ntmps - args.size) undef, defers := [] } [.code c] := by
    simp [Frame.enter, Frame.at, hf, hb, b]
  obtain ⟨e, a', w', ⟨he, rs, w'', hd, ht, v, hv, hR⟩, harr⟩ := h b [] cs
  rw [← henter] at harr
  rcases he with rfl | rfl
  · have h1 := steps_takeAll (P := P) (fr := { b.at a' [] with mode := .returning }) (cs := cs) rs { b.at a' [] with mode := .returning } w' w'' (by simp) hd ht
    exact ⟨.returned v, w'', _, hR, Steps.trans harr (.head step_end h1), rfl, rfl, rfl, rfl, fn, hf, hv⟩
  · obtain ⟨todo, hs⟩ := harr
    have h1 := steps_takeAll (P := P) (fr := { b.at a' todo with mode := .returning }) (cs := cs) rs { b.at a' todo with mode := .returning } w' w'' (by simp) hd ht
    exact ⟨.returned v, w'', _, hR, Steps.trans hs h1, rfl, rfl, rfl, rfl, fn, hf, hv⟩

end
end Lb
