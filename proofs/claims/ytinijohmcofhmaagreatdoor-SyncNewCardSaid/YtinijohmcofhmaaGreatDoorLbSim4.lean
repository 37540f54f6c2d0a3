/- The abstract runs are the model's runs: code and functions. -/
import Derived.Test.YtinijohmcofhmaaGreatDoorLbRFunc
namespace Lb
open Go

def exOf : AEx → Exit
  | .normal => .normal
  | .exit id => .exit id
  | .ret => .ret

/-- after a round of a loop -/
def InLoop (P : Program) (c : Code) (Q : Exit → Act → World → Prop) (a : Act) (w : World) : Prop :=
  ∀ (b : Frame) (k : List Item) (cs : List Frame), ∃ e a' w', Q e a' w' ∧ Arrives P (lone (b.at a (.code c :: .inLoop c :: k)) cs w) b k cs e a' w'

section
variable {P : Program} {I : Inv} {C : Cfg} {w : World} {K : Kn} {J : Jn} {lo : Nat} {a : Act} {Q : Exit → Act → World → Prop}

theorem inLoop_round {c : Code} (h : c.wp P (Exit.then (InLoop P c Q) Q) a w) : InLoop P c Q a w := by
  intro b k cs
  obtain ⟨e, a₁, w₁, hq, harr⟩ := h b (.inLoop c :: k) cs
  cases e with
  | normal =>
    obtain ⟨e₂, a₂, w₂, hq₂, harr₂⟩ := hq b k cs
    exact ⟨e₂, a₂, w₂, hq₂, .of_steps (Steps.trans harr (.one step_inLoop)) harr₂⟩
  | exit id => exact ⟨_, a₁, w₁, hq, .pass (x := .inLoop c) rfl (fun _ _ => .inl (by simp)) harr⟩
  | goto l => exact ⟨_, a₁, w₁, hq, .pass (x := .inLoop c) rfl (fun _ _ => .inl (by simp)) harr⟩
  | ret => exact ⟨_, a₁, w₁, hq, .pass (x := .inLoop c) rfl (fun _ _ => .inl (by simp)) harr⟩
  | panic ch => exact ⟨_, a₁, w₁, hq, .pass (x := .inLoop c) rfl (fun _ _ => .inl (by simp)) harr⟩
  | outgrown => exact ⟨_, a₁, w₁, hq, .pass (x := .inLoop c) rfl (fun _ _ => .inl (by simp)) harr⟩

theorem loop_of {c : Code} (h : InLoop P c Q a w) : (Code.loop c).wp P Q a w := by
  intro b k cs
  obtain ⟨e, a', w', hq, harr⟩ := h b k cs
  exact ⟨e, a', w', hq, .of_steps (.one step_loop) harr⟩

/-- what a run leads to -/
def Leads (lo : Nat) (K : Kn) (J : Jn) (s : St) (ex : AEx) (s' : St) (a : Act) (w : World) (Q : Exit → Act → World → Prop) : Prop :=
  ∀ a' w' K' J' rs, Post lo K J s.hp w K' J' s'.hp w' → NoHole s'.hp → RepL K' J' s'.env a'.tmps.toList → a'.defers = rs.map mk ++ a.defers → Marks K' w.heap.size rs → Q (exOf ex) a' w'

theorem Marks.both {K1 K2 : Kn} {J1 : Jn} {hp1 : List Ob} {w1 : World} {rs1 rs2 : List Nat} {base : Nat} (m1 : Marks K1 base rs1) (h1 : HRel K1 J1 hp1 w1) (le : K1.le K2) (m2 : Marks K2 w1.heap.size rs2) (hb : base ≤ w1.heap.size) : Marks K2 base (rs2 ++ rs1) := by
  refine ⟨List.nodup_append.2 ⟨m2.nodup, m1.nodup, fun x hx y hy e => ?_⟩, fun r hr => ?_⟩
  · subst e
    have a1 := (m2.at' x hx).2
    have a2 := (Array.getElem?_eq_some_iff.1 (h1.hold _ _ (m1.at' x hy).1)).1
    omega
  · rcases List.mem_append.1 hr with hr | hr
    · exact ⟨(m2.at' r hr).1, Nat.le_trans hb (m2.at' r hr).2⟩
    · exact ⟨le.1 _ _ (m1.at' r hr).1, (m1.at' r hr).2⟩

def CodeSim (P : Program) (I : Inv) (C : Cfg) (k : Nat) : Prop :=
  ∀ (code : Code) (rc : RCode) (lo : Nat) (s : St) (ex : AEx) (s' : St) (a : Act) (w : World) (K : Kn) (J : Jn) (Q : Exit → Act → World → Prop), rcode P code = some rc → arun C k lo rc s = some (ex, s') →
    I.p K J → HRel K J s.hp w → NoHole s.hp → RepL K J s.env a.tmps.toList → Leads lo K J s ex s' a w Q → code.wp P Q a w ∧ ∀ c, code = .loop c → InLoop P c Q a w

theorem rcode_region {id : Nat} {ops : Array Oper} {draw : Bool} {rc : RCode} (h : rcode P (.region id ops draw) = some rc) :
    ∃ l, ropers P ops ops.toList [] 0 = some l ∧ rc = .region (if draw then soloL l else l.map fun o => { o with pre := 0 }) draw := by
  simp only [rcode, Option.map_eq_some_iff] at h
  obtain ⟨l, h1, h2⟩ := h
  exact ⟨l, h1, h2.symm⟩

theorem soloL_get {l : List ROper} {i : Nat} {ro : ROper} (h : (soloL l)[i]? = some ro) : ∃ ro' b, l[i]? = some ro' ∧ ro = { ro' with solo := b } := by
  unfold soloL at h
  rw [List.getElem?_map, Option.map_eq_some_iff] at h
  obtain ⟨p, hp, rfl⟩ := h
  rw [List.getElem?_zipIdx, Option.map_eq_some_iff] at hp
  obtain ⟨q, hq, rfl⟩ := hp
  exact ⟨q, _, hq, rfl⟩

theorem soloL_of {l : List ROper} {i : Nat} {ro' : ROper} (h : l[i]? = some ro') : ∃ b, (soloL l)[i]? = some { ro' with solo := b } := by
  refine ⟨isCall ro'.op && l.zipIdx.all fun q => i == q.2 || ro'.pre.testBit q.2 || q.1.pre.testBit i, ?_⟩
  unfold soloL
  rw [List.getElem?_map, List.getElem?_zipIdx, h]
  simp

theorem RegOk.alone {ops : Array Oper} {l : List ROper} (h : RegOk P ops l) : RegOk P ops (soloL l) := by
  refine ⟨by simp [soloL, h.len], fun i o ro ho hro => ?_, h.fwd, fun i o ro ho hro k hk => ?_⟩
  · obtain ⟨ro', b, h1, rfl⟩ := soloL_get hro
    have := h.made i o ro' ho h1
    exact ⟨this.op, this.dst, this.guard⟩
  · obtain ⟨ro', b, h1, rfl⟩ := soloL_get hro
    obtain ⟨e, he, hb, h3⟩ := h.pre i o ro' ho h1 k hk
    refine ⟨e, he, hb, h3.imp id fun ⟨r2, h4, h5⟩ => ?_⟩
    obtain ⟨b2, h6⟩ := soloL_of h4
    exact ⟨_, h6, h5⟩

theorem Made.pre0 {ops : Array Oper} {o : Oper} {ro : ROper} (h : Made P ops o ro) : Made P ops o { ro with pre := 0 } := ⟨h.op, h.dst, h.guard⟩

theorem seq_defers {a a1 a2 : Act} {rs1 rs2 : List Nat} (h1 : a1.defers = rs1.map mk ++ a.defers) (h2 : a2.defers = rs2.map mk ++ a1.defers) : a2.defers = (rs2 ++ rs1).map mk ++ a.defers := by
  rw [h2, h1]; simp

/-- what ties the configuration to the program -/
structure CfgOk (P : Program) (I : Inv) (C : Cfg) : Prop where
  mixed : P.follows .mixedOrders = true
  fns : ∀ f rf, C.orc f = none → C.fns f = some rf → ∃ fn, P.funcs[f]? = some fn ∧ rfn P fn = some rf ∧ (fn.name == "runtime.NumGoroutine") = false
  orc : ∀ f g, C.orc f = some g → Tells P I f (fun lo args hp => g lo f args hp)

theorem rfunc_sim (hC : CfgOk P I C) {k : Nat} (hcf : CallSpec P I (callWith C (arun C k))) {s : St} {g : Operand} {ps : Array Tmp} {assign body : Code} {f : Nat} {first caps : List L} {d : L} {hp' : List Ob}
    (hq : opd s.env (ropd g) = some (.fn (.func f) first caps)) (horc : C.orc f = none) (hcall : callWith C (arun C k) lo f (first ++ [.dead] ++ caps) s.hp = some (d, hp')) (hI : I.p K J) (h : HRel K J s.hp w) (hnh : NoHole s.hp) (he : RepL K J s.env a.tmps.toList)
    (hQ : ∀ w' K' J' r, Post lo K J s.hp w K' J' hp' w' → NoHole hp' → K' r = some (.deferred (some [])) → w.heap.size ≤ r → Q .normal { a with defers := [r].map mk ++ a.defers } w') : (Code.rangeFunc g ps assign body).wp P Q a w := by
  refine wp_rfunc fun fn => ?_
  -- the record and the mark's block
  have hbody : ∃ fn', P.funcs[f]? = some fn' ∧ fn'.body.isSome = true ∧ (fn'.name == "runtime.NumGoroutine") = false := by
    unfold callWith at hcall
    rw [horc] at hcall
    simp only [Option.bind_eq_some_iff] at hcall
    obtain ⟨rf, hrf, _⟩ := hcall
    obtain ⟨fn', h1, h2, h3⟩ := hC.fns f rf horc hrf
    simp only [rfn, Option.bind_eq_some_iff] at h2
    obtain ⟨c, hc, _⟩ := h2
    exact ⟨fn', h1, by rw [hc]; rfl, h3⟩
  obtain ⟨fn', hf1, hf2, hf3⟩ := hbody
  have hv := eval_rep he hq
  generalize hev : a.eval g = v at hv
  cases hv with
  | fn _ _ _ us ws hl hl' h3 h4 =>
    let D : Obj := .deferred (some [])
    let Lp : Obj := .loop { state := .ready, pending := none, fn, tmps := a.tmps, params := ps, assign, body, defers := w.heap.size }
    let n := w.heap.size
    have hR1 := (h.know D).know Lp
    have hsz : (w.alloc D).heap.size = n + 1 := by simp [n]
    rw [hsz] at hR1
    have k0 : K n = none := h.kNone (Nat.le_refl _)
    have le1 : K.le (K.upd n D) := Kn.le_upd k0
    have le2 : (K.upd n D).le ((K.upd n D).upd (n + 1) Lp) := Kn.le_upd (by rw [upd_at, if_neg (by omega)]; exact h.kNone (by omega))
    have le : K.le ((K.upd n D).upd (n + 1) Lp) := Kn.le_trans le1 le2
    have hsz2 : ((w.alloc D).alloc Lp).heap.size = n + 2 := by simp [n]
    have hargs : RepL ((K.upd n D).upd (n + 1) Lp) J (first ++ [.dead] ++ caps) (us ++ [Value.func (.yield (n + 1)) #[] #[]] ++ ws) :=
      ((RepL.append ⟨hl, h3⟩ (RepL.cons (.dead _) RepL.nil)).append ⟨hl', h4⟩).mono le J.le_refl
    have hT := hcf f lo _ s.hp d hp' _ J ((w.alloc D).alloc Lp) _ hnh hcall hR1 (I.mono hI le J.le_refl) hargs
    have hcf1 : (callFunc f (us ++ [Value.func (.yield (n + 1)) #[] #[]] ++ ws).toArray).run P ((w.alloc D).alloc Lp) = .ok (.enter f (us ++ [Value.func (.yield (n + 1)) #[] #[]] ++ ws).toArray) ((w.alloc D).alloc Lp) := by
      have hne : ¬ fn'.name = "runtime.NumGoroutine" := by simpa using hf3
      cases hb : fn'.body with
      | none => rw [hb] at hf2; cases hf2
      | some c =>
        unfold callFunc
        simp [hf1, hne, hb]
    unfold CallOk at hT
    rw [hcf1] at hT
    refine ⟨n + 1, [mk n], (w.alloc D).alloc Lp, { target := .fn (.func f) ws.toArray, args := us.toArray ++ #[.func (.yield (n + 1)) #[] #[]] }, (w.alloc D).alloc Lp, f, (us ++ [Value.func (.yield (n + 1)) #[] #[]] ++ ws).toArray, (w.alloc D).alloc Lp, ?_, ?_, ?_, ?_⟩
    · simp [Instr.enterLoop, newObj, Sem.run, D, Lp, n, mk]
    · have e2 : a.eval (.const (.func (.yield (n + 1)) #[] #[])) = .func (.yield (n + 1)) #[] #[] := rfl
      simp [resolve, rangeCall, hev, Deferred.ofValue, e2]
    · have : (invoke (.fn (.func f) ws.toArray) (us.toArray ++ #[.func (.yield (n + 1)) #[] #[]])) = callFunc f (us.toArray ++ #[.func (.yield (n + 1)) #[] #[]] ++ ws.toArray) := rfl
      rw [this, ← hcf1]
      congr 2
      apply Array.toList_inj.1
      simp
    · refine Calls.mono hT fun e w3 hR => ?_
      cases e with
      | panicked c => exact hR.elim
      | outgrown => exact hR.elim
      | returned v3 =>
        obtain ⟨K3, J3, _, p⟩ := hR
        have hk3 : K3 (n + 1) = some Lp := p.kle.1 _ _ (by rw [upd_at, if_pos rfl])
        have hk3n : K3 n = some D := p.kle.1 _ _ (by rw [upd_at, if_neg (by omega), upd_at, if_pos rfl])
        have hw3 := p.rel.hold _ _ hk3
        let Lp' : Obj := .loop { state := .exhausted, pending := none, fn, tmps := a.tmps, params := ps, assign, body, defers := w.heap.size }
        let w4 : World := { w3 with heap := w3.heap.setIfInBounds (n + 1) Lp' }
        obtain ⟨q1, q2⟩ := heap_set' (o' := Lp') hw3
        refine ⟨w4, ?_, ?_⟩
        · simp [Instr.endLoop, Instr.getLoop, getObj, setObj, Sem.run, hw3, Lp, w4, Lp']
        · let E : Nat → Bool := fun b => b == n + 1
          have hrel4 : HRel (K3.shed E) J3 hp' w4 := p.rel.shed (E := E) (fun b hb => by
              have : b = n + 1 := by simpa [E] using hb
              subst this
              exact ⟨Lp, hk3, by simp [Lp]⟩) (fun b hb => q2 b (by simpa [E] using hb)) (by simp [w4])
          have hsize := p.size
          rw [hsz2] at hsize
          refine hQ w4 (K3.shed E) J3 n ⟨hrel4, ?_, p.jle, p.len, p.os, p.tape, p.output, by simp [w4]; omega, ?_, ?_, ?_, p.jold, p.nohole⟩ (fun o e => hnh o (p.nohole o e)) ?_ (Nat.le_refl _)
          · refine ⟨fun b o e => ?_, p.kle.2⟩
            have hb : b < n := (Array.getElem?_eq_some_iff.1 (h.hold b o e)).1
            rw [shed_at, if_neg (by simp [E]; omega)]
            exact p.kle.1 _ _ (le.1 _ _ e)
          · intro b hb hm
            have h1 := p.frame b (by rw [hsz2]; omega) hm
            have h2 : w4.heap[b]? = w3.heap[b]? := q2 b (by omega)
            rw [h2, h1, heap_push_lt (by simp; omega), heap_push_lt hb]
          · intro b hb
            rcases p.mods b hb with h1 | h1
            · exact .inl h1
            · rw [hsz2] at h1; exact .inr (by omega)
          · intro b hb
            have hb3 : K3 b ≠ none := fun e => hb (by rw [shed_at]; split <;> first | rfl | exact e)
            rcases p.knew b hb3 with h1 | h1 | h1
            · by_cases c1 : b = n + 1
              · exact .inr (.inr (by omega))
              · by_cases c2 : b = n
                · exact .inr (.inr (by omega))
                · left
                  rw [upd_at, if_neg c1, upd_at, if_neg c2] at h1
                  exact h1
            · exact .inr (.inl h1)
            · rw [hsz2] at h1; exact .inr (.inr (by omega))
          · rw [shed_at, if_neg (by simp [E])]
            exact hk3n

theorem codeSim_step (hC : CfgOk P I C) {k : Nat} (hcf : CallSpec P I (callWith C (arun C k))) (ih : CodeSim P I C k) : CodeSim P I C (k + 1) := by
  intro code rc lo s ex s' a w K J Q hc hr hI h hnh he hQ
  have plain : code.wp P Q a w → (∀ c, code ≠ .loop c) → code.wp P Q a w ∧ ∀ c, code = .loop c → InLoop P c Q a w := fun h1 h2 => ⟨h1, fun c e => absurd e (h2 c)⟩
  cases code with
  | skip =>
    simp only [rcode, Option.some.injEq] at hc; subst hc
    simp only [arun, Option.some.injEq, Prod.mk.injEq] at hr
    obtain ⟨rfl, rfl⟩ := hr
    exact plain (wp_skip (hQ a w K J [] (Post.refl h) hnh he rfl Marks.nil)) (by simp)
  | label l =>
    simp only [rcode, Option.some.injEq] at hc; subst hc
    simp only [arun, Option.some.injEq, Prod.mk.injEq] at hr
    obtain ⟨rfl, rfl⟩ := hr
    exact plain (wp_label (hQ a w K J [] (Post.refl h) hnh he rfl Marks.nil)) (by simp)
  | exit id =>
    simp only [rcode, Option.some.injEq] at hc; subst hc
    simp only [arun, Option.some.injEq, Prod.mk.injEq] at hr
    obtain ⟨rfl, rfl⟩ := hr
    exact plain (wp_exit (hQ a w K J [] (Post.refl h) hnh he rfl Marks.nil)) (by simp)
  | ret =>
    simp only [rcode, Option.some.injEq] at hc; subst hc
    simp only [arun, Option.some.injEq, Prod.mk.injEq] at hr
    obtain ⟨rfl, rfl⟩ := hr
    exact plain (wp_ret (hQ a w K J [] (Post.refl h) hnh he rfl Marks.nil)) (by simp)
  | goto l => simp only [rcode, Option.some.injEq] at hc; subst hc; cases hr
  | rangeFunc g ps assign body =>
    simp only [rcode, Option.some.injEq] at hc; subst hc
    simp only [arun, Option.bind_eq_some_iff] at hr
    obtain ⟨q, hq, hr⟩ := hr
    split at hr
    · rename_i f first caps
      split at hr
      · cases hr
      · rename_i horc
        rw [Option.map_eq_some_iff] at hr
        obtain ⟨⟨d, hp'⟩, hcall, e⟩ := hr
        cases e
        exact plain (rfunc_sim hC hcf hq (by simpa using horc) hcall hI h hnh he fun w' K' J' r hp hn hk hr => hQ _ w' K' J' [r] hp hn (he.mono hp.kle hp.jle) rfl ⟨by simp, by simpa using ⟨hk, hr⟩⟩) (by simp)
    · cases hr
  | refuse => simp only [rcode, Option.some.injEq] at hc; subst hc; cases hr
  | scope c =>
    simp only [rcode, Option.map_eq_some_iff] at hc
    obtain ⟨b, hb, rfl⟩ := hc
    simp only [arun] at hr
    refine plain (wp_scope_straight (ih c b lo s ex s' a w K J _ hb hr hI h hnh he fun a' w' K' J' rs hp hn he' hd hm => ?_).1) (by simp)
    have := hQ a' w' K' J' rs hp hn he' hd hm
    cases ex <;> exact this
  | seq x y =>
    simp only [rcode, Option.bind_eq_some_iff, Option.map_eq_some_iff] at hc
    obtain ⟨rx, hx, ry, hy, rfl⟩ := hc
    simp only [arun] at hr
    refine plain (wp_seq ?_) (by simp)
    split at hr
    · rename_i s1 h1
      refine (ih x rx lo s .normal s1 a w K J _ hx h1 hI h hnh he fun a' w' K' J' rs hp hn he' hd hm => ?_).1
      exact (ih y ry lo s1 ex s' a' w' K' J' Q hy hr (I.mono hI hp.kle hp.jle) hp.rel hn he' fun a2 w2 K2 J2 rs2 hp2 hn2 he2 hd2 hm2 => hQ a2 w2 K2 J2 (rs2 ++ rs) (hp.trans hp2) hn2 he2 (seq_defers hd hd2) (hm.both hp.rel hp2.kle hm2 hp.size)).1
    · rename_i hne
      refine (ih x rx lo s ex s' a w K J _ hx hr hI h hnh he fun a' w' K' J' rs hp hn he' hd hm => ?_).1
      have := hQ a' w' K' J' rs hp hn he' hd hm
      cases ex with
      | normal => exact absurd hr (hne s')
      | _ => exact this
  | cond c x y =>
    simp only [rcode, Option.bind_eq_some_iff, Option.map_eq_some_iff] at hc
    obtain ⟨rx, hx, ry, hy, rfl⟩ := hc
    simp only [arun] at hr
    refine plain ?_ (by simp)
    split at hr
    · rename_i hcv
      have hv := eval_rep he hcv
      generalize hev : a.eval c = v at hv
      cases hv
      exact wp_cond_true hev (ih x rx lo s ex s' a w K J Q hx hr hI h hnh he hQ).1
    · rename_i hcv
      have hv := eval_rep he hcv
      generalize hev : a.eval c = v at hv
      cases hv
      exact wp_cond_false hev (ih y ry lo s ex s' a w K J Q hy hr hI h hnh he hQ).1
    · cases hr
  | block id b =>
    simp only [rcode, Option.map_eq_some_iff] at hc
    obtain ⟨rb, hb, rfl⟩ := hc
    simp only [arun] at hr
    refine plain (wp_block ?_) (by simp)
    split at hr
    · rename_i id' s1 h1
      cases hr
      refine (ih b rb lo s (.exit id') _ a w K J _ hb h1 hI h hnh he fun a' w' K' J' rs hp hn he' hd hm => ?_).1
      have := hQ a' w' K' J' rs hp hn he' hd hm
      show if id' = id then Q .normal a' w' else Q (.exit id') a' w'
      by_cases e : id' = id
      · rw [if_pos e] at this ⊢; exact this
      · rw [if_neg e] at this ⊢; exact this
    · rename_i hne
      refine (ih b rb lo s ex s' a w K J _ hb hr hI h hnh he fun a' w' K' J' rs hp hn he' hd hm => ?_).1
      have := hQ a' w' K' J' rs hp hn he' hd hm
      cases ex with
      | exit id' => exact absurd hr (hne id' s')
      | _ => exact this
  | loop b =>
    simp only [rcode, Option.map_eq_some_iff] at hc
    obtain ⟨rb, hb, rfl⟩ := hc
    simp only [arun] at hr
    have key : InLoop P b Q a w := by
      refine inLoop_round ?_
      split at hr
      · rename_i s1 h1
        refine (ih b rb lo s .normal s1 a w K J _ hb h1 hI h hnh he fun a' w' K' J' rs hp hn he' hd hm => ?_).1
        exact (ih (.loop b) (.loop rb) lo s1 ex s' a' w' K' J' Q (by simp [rcode, hb]) hr (I.mono hI hp.kle hp.jle) hp.rel hn he' fun a2 w2 K2 J2 rs2 hp2 hn2 he2 hd2 hm2 => hQ a2 w2 K2 J2 (rs2 ++ rs) (hp.trans hp2) hn2 he2 (seq_defers hd hd2) (hm.both hp.rel hp2.kle hm2 hp.size)).2 b rfl
      · rename_i hne
        refine (ih b rb lo s ex s' a w K J _ hb hr hI h hnh he fun a' w' K' J' rs hp hn he' hd hm => ?_).1
        have := hQ a' w' K' J' rs hp hn he' hd hm
        cases ex with
        | normal => exact absurd hr (hne s')
        | _ => exact this
    exact ⟨loop_of key, fun c e => by cases e; exact key⟩
  | region id ops draw =>
    obtain ⟨l, hl, rfl⟩ := rcode_region hc
    have hR := regOk hl
    simp only [arun, Option.map_eq_some_iff, Prod.mk.injEq] at hr
    obtain ⟨s1, hs, rfl, rfl⟩ := hr
    refine plain ?_ (by simp)
    cases draw with
    | true =>
      simp only [if_true] at hs
      exact draw_wp hC.mixed hcf hI hR.alone hs h hnh he fun a' w' K' J' hp hn he' hd => hQ a' w' K' J' [] hp hn he' hd Marks.nil
    | false =>
      simp only [Bool.false_eq_true, if_false] at hs
      refine region_wp hcf hI (by simpa using hR.len) (fun i o ro ho hro => ?_) hs h hnh he fun a' w' K' J' hp he' hd => hQ a' w' K' J' [] hp (fun o e => hnh o (hp.nohole o e)) he' hd Marks.nil
      rw [List.getElem?_map, Option.map_eq_some_iff] at hro
      obtain ⟨ro', hro', rfl⟩ := hro
      exact (hR.made i o ro' ho hro').pre0

def resVal (tmps : Array Value) : ResultVar → Sem Value
  | .tmp t => pure (tmps.getD t undef)
  | .cell b t => do loadVar t (← asAddr (tmps.getD b undef))

/-- a function's results -/
theorem run_resOf {s : St} (h : HRel K J s.hp w) (he : RepL K J s.env a.tmps.toList) {r : ResultVar} {rr : RRes} {l : L} (hr : rres P r = some rr) (hl : resOf s.env s.hp rr = some l) :
    ∃ v, (resVal a.tmps r).run P w = .ok v w ∧ Rep K J l v := by
  cases r with
  | tmp t =>
    simp only [rres, Option.some.injEq] at hr
    subst hr
    obtain ⟨u, hu, hru⟩ := he.getElem? hl
    refine ⟨u, ?_, hru⟩
    have : a.tmps[t]? = some u := by simpa using hu
    simp [resVal, Array.getD_eq_getD_getElem?, this]
  | cell b t =>
    simp only [rres, Option.bind_eq_some_iff] at hr
    obtain ⟨g, hg, n, hn, hr⟩ := hr
    split at hr
    · cases hr
      simp only [resOf] at hl
      split at hl
      · rename_i o off he1
        obtain ⟨u, hu, hru⟩ := he.getElem? he1
        have hu' : a.tmps[b]? = some u := by simpa using hu
        split at hl
        · rename_i c hc
          rw [Option.bind_eq_some_iff] at hl
          obtain ⟨cs, hcs, hof⟩ := hl
          cases hru with
          | ref _ _ win hj =>
            obtain ⟨win', us, hj', hrc, hlen, hcell⟩ := h.read hc hcs
            rw [hj] at hj'
            cases hj'
            obtain ⟨v, hv1, hv2⟩ := Rep.ofCells hrc hof
            refine ⟨v, ?_, hv2⟩
            have := run_loadVar_at (P := P) (w := w) (a := ⟨win.blk, win.base + off, none⟩) rfl hg (by rw [hn, hlen]) hcell hv1
            simp [resVal, Array.getD_eq_getD_getElem?, hu', asAddr, this]
        · cases hl
      · cases hl
    · cases hr

theorem run_results {fn : Func} {rfn' : RFn} {s : St} {d : L} (hrs : omapO (rres P) fn.results.toList = some rfn'.results) (h : HRel K J s.hp w) (he : RepL K J s.env a.tmps.toList) (hd : resultOf rfn' s = some d) :
    ∃ v, (results fn a.tmps).run P w = .ok v w ∧ Rep K J d v := by
  have all : ∀ (rs : List ResultVar) (rr : List RRes) (ls : List L), omapO (rres P) rs = some rr → omapO (resOf s.env s.hp) rr = some ls →
      ∃ vs, (rs.mapM (resVal a.tmps)).run P w = .ok vs w ∧ RepL K J ls vs := by
    intro rs
    induction rs with
    | nil =>
      intro rr ls h1 h2
      cases omapO_nil h1
      cases omapO_nil h2
      exact ⟨[], by simp, RepL.nil⟩
    | cons r rs ih =>
      intro rr ls h1 h2
      obtain ⟨x, xs, e1, e2, rfl⟩ := omapO_cons h1
      obtain ⟨l, ls', e3, e4, rfl⟩ := omapO_cons h2
      obtain ⟨v, hv, hrv⟩ := run_resOf h he e1 e3
      obtain ⟨vs, hvs, hrvs⟩ := ih xs ls' e2 e4
      refine ⟨v :: vs, ?_, RepL.cons hrv hrvs⟩
      rw [List.mapM_cons]
      simp only [Sem.run_bind, hv, Result.andThen_ok, hvs, Sem.run_pure]
  have step : ∀ ls vs, omapO (resOf s.env s.hp) rfn'.results = some ls → (fn.results.toList.mapM (resVal a.tmps)).run P w = .ok vs w →
      (results fn a.tmps).run P w = .ok (if h : vs.toArray.size = 1 then vs.toArray[0] else .tuple vs.toArray) w := by
    intro ls vs _ hvs
    have e : results fn a.tmps = (do let vs ← fn.results.mapM (resVal a.tmps); pure (if h : vs.size = 1 then vs[0] else .tuple vs)) := rfl
    rw [e, Array.mapM_eq_mapM_toList]
    simp only [Sem.run_bind, bind_pure_comp, Sem.run_map, hvs, Result.andThen_ok, Sem.run_pure]
  unfold resultOf at hd
  split at hd
  · rename_i r hr
    have hls : omapO (resOf s.env s.hp) rfn'.results = some [d] := by rw [hr]; simp [omapO, hd]
    obtain ⟨vs, hvs, hrep⟩ := all _ _ _ hrs hls
    obtain ⟨u, us, rfl, hu, hus⟩ := hrep.out_cons
    cases hus.out_nil
    exact ⟨u, step _ _ hls hvs, hu⟩
  · rename_i hne
    rw [Option.map_eq_some_iff] at hd
    obtain ⟨ls, hls, rfl⟩ := hd
    obtain ⟨vs, hvs, hrep⟩ := all _ _ _ hrs hls
    have hlen : ∀ (xs : List RRes) (ys : List L), omapO (resOf s.env s.hp) xs = some ys → ys.length = xs.length := by
      intro xs
      induction xs with
      | nil => intro ys h; cases omapO_nil h; rfl
      | cons x xs ih => intro ys h; obtain ⟨y, ys', _, h2, rfl⟩ := omapO_cons h; simp [ih _ h2]
    have h1 : vs.length ≠ 1 := by
      rw [hrep.len, hlen _ _ hls]
      intro e
      obtain ⟨r, hr⟩ := List.length_eq_one_iff.1 e
      exact hne r hr
    refine ⟨.tuple vs.toArray, ?_, .tup ls vs hrep.1 hrep.2⟩
    rw [step _ _ hls hvs, dif_neg (by simpa using h1)]

theorem callSpec_of (hC : CfgOk P I C) {k : Nat} (ih : CodeSim P I C k) : CallSpec P I (callWith C (arun C k)) := by
  intro f lo args hp d hp' K J w vs hnh hc h hI hargs
  unfold callWith at hc
  split at hc
  · rename_i g hg
    exact hC.orc f g hg lo args hp d hp' K J w vs hnh hc h hI hargs
  · rename_i hg
    simp only [Option.bind_eq_some_iff] at hc
    obtain ⟨rf, hrf, ⟨ex, s'⟩, hrun, hres⟩ := hc
    obtain ⟨fn, hfn, hr, hname⟩ := hC.fns f rf hg hrf
    simp only [rfn, Option.bind_eq_some_iff, Option.map_eq_some_iff] at hr
    obtain ⟨code, hcode, rb, hrb, rs', hrs, rfl⟩ := hr
    have hcallf : (callFunc f vs.toArray).run P w = .ok (.enter f vs.toArray) w := by
      have hne : ¬ fn.name = "runtime.NumGoroutine" := by simpa using hname
      unfold callFunc
      simp [hfn, hne, hcode]
    unfold CallOk
    rw [hcallf]
    refine calls_of_wp_marks hfn hcode ?_
    refine (ih code rb lo _ ex s' _ w K J _ hrb hrun hI h hnh ?_ ?_).1
    · simp only [Array.toList_append, Array.toList_replicate]
      have hlen : vs.toArray.size = args.length := by simpa using hargs.len
      rw [hlen]
      exact hargs.append (RepL.replicate rep_undef)
    · intro a' w' K' J' rs hp1 hn1 he1 hd1 hm1
      have post : ∀ d', resultOf { ntmps := fn.ntmps, results := rs', body := rb } s' = some d' → d' = d → s'.hp = hp' → (exOf ex = .normal ∨ exOf ex = .ret) →
          (exOf ex = .normal ∨ exOf ex = .ret) ∧ ∃ rs w'', a'.defers = rs.map mk ∧ TakeAll P rs w' w'' ∧ ∃ v, (results fn a'.tmps).run P w'' = .ok v w'' ∧ ∃ K' J', Rep K' J' d v ∧ Post lo K J hp w K' J' hp' w'' := by
        intro d' h1 h2 h3 hex
        subst h2; subst h3
        obtain ⟨w'', t1, t2, t3, t4, t5, t6⟩ := takeAll_of (P := P) rs w' hm1.nodup fun r hr => hp1.rel.hold _ _ (hm1.at' r hr).1
        let E : Nat → Bool := fun b => rs.contains b
        have hE : ∀ b, E b = true → K' b = some (.deferred (some [])) ∧ w.heap.size ≤ b := fun b hb => hm1.at' b (by simpa [E] using hb)
        have hEn : ∀ b, E b = false → b ∉ rs := fun b hb => by simpa [E] using hb
        have hrel : HRel (K'.shed E) J' s'.hp w'' := hp1.rel.shed (E := E) (fun b hb => ⟨_, (hE b hb).1, by simp⟩) (fun b hb => t2 b (hEn b hb)) t3
        have hcell : ∀ x v, K'.cell x = some v → (K'.shed E).cell x = some v := shed_cell fun b hb c e z hk => by
          rw [(hE b hb).1] at hk; cases hk
        have he2 : RepL (K'.shed E) J' s'.env a'.tmps.toList := he1.monoC hcell rfl J'.le_refl
        obtain ⟨v, hv, hrv⟩ := run_results (fn := fn) hrs hrel he2 h1
        refine ⟨hex, rs, w'', by simpa using hd1, t1, v, hv, K'.shed E, J', hrv, hrel, ?_, hp1.jle, hp1.len, t4.trans hp1.os, t5.trans hp1.tape, t6.trans hp1.output, by rw [t3]; exact hp1.size, ?_, hp1.mods, ?_, hp1.jold, hp1.nohole⟩
        · refine ⟨fun b o e => ?_, hp1.kle.2⟩
          have hb : b < w.heap.size := (Array.getElem?_eq_some_iff.1 (h.hold b o e)).1
          rw [shed_at]
          cases hh : E b with
          | true => have := (hE b hh).2; omega
          | false => simpa using hp1.kle.1 _ _ e
        · intro b hb hm
          rw [← hp1.frame b hb hm]
          refine t2 b fun hr => ?_
          have := (hm1.at' b hr).2
          omega
        · intro b hb
          exact hp1.knew b fun e => hb (by rw [shed_at]; split <;> first | rfl | exact e)
      cases ex with
      | exit id => cases hres
      | normal =>
        rw [Option.map_eq_some_iff] at hres
        obtain ⟨d', h1, e⟩ := hres
        cases e
        exact post _ h1 rfl rfl (.inl rfl)
      | ret =>
        rw [Option.map_eq_some_iff] at hres
        obtain ⟨d', h1, e⟩ := hres
        cases e
        exact post _ h1 rfl rfl (.inr rfl)

theorem codeSim (hC : CfgOk P I C) : ∀ k, CodeSim P I C k
  | 0 => by intro code rc lo s ex s' a w K J Q hc hr; cases hr
  | k + 1 => codeSim_step hC (callSpec_of hC (codeSim hC k)) (codeSim hC k)

/-- an abstract call is the model's call -/
theorem acall_sound (hC : CfgOk P I C) (k : Nat) : CallSpec P I (acall C k) := callSpec_of hC (codeSim hC k)

end
end Lb
