/- The abstract runs are the model's runs: calls, regions, code. -/
import Derived.Test.YtinijohmcofhmaaGreatDoorLbOpAll
import Derived.Test.YtinijohmcofhmaaGreatDoorLbDraw
import Derived.Orders
import Derived.Scope
namespace Lb
open Go

/-- what a call comes to -/
def CallOk (P : Program) (f : Nat) (vs : Array Value) (w : World) (R : Value → World → Prop) : Prop :=
  match (callFunc f vs).run P w with
  | .ok (.enter g xs) w' => Calls P g xs w' fun | .returned v, w'' => R v w'' | _, _ => False
  | .ok (.value v) w' => R v w'
  | .ok (.row row xs) w' => Rows P row xs w' R
  | _ => False

def NoHole (hp : List Ob) : Prop := ∀ o : Nat, hp[o]? ≠ some .hole

/-- what is known of constants and windows throughout -/
structure Inv where
  p : Kn → Jn → Prop
  mono : ∀ {K K' : Kn} {J J' : Jn}, p K J → K.le K' → J.le J' → p K' J'

/-- an abstract function tells what a call of one function comes to -/
def Tells (P : Program) (I : Inv) (f : Nat) (g : Nat → List L → List Ob → Option (L × List Ob)) : Prop :=
  ∀ (lo : Nat) (args : List L) (hp : List Ob) (d : L) (hp' : List Ob) (K : Kn) (J : Jn) (w : World) (vs : List Value), NoHole hp → g lo args hp = some (d, hp') → HRel K J hp w → I.p K J → RepL K J args vs →
    CallOk P f vs.toArray w fun v w' => ∃ K' J', Rep K' J' d v ∧ Post lo K J hp w K' J' hp' w'

def CallSpec (P : Program) (I : Inv) (cf : CallF) : Prop := ∀ f, Tells P I f (fun lo args hp => cf lo f args hp)

section
variable {P : Program} {w : World} {K : Kn} {J : Jn} {hp hp' : List Ob} {lo : Nat} {d : L} {a : Act} {env : List L} {o : Oper} {next : Act → World → Prop} {Q : Exit → Act → World → Prop}

theorem put_rep {dst : Option Nat} {v : Value} (he : RepL K J env a.tmps.toList) (h : Rep K J d v) : RepL K J (putE env dst d) (a.put dst v).tmps.toList := by
  cases dst with
  | none => exact he
  | some t =>
    show RepL K J (env.set t d) (a.tmps.setIfInBounds t v).toList
    rw [Array.toList_setIfInBounds]
    exact he.set t h

theorem put_defers {dst : Option Nat} {v : Value} : (a.put dst v).defers = a.defers := by cases dst <;> rfl

theorem rep_undef : Rep K J (.tup []) undef := Rep.tup [] [] rfl (fun k h => absurd h (by simp))

theorem upon_noncall {r : Result Next} (h : OpRes lo K J hp w d hp' r) (hn : ∀ w' J' v, Post lo K J hp w K J' hp' w' → Rep K J' d v → next (a.put o.dst v) w') : o.upon P a next Q r := by
  obtain ⟨w', J', p, ⟨v, rfl, hr⟩ | ⟨rfl, rfl⟩⟩ := h
  · exact hn w' J' v p hr
  · exact hn w' J' undef p rep_undef

theorem upon_call {f : Nat} {vs : Array Value} {R : Value → World → Prop} (h : CallOk P f vs w R) (hn : ∀ v w', R v w' → next (a.put o.dst v) w') : o.upon P a next Q ((callFunc f vs).run P w) := by
  unfold CallOk at h
  split at h
  · rename_i g xs w' e
    rw [e]
    refine Calls.mono h fun en w'' he => ?_
    cases en with
    | returned v => exact hn v w'' he
    | panicked c => exact he.elim
    | outgrown => exact he.elim
  · rename_i v w' e
    rw [e]; exact hn v w' h
  · rename_i row xs w' e
    rw [e]; exact Rows.mono h fun v w'' he => hn v w'' he
  · exact h.elim

theorem call_wp {r : ROp} {args fargs : List L} {f : Nat} (hr1 : rop P o.op = some r) (hc : isCall r = true) (he : RepL K J env a.tmps.toList) (ha : opds env (rargs r) = some args) (hf : callArgs r args = some (f, fargs)) :
    ∃ vs, RepL K J fargs vs ∧ (execOp a.eval o).run P w = (callFunc f vs.toArray).run P w := by
  have hr : rop0 P o.op = some r := by
    unfold rop at hr1
    cases h0 : rop0 P o.op with
    | none => rw [h0] at hr1; cases hr1; cases hc
    | some r0 => rw [h0] at hr1; exact hr1
  have hcall : ∀ (c : Call) (g : Operand), o.op = .call c → c.callee = .value g → ∀ fn us ws, a.eval g = .func (.func fn) us ws →
      (execOp a.eval o).run P w = (callFunc fn (us ++ c.args.map a.eval ++ ws)).run P w := by
    intro c g h1 h2 fn us ws h3
    unfold execOp
    rw [h1]
    simp only [resolve, h2, h3, Deferred.ofValue, invoke, pure_bind]
  cases hop : o.op with
  | call c =>
    rw [hop] at hr
    simp only [rop0, ropCall] at hr
    split at hr
    · rename_i g hcal
      cases hr
      simp only [callArgs, Option.some.injEq, Prod.mk.injEq] at hf
      obtain ⟨rfl, rfl⟩ := hf
      refine ⟨c.args.toList.map a.eval, opds_rep he ha, ?_⟩
      rw [hcall c _ hop hcal g #[] #[] rfl]
      congr 2
      apply Array.toList_inj.1
      simp
    · rename_i x hx hcal
      cases hr
      obtain ⟨q, qs, h1, h2, rfl⟩ := omapO_cons ha
      have hq := eval_rep he h1
      have hqs := opds_rep he h2
      cases q with
      | fn fn first caps =>
        cases fn with
        | func g =>
          simp only [callArgs, Option.some.injEq, Prod.mk.injEq] at hf
          obtain ⟨rfl, rfl⟩ := hf
          generalize hv : a.eval x = v at hq
          cases hq with
          | fn _ _ _ us ws hl hl' h3 h4 =>
            refine ⟨us ++ c.args.toList.map a.eval ++ ws, ((RepL.append ⟨hl, h3⟩ hqs).append ⟨hl', h4⟩), ?_⟩
            rw [hcall c x hop hcal g us.toArray ws.toArray hv]
            congr 2
            apply Array.toList_inj.1
            simp
        | _ => simp [callArgs] at hf
      | _ => simp [callArgs] at hf
    · cases hr
    · rename_i b hb
      exfalso
      split at hr
      · split at hr <;> first | cases hr; cases hc | cases hr
      · split at hr <;> first | cases hr; cases hc | cases hr
      · simp only [Option.bind_eq_some_iff] at hr
        obtain ⟨_, _, _, _, _, _, _, _, hr⟩ := hr
        split at hr
        · cases hr
        · split at hr
          · split at hr <;> first | (cases hr; cases hc) | cases hr
          · split at hr <;> first | (cases hr; cases hc) | cases hr
          · cases hr
      · simp only [Option.bind_eq_some_iff] at hr
        obtain ⟨_, _, _, _, hr⟩ := hr
        split at hr <;> first | (cases hr; cases hc) | cases hr
      · simp only [Option.map_eq_some_iff] at hr
        obtain ⟨_, _, hr⟩ := hr
        cases hr; cases hc
      · cases hr; cases hc
      · cases hr; cases hc
      · cases hr
  | _ =>
    exfalso
    rw [hop] at hr
    simp only [rop0, ropBin, ropConv] at hr
    repeat' (first | contradiction | (split at hr) | (simp only [Option.bind_eq_some_iff, Option.map_eq_some_iff] at hr; obtain ⟨_, _, hr⟩ := hr) | (cases hr; cases hc) | (obtain ⟨_, _, hr⟩ := hr) | (cases hr))

end
end Lb
