/- From a run of the interpreter to a law's contract. -/
import Derived.Test.YtinijohmcofhmaaGreatDoorLbBase
namespace Lb
open Go

section
variable {P : Program} {I : Inv} {W : World} {ρ : Nat → Value} {C : Cfg}

theorem baseHp_nohole {tp : TypeId} {S : List (Nat × List UInt8)} : NoHole (baseHp tp S) := by
  intro o e
  cases o with
  | zero => simp [baseHp] at e
  | succ k => simp [baseHp] at e

/-- a law's run: what it returns, and that nothing is turned that was there -/
theorem law_run {tp : TypeId} {S : List (Nat × List UInt8)} {J : Jn} (hrel : HRel (K0 W ρ) J (baseHp tp S) W) (hC : CfgOk P I C) (hI : I.p (K0 W ρ) J) {f k : Nat} {fn : Func} (hf : P.funcs[f]? = some fn) (hbody : fn.body.isSome = true)
    (hname : (fn.name == "runtime.NumGoroutine") = false) {vs : List Value} (hv : ∀ v ∈ vs, v.oneCell' = true) {x : Value}
    (hrun : (acall C k (baseHp tp S).length f (vs.map L.v) (baseHp tp S)).map (·.1) = some (.v x)) (may : MemPlace → Prop) :
    Calls P f vs.toArray W fun e W' => e = .returned x ∧ W.keptBut W' may ∧ ∀ a : Addr, a.block < W.heap.size → W'.frozen? a = W.frozen? a := by
  have hnh : NoHole (baseHp tp S) := baseHp_nohole
  rw [Option.map_eq_some_iff] at hrun
  obtain ⟨⟨d, hp'⟩, hr, hd⟩ := hrun
  have hT := acall_sound hC k f _ _ _ d hp' (K0 W ρ) J W vs hnh hr hrel hI (RepL.vs hv)
  have hcf : (callFunc f vs.toArray).run P W = .ok (.enter f vs.toArray) W := by
    have hne : ¬ fn.name = "runtime.NumGoroutine" := by simpa using hname
    cases hbb : fn.body with
    | none => rw [hbb] at hbody; cases hbody
    | some c =>
      unfold callFunc
      simp [hf, hne, hbb]
  unfold CallOk at hT
  rw [hcf] at hT
  refine Calls.mono hT fun e W' he => ?_
  cases e with
  | panicked c => exact he.elim
  | outgrown => exact he.elim
  | returned v =>
    obtain ⟨K', J', hv', hp⟩ := he
    simp only at hd
    subst hd
    cases hv'
    exact ⟨rfl, kept_of_post hp may⟩

/-- nothing that is there is turned: what an abstract heap says still holds -/
theorem Post.still {lo : Nat} {K : Kn} {J : Jn} {hp : List Ob} {w w' : World} (h : HRel K J hp w) (hb : ∀ b, b < w.heap.size → w'.heap[b]? = w.heap[b]?) (hs : w.heap.size ≤ w'.heap.size) (ho : w'.os = w.os) (ht : w'.tape = w.tape) (hout : w'.output = w.output) :
    Post lo K J hp w K J hp w' := by
  refine ⟨⟨fun b o e => ?_, fun o b e l => ?_, h.hole, h.dom, h.inj, h.free, fun o win j => Nat.lt_of_lt_of_le (h.bnd o win j) hs, h.cst⟩, K.le_refl, J.le_refl, Nat.le_refl _, ho, ht, hout, hs, fun b hlt _ => hb b hlt, fun _ h => .inl h, fun _ h => .inl h, fun _ _ _ => rfl, fun _ h => h⟩
  · have hk := h.hold b o e
    rw [hb b (Array.getElem?_eq_some_iff.1 hk).1]; exact hk
  · obtain ⟨win, j, ha⟩ := h.ob o b e l
    exact ⟨win, j, ha.mono K.le_refl J.le_refl (hb _ (h.bnd o win j))⟩

def Inv.none : Inv := ⟨fun _ _ => True, fun _ _ _ => trivial⟩

/-- what the row lists stays known -/
def baseInv (W : World) (ρ : Nat → Value) (J0 : Jn) : Inv := ⟨fun K J => (K0 W ρ).le K ∧ J0.le J, fun h hk hj => ⟨Kn.le_trans h.1 hk, Jn.le_trans h.2 hj⟩⟩

theorem baseHp_nolive {tp : TypeId} {S : List (Nat × List UInt8)} (o : Nat) (b : Ob) (e : (baseHp tp S)[o]? = some b) (l : b.live = true) : False := by
  cases o with
  | zero => simp [baseHp] at e; subst e; simp [Ob.live] at l
  | succ k =>
    simp [baseHp] at e
    obtain ⟨p, q, _, rfl⟩ := e
    simp [Ob.live] at l

theorem RepL.plain {K : Kn} {J : Jn} : ∀ (vs us : List Value), RepL K J (vs.map L.v) us → us = vs ∧ ∀ v ∈ vs, v.oneCell' = true
  | [], us, hh => by cases hh.out_nil; exact ⟨rfl, by simp⟩
  | v :: vs, us, hh => by
    obtain ⟨u, us', rfl, hu, hus⟩ := hh.out_cons
    obtain ⟨rfl, h2⟩ := RepL.plain vs us' hus
    cases hu with
    | v _ h1 => exact ⟨rfl, by simpa using ⟨h1, h2⟩⟩

/-- a function whose run on plain values is known from the first heap -/
theorem tells_base {C' : Cfg} {tp : TypeId} {S : List (Nat × List UInt8)} {J0 : Jn} (hrel0 : HRel (K0 W ρ) J0 (baseHp tp S) W) (hC : CfgOk P Inv.none C') {f : Nat} {g : CallF}
    (hg : ∀ lo args hp d hp', g lo f args hp = some (d, hp') → hp' = hp ∧ ∃ (vs : List Value) (x : Value), args = vs.map L.v ∧ d = .v x ∧ ∃ k, (acall C' k (baseHp tp S).length f (vs.map L.v) (baseHp tp S)).map (·.1) = some (.v x)) :
    Tells P (baseInv W ρ J0) f (fun lo args hp => g lo f args hp) := by
  intro lo args hp d hp' K J w us hnh hc h hI hargs
  obtain ⟨rfl, vs, x, rfl, rfl, k, hk⟩ := hg lo args hp d hp' hc
  rw [Option.map_eq_some_iff] at hk
  obtain ⟨⟨d', hp2⟩, hr, hd⟩ := hk
  simp only at hd
  subst hd
  obtain ⟨rfl, hone⟩ := RepL.plain vs us hargs
  have hrel : HRel K J0 (baseHp tp S) w := ⟨h.hold, fun o b e l => (baseHp_nolive o b e l).elim, hrel0.hole, hrel0.dom, fun o _ b _ _ _ e _ l => (baseHp_nolive o b e l).elim, fun o b _ e l => (baseHp_nolive o b e l).elim, fun o win j => by
    have h1 := hrel0.bnd o win j
    have h2 : (K0 W ρ) win.blk = some W.heap[win.blk] := Array.getElem?_eq_getElem h1
    exact (Array.getElem?_eq_some_iff.1 (h.hold _ _ (hI.1.1 _ _ h2))).1, fun o b e => (hrel0.cst o b e).mono hI.1 J0.le_refl⟩
  have hT := acall_sound hC k f _ _ _ _ hp2 K J0 w us baseHp_nohole hr hrel trivial (RepL.vs hone)
  have conv : ∀ v w', (∃ K' J', Rep K' J' (.v x) v ∧ Post (baseHp tp S).length K J0 (baseHp tp S) w K' J' hp2 w') → ∃ K' J', Rep K' J' (.v x) v ∧ Post lo K J hp' w K' J' hp' w' := by
    rintro v w' ⟨K', J', hv, p⟩
    cases hv with
    | v _ hx =>
      refine ⟨K, J, .v _ hx, Post.still h (fun b hb => p.frame b hb fun ⟨o, x, win, h1, h2, _⟩ => ?_) p.size p.os p.tape p.output⟩
      have := (List.getElem?_eq_some_iff.1 h2).1
      omega
  unfold CallOk at hT ⊢
  split at hT
  · refine Calls.mono hT fun en w'' he => ?_
    cases en with
    | returned v => exact conv v w'' he
    | panicked c => exact he.elim
    | outgrown => exact he.elim
  · exact conv _ _ hT
  · exact Rows.mono hT fun v w'' he => conv v w'' he
  · exact hT.elim

end
end Lb
