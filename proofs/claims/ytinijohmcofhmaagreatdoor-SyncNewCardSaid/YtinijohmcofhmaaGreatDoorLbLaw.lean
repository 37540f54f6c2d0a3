/- From a run of the interpreter to a law's contract, with values that are looked at no further among the arguments. -/
import Derived.Test.YtinijohmcofhmaaGreatDoorLbFin
import Derived.ChangeSame
namespace Lb
open Go Go.ChangeShapes Go.WideShapes

section
variable {P : Program} {I : Inv} {W : World} {ρ : Nat → Value} {C : Cfg}

theorem law_run' {tp : TypeId} {S : List (Nat × List UInt8)} {J : Jn} (hrel : HRel (K0 W ρ) J (baseHp tp S) W) (hC : CfgOk P I C) (hI : I.p (K0 W ρ) J) {f k : Nat} {fn : Func} (hf : P.funcs[f]? = some fn) (hbody : fn.body.isSome = true)
    (hname : (fn.name == "runtime.NumGoroutine") = false) {args : List L} {vs : List Value} (hv : RepL (K0 W ρ) J args vs) {x : Value}
    (hrun : (acall C k (baseHp tp S).length f args (baseHp tp S)).map (·.1) = some (.v x)) (may : MemPlace → Prop) :
    Calls P f vs.toArray W fun e W' => e = .returned x ∧ W.keptBut W' may ∧ ∀ a : Addr, a.block < W.heap.size → W'.frozen? a = W.frozen? a := by
  have hnh : NoHole (baseHp tp S) := baseHp_nohole
  rw [Option.map_eq_some_iff] at hrun
  obtain ⟨⟨d, hp'⟩, hr, hd⟩ := hrun
  have hT := acall_sound hC k f _ _ _ d hp' (K0 W ρ) J W vs hnh hr hrel hI hv
  have hcf : (callFunc f vs.toArray).run P W = .ok (.enter f vs.toArray) W := by
    have hne : ¬ fn.name = "runtime.NumGoroutine" := by simpa using hname
    cases hbb : fn.body with
    | none => rw [hbb] at hbody; cases hbody
    | some c =>
      unfold callFunc
      simp [hf, hne, hbb]
  unfold CallOk at hT
  rw [hcf] at hT
  refine Calls.mono hT fun e W' he => ?_
  cases e with
  | panicked c => exact he.elim
  | outgrown => exact he.elim
  | returned v =>
    obtain ⟨K', J', hv', hp⟩ := he
    simp only at hd
    subst hd
    cases hv'
    exact ⟨rfl, kept_of_post hp may⟩

/-- a function whose run on known values is known from the first heap: its arguments may be values that are looked at no further -/
theorem tells_base' {C' : Cfg} {tp : TypeId} {S : List (Nat × List UInt8)} {J0 : Jn} (hrel0 : HRel (K0 W ρ) J0 (baseHp tp S) W) (hC : CfgOk P Inv.none C') {f : Nat} {g : CallF}
    (hg : ∀ lo args hp d hp', g lo f args hp = some (d, hp') → hp' = hp ∧ ∃ (vs : List Value) (x : Value), (∀ (K : Kn) (J : Jn) us, K.sym = ρ → RepL K J args us → us = vs) ∧ (∀ v ∈ vs, v.oneCell' = true) ∧ d = .v x ∧
      ∃ k, (acall C' k (baseHp tp S).length f (vs.map L.v) (baseHp tp S)).map (·.1) = some (.v x)) :
    Tells P (baseInv W ρ J0) f (fun lo args hp => g lo f args hp) := by
  intro lo args hp d hp' K J w us hnh hc h hI hargs
  obtain ⟨rfl, vs, x, hvs, hone, rfl, k, hk⟩ := hg lo args hp d hp' hc
  rw [Option.map_eq_some_iff] at hk
  obtain ⟨⟨d', hp2⟩, hr, hd⟩ := hk
  simp only at hd
  subst hd
  obtain rfl := hvs K J us hI.1.2 hargs
  have hrel : HRel K J0 (baseHp tp S) w := ⟨h.hold, fun o b e l => (baseHp_nolive o b e l).elim, hrel0.hole, hrel0.dom, fun o _ b _ _ _ e _ l => (baseHp_nolive o b e l).elim, fun o b _ e l => (baseHp_nolive o b e l).elim, fun o win j => by
    have h1 := hrel0.bnd o win j
    have h2 : (K0 W ρ) win.blk = some W.heap[win.blk] := Array.getElem?_eq_getElem h1
    exact (Array.getElem?_eq_some_iff.1 (h.hold _ _ (hI.1.1 _ _ h2))).1, fun o b e => (hrel0.cst o b e).mono hI.1 J0.le_refl⟩
  have hT := acall_sound hC k f _ _ _ _ hp2 K J0 w us baseHp_nohole hr hrel trivial (RepL.vs hone)
  have conv : ∀ v w', (∃ K' J', Rep K' J' (.v x) v ∧ Post (baseHp tp S).length K J0 (baseHp tp S) w K' J' hp2 w') → ∃ K' J', Rep K' J' (.v x) v ∧ Post lo K J hp' w K' J' hp' w' := by
    rintro v w' ⟨K', J', hv, p⟩
    cases hv with
    | v _ hx =>
      refine ⟨K, J, .v _ hx, Post.still h (fun b hb => p.frame b hb fun ⟨o, x, win, h1, h2, _⟩ => ?_) p.size p.os p.tape p.output⟩
      have := (List.getElem?_eq_some_iff.1 h2).1
      omega
  unfold CallOk at hT ⊢
  split at hT
  · refine Calls.mono hT fun en w'' he => ?_
    cases en with
    | returned v => exact conv v w'' he
    | panicked c => exact he.elim
    | outgrown => exact he.elim
  · exact conv _ _ hT
  · exact Rows.mono hT fun v w'' he => conv v w'' he
  · exact hT.elim

end

section
variable {H : Type} {enc : TypeId × Value → H} {P : Program}

/-- nothing that was there is turned: only the old blocks matter -/
theorem post_of_kept {f : Func} {s : ChangeSpec} {apart fresh handsOn again : Bool} {W W' : World} {args : Array Value} {v : Value} {ds gs : List (DataW H)} {before pa pv : List MemPlace}
    (hW : DataW.Whole enc P f.params.toList s.vars apart W args.toList ds gs before)
    (hres : ∀ (b : Nat) (sp : Nat → Bool) (hd : Bool), DataW.TrodAll enc P W' b sp hd f.resultTypes.toList (v.resultList f.resultTypes.size) (s.fn H (ds ++ gs)).results [])
    (hargs : ∀ sp : Nat → Bool, (∀ p ∈ before, sp p.block = true) → DataW.TrodAll enc P W' 0 sp true f.params.toList args.toList (s.fn H (ds ++ gs)).args pa)
    (hvars : ∀ sp : Nat → Bool, (∀ p ∈ before, sp p.block = true) → DataW.TrodVars enc P W' sp s.vars (s.fn H (ds ++ gs)).vars pv)
    (hps : before = pa ++ pv) (hk : W.keptBut W' (· ∈ before)) (hfz : ∀ a : Addr, a.block < W.heap.size → W'.frozen? a = W.frozen? a)
    (hok : ∀ (j : Nat) (t : TypeId) (r : Value), f.resultTypes[j]? = some t → (v.resultList f.resultTypes.size)[j]? = some r → Value.okWide P W' .any 0 t r) :
    s.post enc P f apart fresh handsOn again W args v W' := by
  have hold : ∀ p ∈ before, (fun b => decide (b < W.heap.size)) p.block = true := fun p hp => by simpa using hW.lt p hp
  have hlt := hW.lt
  refine ⟨ds, gs, before, [], pa, pv, hW, hres _ _ _, hargs _ hold, hvars _ hold, World.keptBut_mono (fun p hp => ⟨hp, ?_⟩) hk, fun _ => ?_⟩
  · rw [hps, List.mem_append] at hp
    exact Or.inr hp
  · obtain ⟨_, _, _, _, _, hz, hn⟩ := hW
    refine ⟨hok, _, _, ([] ++ pa) ++ pv, ⟨[] ++ pa, pv, trodAll_append (hargs _ (fun _ _ => rfl)) (hres _ _ _), hvars _ (fun _ _ => rfl), rfl, ?_, ?_⟩, ?_⟩
    · intro b off hp
      have hm : MemPlace.cell b off ∈ before := by rw [hps]; simpa using hp
      rw [hfz ⟨b, off, none⟩ (show b < W.heap.size from hlt _ hm)]
      exact hz b off hm
    · intro ha
      have := hn ha
      rw [hps] at this
      simpa using this
    · intro p hp _
      rw [hps]
      simpa using hp
end
end Lb
