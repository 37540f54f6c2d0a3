/- Functions of the library by what they come to: maps.clone, errors.Is. -/
import Derived.Test.YtinijohmcofhmaaGreatDoorLbSim4
import Derived.Laws.Externs
import Derived.LaidEql
namespace Lb
open Go

section
variable {P : Program} {I : Inv}

def orcClone : CallF := fun _ _ args hp =>
  match args with
  | [.ifc t (.omap o)] => match hp[o]? with
    | some (.map es clock) => some (.ifc t (.omap hp.length), hp ++ [.map es clock])
    | _ => none
  | _ => none

theorem tells_clone {f : Nat} {fn : Func} (hf : P.funcs[f]? = some fn) (hname : (fn.name == "runtime.NumGoroutine") = false) (hb : fn.body.isNone = true) (hn : Extern.findNext fn = none)
    (he : Extern.find fn = some Extern.MapsClone.clone) : Tells P I f (fun lo args hp => orcClone lo f args hp) := by
  intro lo args hp d hp' K J w vs hnh hc h _ hargs
  dsimp only [orcClone] at hc
  split at hc
  · rename_i t o
    split at hc
    · rename_i es clock heq
      cases hc
      obtain ⟨v, vs', rfl, hv, hvs⟩ := hargs.out_cons
      cases hvs.out_nil
      cases hv with
      | ifc _ _ u hu =>
        cases hu with
        | omap _ win hj =>
          obtain ⟨win', hj', arr, g1, g2⟩ := h.ob o _ heq rfl
          rw [hj] at hj'
          cases hj'
          have hgo : (getObj win.blk).run P w = .ok (.map arr clock) w := by simp [getObj, Sem.run, g1]
          have hrun : (Extern.MapsClone.clone #[.iface t (.map (some win.blk))]).run P w = .ok (.iface t (.map (some w.heap.size))) (w.alloc (.map arr clock)) := by
            show ((do
              let .map entries clock ← getObj win.blk | stuck "maps.clone: a map expected"
              pure (Value.iface t (.map (some (← newObj (.map entries clock))))) : Sem Value).run P w) = _
            simp [hgo, newObj, Sem.run]
          unfold CallOk
          rw [show ([Value.iface t (.map (some win.blk))].toArray) = #[.iface t (.map (some win.blk))] from rfl, run_callFunc_extern hf hname hb hn he, hrun]
          refine ⟨K, J.upd hp.length ⟨w.heap.size, 0, 0⟩, .ifc _ _ _ (.omap _ ⟨w.heap.size, 0, 0⟩ (by unfold Jn.upd; rw [if_pos rfl])), ?_⟩
          exact Post.new (slot := none) h trivial (.map arr clock) (.map es clock) 0 0 ⟨arr, heap_push_eq, g2.mono K.le_refl (Jn.le_upd (h.dom _ (Nat.le_refl _)))⟩ rfl
    · cases hc
  · cases hc

/-- do two errors' texts differ? -/
def differ : List L → L → Bool
  | [.v (.string a)], .v (.string b) => a.data.toList != b.data.toList
  | _, _ => false

def orcIs (te : TypeId) : CallF := fun _ _ args hp =>
  match args with
  | [.ifc t (.ref i 0), .ifc t' (.ref j 0)] => if t = te ∧ t' = te then match hp[j]? with
      | some (.const [cj]) => if i = j then some (.v (.bool true), hp) else match hp[i]? with
        | some (.const ci) => if differ ci cj then some (.v (.bool false), hp) else none
        | some (.cells (_ :: _)) => some (.v (.bool false), hp)
        | _ => none
      | _ => none
    else none
  | _ => none

theorem run_sameAddr_far {w : World} {a b : Addr} {ca cb : Array Value} {ta tb : TypeId} {fa : Nat × Nat} (hne : a ≠ b) (ha : w.heap[a.block]? = some (.cells ca ta fa)) (hb : w.heap[b.block]? = some (.cells cb tb (0, 0)))
    (hs : cb.size ≠ 0) (hs' : ca.size ≠ 0) : (sameAddr a b).run P w = .ok false w := by
  by_cases hbl : a.block = b.block
  · simp [sameAddr, hbl, hne]
  · simp [sameAddr, hbl, World.frozen?, ha, hb, noView, viewAt, World.shape?, mayBeOne, stringish, hs, hs']

theorem run_eql_iface_far {w : World} {ti tp te : TypeId} {ms : Array (String × TypeId)} {i j : TypeInfo} {a b : Addr} {ca cb : Array Value} {ta tb : TypeId} {fa : Nat × Nat}
    (hi : P.underlying ti = some (.interface ms)) (hp : P.underlying tp = some (.pointer te)) (hinfo : P.info? tp = some i) (hcomp : i.comparable = true) (hte : P.info? te = some j) (hsz : j.size ≠ 0)
    (hne : a ≠ b) (ha : w.heap[a.block]? = some (.cells ca ta fa)) (hb : w.heap[b.block]? = some (.cells cb tb (0, 0))) (hs : cb.size ≠ 0) (hs' : ca.size ≠ 0) :
    (binOp .eql ti (.iface tp (.pointer (some a))) (.iface tp (.pointer (some b)))).run P w = .ok (.bool false) w := by
  have h : ∀ d : Nat, (Op.equalIn (d + 2) ti (.iface tp (.pointer (some a))) (.iface tp (.pointer (some b)))).run P w = .ok false w := fun d => by
    simp [Op.equalIn, run_underlying hi, run_underlying hp, typeInfo, hinfo, hcomp, Go.sizeOf, hte, hsz, run_sameAddr_far hne ha hb hs hs']
  simp only [binOp]
  simp [Op.equal, Op.maxDepth, h 9998]

theorem tells_is {f : Nat} {fn : Func} {te ti tp : TypeId} {ms : Array (String × TypeId)} {inf j : TypeInfo} (hf : P.funcs[f]? = some fn) (hname : (fn.name == "runtime.NumGoroutine") = false) (hb : fn.body.isSome = true)
    (hi : P.underlying ti = some (.interface ms)) (hp : P.underlying te = some (.pointer tp)) (hinfo : P.info? te = some inf) (hcomp : inf.comparable = true) (htp : P.info? tp = some j) (hsz : j.size ≠ 0)
    (hsame : ∀ (a : Addr) (w : World), Calls P f #[.iface te (.pointer (some a)), .iface te (.pointer (some a))] w fun e w' => e = .returned (.bool true) ∧ w' = w)
    (hother : ∀ (a b : Addr) (w : World), (binOp .eql ti (.iface te (.pointer (some a))) (.iface te (.pointer (some b)))).run P w = .ok (.bool false) w →
      Calls P f #[.iface te (.pointer (some a)), .iface te (.pointer (some b))] w fun e w' => e = .returned (.bool false) ∧ w' = w) :
    Tells P I f (fun lo args hp => orcIs te lo f args hp) := by
  intro lo args hp' d hp'' K J w vs hnh hc h _ hargs
  have hcf : ∀ xs, (callFunc f xs).run P w = .ok (.enter f xs) w := by
    intro xs
    have hne : ¬ fn.name = "runtime.NumGoroutine" := by simpa using hname
    cases hbb : fn.body with
    | none => rw [hbb] at hb; cases hb
    | some c =>
      unfold callFunc
      simp [hf, hne, hbb]
  dsimp only [orcIs] at hc
  split at hc
  · rename_i t i t' j
    split at hc
    · rename_i ht
      obtain ⟨rfl, rfl⟩ := ht
      obtain ⟨v1, vs1, rfl, hv1, hvs1⟩ := hargs.out_cons
      obtain ⟨v2, vs2, rfl, hv2, hvs2⟩ := hvs1.out_cons
      cases hvs2.out_nil
      cases hv1 with
      | ifc _ _ u1 hu1 =>
      cases hu1 with
      | ref _ _ win1 hj1 =>
      cases hv2 with
      | ifc _ _ u2 hu2 =>
      cases hu2 with
      | ref _ _ win2 hj2 =>
        split at hc
        · rename_i cj heqj
          obtain ⟨win', us, arrj, el, k0, k2, k3, k4⟩ := h.cst j _ heqj
          rw [hj2] at k0
          cases k0
          have hwb := h.hold _ _ k2
          unfold CallOk
          rw [hcf]
          split at hc
          · rename_i hij
            subst hij
            rw [hj1] at hj2
            cases hj2
            cases hc
            refine Calls.mono (hsame ⟨win1.blk, win1.base + 0, none⟩ w) fun e w' he => ?_
            obtain ⟨rfl, rfl⟩ := he
            exact ⟨K, J, .v _ rfl, Post.refl h⟩
          · rename_i hij
            have hsz0 : arrj.size ≠ 0 := by
              have hl : us.length = 1 := k3.len
              have := (Array.getElem?_eq_some_iff.1 (k4 0 (by omega))).1
              omega
            have fin : ∀ (ca : Array Value) (ta : TypeId) (fa : Nat × Nat), w.heap[win1.blk]? = some (.cells ca ta fa) → ca.size ≠ 0 → (⟨win1.blk, win1.base + 0, none⟩ : Addr) ≠ ⟨win2.blk, win2.base + 0, none⟩ → d = .v (.bool false) → hp'' = hp' →
                Calls P f #[.iface t' (.pointer (some ⟨win1.blk, win1.base + 0, none⟩)), .iface t' (.pointer (some ⟨win2.blk, win2.base + 0, none⟩))] w fun
                  | .returned v, w'' => ∃ K' J', Rep K' J' d v ∧ Post lo K J hp' w K' J' hp'' w''
                  | _, _ => False := by
              intro ca ta fa ha hca hne hd hhp
              subst hd; subst hhp
              have heq := run_eql_iface_far (P := P) (a := ⟨win1.blk, win1.base + 0, none⟩) (b := ⟨win2.blk, win2.base + 0, none⟩) hi hp hinfo hcomp htp hsz hne ha hwb hsz0 hca
              refine Calls.mono (hother _ _ w heq) fun e w' he => ?_
              obtain ⟨rfl, rfl⟩ := he
              exact ⟨K, J, .v _ rfl, Post.refl h⟩
            split at hc
            · rename_i ci heqi
              obtain ⟨win', us1, arri, el1, m0, m2, m3, m4⟩ := h.cst i _ heqi
              rw [hj1] at m0
              cases m0
              split at hc
              · rename_i hdif
                cases hc
                have hw1 := h.hold _ _ m2
                unfold differ at hdif
                split at hdif
                · rename_i sa sb
                  obtain ⟨x1, xs1, rfl, hx1, hxs1⟩ := m3.1.out_cons
                  cases hxs1.out_nil
                  obtain ⟨x2, xs2, rfl, hx2, hxs2⟩ := k3.1.out_cons
                  cases hxs2.out_nil
                  cases hx1
                  cases hx2
                  refine fin _ _ _ hw1 (by have := (Array.getElem?_eq_some_iff.1 (m4 0 (by simp))).1; omega) (fun e => ?_) rfl rfl
                  simp only [Addr.mk.injEq, Nat.add_zero, and_true] at e
                  have q1 := m4 0 (by simp)
                  have q2 := k4 0 (by simp)
                  rw [e.1, hwb] at hw1
                  simp only [Option.some.injEq, Obj.cells.injEq] at hw1
                  rw [← hw1.1, e.2, q2] at q1
                  simp at q1
                  subst q1
                  simp at hdif
                · cases hdif
              · cases hc
            · rename_i ci cr heqi
              cases hc
              obtain ⟨win', m0, arr, e1, fz, us1, m1, m2, m3, m4, m5, m6⟩ := h.ob i _ heqi rfl
              rw [hj1] at m0
              cases m0
              have hfree := h.free i _ _ heqi rfl hj1
              refine fin _ _ _ m1 (by have := m4.len; simp at this; omega) (fun e => ?_) rfl rfl
              simp only [Addr.mk.injEq] at e
              rw [e.1, k2] at hfree; cases hfree
            · cases hc
        · cases hc
    · cases hc
  · cases hc

end
end Lb
