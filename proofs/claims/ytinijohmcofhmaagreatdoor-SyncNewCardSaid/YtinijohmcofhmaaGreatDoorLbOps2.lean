/- The operations one by one: moves, making, reading, writing. -/
import Derived.Test.YtinijohmcofhmaaGreatDoorLbOps
namespace Lb
open Go

section
variable {P : Program} {w : World} {K : Kn} {J : Jn} {hp hp' : List Ob} {lo : Nat} {slot : Option Nat} {d : L} {a : Act} {env : List L} {o : Oper}

theorem op_move {x : Operand} {args : List L} {e : Eff} (ho : o.op = .move x ∨ o.op = .assign x) (h : HRel K J hp w) (he : RepL K J env a.tmps.toList)
    (ha : opds env (rargs (.mv (ropd x))) = some args) (hn : nfn (.mv (ropd x)) args (look hp (rds (.mv (ropd x)) args)) = some e) (hx : enact lo hp e slot = some (d, hp')) :
    OpRes lo K J hp w d hp' ((execOp a.eval o).run P w) := by
  obtain ⟨l, hl, rfl⟩ := opds1 ha
  cases hn
  exact OpRes.pure h hx (by rcases ho with ho | ho <;> simp [execOp, ho]) (eval_rep he hl)

theorem op_pick {c x y : Operand} {args : List L} {e : Eff} (ho : o.op = .pick c x y) (h : HRel K J hp w) (he : RepL K J env a.tmps.toList)
    (ha : opds env [ropd c, ropd x, ropd y] = some args) (hn : nfn (.pick (ropd c) (ropd x) (ropd y)) args [] = some e) (hx : enact lo hp e slot = some (d, hp')) :
    OpRes lo K J hp w d hp' ((execOp a.eval o).run P w) := by
  obtain ⟨l, m, n, hl, hm, hn', rfl⟩ := opds3 ha
  cases l <;> simp only [nfn, nfn1] at hn <;> try (cases hn; done)
  rename_i v
  cases v <;> simp only [reduceCtorEq, Option.some.injEq] at hn
  rename_i b
  subst hn
  have hc := eval_rep he hl
  generalize hcv : a.eval c = cv at hc
  cases hc
  refine OpRes.pure h hx (v := if b then a.eval x else a.eval y) ?_ ?_
  · simp [execOp, ho, hcv, asBool]
  · cases b
    · exact eval_rep he hn'
    · exact eval_rep he hm

/-- a new object of cells -/
theorem OpRes.cells {c : List L} {us : List Value} {res : Nat → L} {r : Result Next} {el : TypeId} {v : Value} {spare : List Value} (h : HRel K J hp w) (hs : SlotOk hp slot)
    (hx : enact lo hp { res := res, nw := some (.cells c) } slot = some (d, hp')) (hc : RepC K J c us)
    (hr : r = .ok (.value v) (w.alloc (.cells (us ++ spare).toArray el (0, 0))))
    (hv : Rep K (J.upd (slotOf hp slot) ⟨w.heap.size, 0, us.length + spare.length⟩) (res (slotOf hp slot)) v) : OpRes lo K J hp w d hp' r := by
  have hx' : d = res (slotOf hp slot) ∧ hp' = putOb hp (.cells c) slot := by
    cases slot with
    | none => simp only [enact, fresh, Option.some.injEq, Prod.mk.injEq] at hx; exact ⟨hx.1.symm, hx.2.symm⟩
    | some s => simp only [enact, fresh, Option.some.injEq, Prod.mk.injEq] at hx; exact ⟨hx.1.symm, hx.2.symm⟩
  obtain ⟨rfl, rfl⟩ := hx'
  refine ⟨_, _, Post.new h hs _ (.cells c) 0 (us.length + spare.length) ?_ rfl, .inl ⟨v, hr, hv⟩⟩
  refine ⟨_, el, (0, 0), us, heap_push_eq, by simp, thaw _, hc.mono K.le_refl (Jn.le_upd (h.slot_none hs)), by simp, fun k hk => ?_⟩
  simp only [Nat.zero_add, List.getElem?_toArray]
  rw [List.getElem?_append_left hk, List.getElem?_eq_getElem hk]

theorem zeroC_rep {t : TypeId} {z : List L} (hz : zeroC P t = some z) : ∃ (v : Value) (us : List Value), zeroT P t = some v ∧ v.cells = us.toArray ∧ z = us.map .v ∧ ∀ u ∈ us, u.oneCell' = true := by
  unfold zeroC at hz
  cases hv : zeroT P t with
  | none => rw [hv] at hz; cases hz
  | some v =>
    rw [hv] at hz
    simp only [Option.bind_some] at hz
    split at hz
    · rename_i hall
      cases hz
      exact ⟨v, v.cells.toList, rfl, by simp, rfl, fun u hu => by rw [← oneV_eq]; exact List.all_eq_true.1 hall u hu⟩
    · cases hz

theorem RepC.vs {us : List Value} (h : ∀ u ∈ us, u.oneCell' = true) : RepC K J (us.map .v) us := ⟨RepL.vs h, h⟩

theorem op_alloc {t : TypeId} {z : List L} {args : List L} {e : Eff} (ho : o.op = .alloc t) (hz : zeroC P t = some z) (h : HRel K J hp w) (hs : SlotOk hp slot)
    (ha : opds env [] = some args) (hn : nfn (.alloc z) args [] = some e) (hx : enact lo hp e slot = some (d, hp')) :
    OpRes lo K J hp w d hp' ((execOp a.eval o).run P w) := by
  cases omapO_nil ha
  cases hn
  obtain ⟨v, us, hv, hc, rfl, h1⟩ := zeroC_rep hz
  refine OpRes.cells (us := us) (spare := []) (el := t) h hs hx (RepC.vs h1) (v := .pointer (some ⟨w.heap.size, 0, none⟩)) ?_ (Rep.ref _ 0 ⟨w.heap.size, 0, us.length + ([] : List Value).length⟩ (by unfold Jn.upd; rw [if_pos rfl]))
  simp only [execOp, ho, Instr.alloc, Sem.run_bind, run_zeroT hv, Result.andThen_ok, newVar, newRow, hc, run_newObj, Sem.run_pure, List.append_nil]
  rfl

theorem op_box {t : TypeId} {x : Operand} {args : List L} {e : Eff} (ho : o.op = .box t x) (h : HRel K J hp w) (hs : SlotOk hp slot) (he : RepL K J env a.tmps.toList)
    (ha : opds env [ropd x] = some args) (hn : nfn (.box (ropd x)) args [] = some e) (hx : enact lo hp e slot = some (d, hp')) :
    OpRes lo K J hp w d hp' ((execOp a.eval o).run P w) := by
  obtain ⟨l, hl, rfl⟩ := opds1 ha
  simp only [nfn, nfn1] at hn
  split at hn
  · rename_i hg
    cases hn
    obtain ⟨us, hc, hr⟩ := (eval_rep he hl).cells hg
    refine OpRes.cells (us := us) (spare := []) (el := t) h hs hx hr (v := .pointer (some ⟨w.heap.size, 0, none⟩)) ?_ (Rep.ref _ 0 ⟨w.heap.size, 0, us.length + ([] : List Value).length⟩ (by unfold Jn.upd; rw [if_pos rfl]))
    simp only [execOp, ho, Instr.box, Sem.run_bind, Result.andThen_ok, newVar, newRow, hc, run_newObj, Sem.run_pure, List.append_nil]
    rfl
  · cases hn

/- literals -/

theorem foldl_set (off : Nat) : ∀ (vs : List Value) (j : Nat) (us : List Value), off + j + vs.length ≤ us.length →
    ((vs.zipIdx j).foldl (fun (cs : Array Value) p => cs.setIfInBounds (off + p.2) p.1) us.toArray) = (us.take (off + j) ++ vs ++ us.drop (off + j + vs.length)).toArray := by
  intro vs
  induction vs with
  | nil => intro j us h; simp
  | cons v vs ih =>
    intro j us h
    have hlen : off + j < us.length := by simp at h; omega
    rw [List.zipIdx_cons, List.foldl_cons]
    simp only [List.setIfInBounds_toArray]
    rw [ih (j + 1) (us.set (off + j) v) (by simp at h ⊢; omega)]
    have e1 : (us.set (off + j) v).take (off + (j + 1)) = us.take (off + j) ++ [v] := by
      rw [show off + (j + 1) = off + j + 1 by omega, List.take_succ_eq_append_getElem (by simpa using hlen), List.take_set, List.set_eq_of_length_le (by simp; omega)]
      simp
    have e2 : (us.set (off + j) v).drop (off + (j + 1) + vs.length) = us.drop (off + j + (v :: vs).length) := by
      rw [List.drop_set_of_lt (by omega)]
      congr 1
      simp; omega
    rw [e1, e2]
    simp

theorem splice_rep {c xs c' : List L} {us vs : List Value} {off : Nat} (h : RepC K J c us) (g : RepC K J xs vs) (e : splice c off xs = some c') :
    RepC K J c' (us.take off ++ vs ++ us.drop (off + vs.length)) ∧ off + vs.length ≤ us.length ∧ c'.length = c.length := by
  unfold splice at e
  split at e
  · rename_i hle
    cases e
    have h1 := h.len
    have h2 := g.len
    refine ⟨?_, by omega, by simp; omega⟩
    rw [h2]
    exact ((h.take off).append g).append (h.drop _)
  · cases e

theorem fill_sound {place : Nat → Option (Nat × Nat)} : ∀ {parts : List (Nat × Operand)} {ps : List (Nat × Nat × Opd)} {xs c c' : List L} {us : List Value}, RepL K J env a.tmps.toList →
    partsOf place parts = some ps → opds env (ps.map (·.2.2)) = some xs → RepC K J c us → fillC c ((ps.zip xs).map fun p => (p.1.1, p.1.2.1, p.2)) = some c' →
    ∃ us', Instr.fill place us.toArray (parts.map fun p => (p.1, a.eval p.2)) = some us'.toArray ∧ RepC K J c' us' := by
  intro parts
  induction parts with
  | nil =>
    intro ps xs c c' us _ hp hx hc hf
    cases omapO_nil hp
    simp [fillC] at hf
    subst hf
    exact ⟨us, rfl, hc⟩
  | cons p parts ih =>
    intro ps xs c c' us he hp hx hc hf
    obtain ⟨q, qs, h1, h2, rfl⟩ := omapO_cons hp
    cases hpl : place p.1 with
    | none => rw [hpl] at h1; cases h1
    | some pl =>
      rw [hpl] at h1
      cases h1
      obtain ⟨y, ys, h3, h4, rfl⟩ := omapO_cons (x := ropd p.2) hx
      simp only [List.zip_cons_cons, List.map_cons, fillC] at hf
      split at hf
      · rename_i hg
        simp only [Bool.and_eq_true, beq_iff_eq] at hg
        cases hsp : splice c pl.1 y.cells with
        | none => rw [hsp] at hf; cases hf
        | some c1 =>
          rw [hsp] at hf
          simp only [Option.bind_some] at hf
          obtain ⟨vs, hvc, hvr⟩ := (eval_rep he h3).cells hg.1
          obtain ⟨hr, hle, hlen⟩ := splice_rep hc hvr hsp
          obtain ⟨us', hfill, hr'⟩ := ih (us := us.take pl.1 ++ vs ++ us.drop (pl.1 + vs.length)) he h2 h4 hr hf
          refine ⟨us', ?_, hr'⟩
          have hl2 := hvr.len
          simp only [List.map_cons, Instr.fill, hpl, hvc, List.size_toArray]
          rw [if_neg (by simp; omega)]
          have hfold := foldl_set pl.1 vs 0 us (by omega)
          simp only [Nat.add_zero] at hfold
          have hfold' : (vs.toArray.zipIdx.foldl (fun (cs : Array Value) x => match x with | (c, j) => cs.setIfInBounds (pl.1 + j) c) us.toArray) = (us.take pl.1 ++ vs ++ us.drop (pl.1 + vs.length)).toArray := by
            rw [← hfold, ← Array.foldl_toList]; simp
          rw [hfold']
          exact hfill
      · cases hf

theorem run_places {fs : List Field} (h : fs.all (fun f => (sizeT P f.type).isSome) = true) :
    (fs.toArray.mapM fun (f : Field) => (do pure (f.offset, ← Go.sizeOf f.type) : Sem (Nat × Nat))).run P w = .ok (fs.map fun f => (f.offset, ((sizeT P f.type).getD 0))).toArray w := by
  rw [List.mapM_toArray]
  have : ∀ (l : List Field), l.all (fun f => (sizeT P f.type).isSome) = true →
      (l.mapM fun f => (do pure (f.offset, ← Go.sizeOf f.type) : Sem (Nat × Nat))).run P w = .ok (l.map fun f => (f.offset, ((sizeT P f.type).getD 0))) w := by
    intro l
    induction l with
    | nil => intro _; simp
    | cons f l ih =>
      intro hl
      simp only [List.all_cons, Bool.and_eq_true] at hl
      obtain ⟨n, hn⟩ := Option.isSome_iff_exists.1 hl.1
      simp only [List.mapM_cons, Sem.run_bind, run_sizeT hn, Result.andThen_ok, Sem.run_pure, ih hl.2, List.map_cons, hn, Option.getD_some]
  simp only [Sem.run_map, this fs h, Result.andThen_ok]

theorem op_build {t : TypeId} {parts : Array (Nat × Operand)} {r : ROp} {args : List L} {e : Eff} (ho : o.op = .build t parts) (hrop : rop0 P (.build t parts) = some r) (h : HRel K J hp w)
    (he : RepL K J env a.tmps.toList) (ha : opds env (rargs r) = some args) (hn : nfn r args (look hp (rds r args)) = some e) (hx : enact lo hp e slot = some (d, hp')) :
    OpRes lo K J hp w d hp' ((execOp a.eval o).run P w) := by
  simp only [rop0] at hrop
  split at hrop
  · rename_i fs hu
    split at hrop
    · rename_i hall
      cases hz : zeroC P t with
      | none => rw [hz] at hrop; cases hrop
      | some z =>
        rw [hz] at hrop
        simp only [Option.bind_some] at hrop
        cases hps : partsOf (fun i => (fs[i]?).bind fun f => (sizeT P f.type).map fun n => (f.offset, n)) parts.toList with
        | none => rw [hps] at hrop; cases hrop
        | some ps =>
          rw [hps] at hrop
          cases hrop
          simp only [nfn, nfn1] at hn
          cases hf : fillC z ((ps.zip args).map fun p => (p.1.1, p.1.2.1, p.2)) with
          | none => rw [hf] at hn; cases hn
          | some cs =>
            rw [hf] at hn
            cases hn
            obtain ⟨v, us, hv, hc, rfl, h1⟩ := zeroC_rep hz
            obtain ⟨us', hfill, hr⟩ := fill_sound he hps ha (RepC.vs h1) hf
            have hpl : (((fs.toList.map fun f => (f.offset, ((sizeT P f.type).getD 0))).toArray[·]?) : Nat → Option (Nat × Nat)) =
                fun i => (fs[i]?).bind fun f => (sizeT P f.type).map fun n => (f.offset, n) := by
              funext i
              simp only [List.getElem?_toArray, List.getElem?_map, Array.getElem?_toList]
              cases hi : fs[i]? with
              | none => rfl
              | some f =>
                have hf' : f ∈ fs.toList := by
                  have := Array.mem_of_getElem? hi
                  simpa using this
                have := List.all_eq_true.1 hall f hf'
                obtain ⟨n, hn⟩ := Option.isSome_iff_exists.1 this
                simp [hn]
            refine OpRes.pure h hx (v := .agg us'.toArray) ?_ (.agg cs us' hr.1.1 hr.2 hr.1.2)
            have hrun := run_places (P := P) (w := w) (fs := fs.toList) (by simpa using hall)
            simp only [Array.toArray_toList] at hrun
            simp only [execOp, ho, Instr.build, Sem.run_bind, run_zeroT hv, Result.andThen_ok, run_underlying hu, hrun, hc, Array.toList_map]
            rw [hpl, hfill]
            simp
    · cases hrop
  · rename_i n el hu
    cases hz : zeroC P t with
    | none => rw [hz] at hrop; cases hrop
    | some z =>
      rw [hz] at hrop
      simp only [Option.bind_some] at hrop
      cases hse : sizeT P el with
      | none => rw [hse] at hrop; cases hrop
      | some m =>
        rw [hse] at hrop
        simp only [Option.bind_some] at hrop
        cases hps : partsOf (fun i => some (i * m, m)) parts.toList with
        | none => rw [hps] at hrop; cases hrop
        | some ps =>
          rw [hps] at hrop
          cases hrop
          simp only [nfn, nfn1] at hn
          cases hf : fillC z ((ps.zip args).map fun p => (p.1.1, p.1.2.1, p.2)) with
          | none => rw [hf] at hn; cases hn
          | some cs =>
            rw [hf] at hn
            cases hn
            obtain ⟨v, us, hv, hc, rfl, h1⟩ := zeroC_rep hz
            obtain ⟨us', hfill, hr⟩ := fill_sound he hps ha (RepC.vs h1) hf
            refine OpRes.pure h hx (v := .agg us'.toArray) ?_ (.agg cs us' hr.1.1 hr.2 hr.1.2)
            simp only [execOp, ho, Instr.build, Sem.run_bind, run_zeroT hv, Result.andThen_ok, run_underlying hu, run_sizeT hse, hc, Array.toList_map, hfill, Sem.run_pure]
  · cases hrop

end
end Lb
