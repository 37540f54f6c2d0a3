/- Maps, gone through. -/
import Derived.Test.YtinijohmcofhmaaGreatDoorLbOps11
namespace Lb
open Go

section
variable {P : Program} {w : World} {K : Kn} {J : Jn} {hp hp' : List Ob} {lo : Nat} {slot : Option Nat} {d : L} {a : Act} {env : List L} {o : Oper}

theorem putOb_of {b : Ob} {e : Eff} (hw : e.wr = none) (hn : e.nw = some b) (hx : enact lo hp e slot = some (d, hp')) : d = e.res (slotOf hp slot) ∧ hp' = putOb hp b slot := by
  unfold enact at hx
  rw [hw] at hx
  simp only [fresh, hn] at hx
  cases slot with
  | none => simp only [Option.some.injEq, Prod.mk.injEq] at hx; exact ⟨hx.1.symm, hx.2.symm⟩
  | some s => simp only [Option.some.injEq, Prod.mk.injEq] at hx; exact ⟨hx.1.symm, hx.2.symm⟩

theorem op_rangeMap {t kt et : TypeId} {x : Operand} {args : List L} {e : Eff} (ho : o.op = .range t x) (hu : P.underlying t = some (.map kt et)) (h : HRel K J hp w) (hs : SlotOk hp slot)
    (he : RepL K J env a.tmps.toList) (ha : opds env [ropd x] = some args) (hn : nfn (.rangeMap (ropd x)) args (look hp (rds (.rangeMap (ropd x)) args)) = some e) (hx : enact lo hp e slot = some (d, hp')) :
    OpRes lo K J hp w d hp' ((execOp a.eval o).run P w) := by
  obtain ⟨l, hl, rfl⟩ := opds1 ha
  have r1 := eval_rep he hl
  generalize hv : a.eval x = v at r1
  cases l with
  | v z =>
    cases z with
    | map q =>
      cases q with
      | none =>
        simp only [nfn, nfnM, Option.some.injEq] at hn
        subst hn
        obtain ⟨rfl, rfl⟩ := putOb_of rfl rfl hx
        cases r1
        refine ⟨_, _, Post.new h hs (.mapIter none 0 #[] 0) .miter0 0 0 ⟨heap_push_eq, rfl⟩ rfl, .inl ⟨_, ?_, Rep.ref _ 0 ⟨w.heap.size, 0, 0⟩ (by unfold Jn.upd; rw [if_pos rfl])⟩⟩
        simp [execOp, ho, hv, Instr.range, run_underlying hu]
      | some q => simp [nfn, nfnM] at hn
    | _ => simp [nfn, nfnM] at hn
  | omap ob =>
    simp only [nfn, nfnM, rds, look, List.map_cons, List.map_nil] at hn
    split at hn
    · rename_i es clock heq
      simp only [List.cons.injEq, and_true] at heq
      simp only [Option.some.injEq] at hn
      subst hn
      obtain ⟨rfl, rfl⟩ := putOb_of rfl rfl hx
      obtain ⟨win, hj, arr, g1, g2⟩ := h.ob ob _ heq rfl
      cases r1 with
      | omap _ win' hj' =>
        rw [hj] at hj'
        cases hj'
        have hgo : (getObj win.blk).run P w = .ok (.map arr clock) w := by simp [getObj, Sem.run, g1]
        refine ⟨_, _, Post.new h hs (.mapIter (some win.blk) clock #[] clock) (.miter ob clock [] clock) 0 0 ⟨win, Jn.le_upd (h.slot_none hs) _ _ hj, heap_push_eq, rfl⟩ rfl, .inl ⟨_, ?_, Rep.mit _ ob ⟨w.heap.size, 0, 0⟩ (by unfold Jn.upd; rw [if_pos rfl]) rfl⟩⟩
        simp [execOp, ho, hv, Instr.range, run_underlying hu, hgo]
    · cases hn
  | _ => simp [nfn, nfnM] at hn

theorem op_capSl {t : TypeId} {x : Operand} {args : List L} {e : Eff} (ho : o.op = .call { callee := .builtin .cap, args := #[x], argTypes := #[t] }) {el : TypeId} (hu : P.underlying t = some (.slice el)) (h : HRel K J hp w)
    (he : RepL K J env a.tmps.toList) (ha : opds env [ropd x] = some args) (hn : nfn (.capSl (ropd x)) args [] = some e) (hx : enact lo hp e slot = some (d, hp')) :
    OpRes lo K J hp w d hp' ((execOp a.eval o).run P w) := by
  obtain ⟨l, hl, rfl⟩ := opds1 ha
  have r1 := eval_rep he hl
  generalize hv : a.eval x = v at r1
  cases l with
  | v z =>
    cases z with
    | slice q n c =>
      cases q with
      | none =>
        simp only [nfn, nfnM, Option.some.injEq] at hn
        subst hn
        cases r1
        exact OpRes.pure h hx (v := .int .i64 c) (by simp [execOp, ho, resolve, invoke, builtin, hv, Builtin.cap_, run_underlying hu, goInt]) (.v _ rfl)
      | some q => simp [nfn, nfnM] at hn
    | _ => simp [nfn, nfnM] at hn
  | _ => simp [nfn, nfnM] at hn

/-- one entry's candidacy -/
def EntRel (K : Kn) (J : Jn) (e : L × L × Nat) (m : MapEntry) : Prop := Rep K J e.1 m.key ∧ Rep K J e.2.1 m.val ∧ m.born = e.2.2

theorem MapRel.cases {es : List (L × L × Nat)} {arr : List MapEntry} (h : MapRel K J es arr) : (es = [] ∧ arr = []) ∨ ∃ e es' m arr', es = e :: es' ∧ arr = m :: arr' ∧ EntRel K J e m ∧ MapRel K J es' arr' := by
  cases es with
  | nil => cases arr with
    | nil => exact .inl ⟨rfl, rfl⟩
    | cons m arr => simp [MapRel] at h
  | cons e es => cases arr with
    | nil => simp [MapRel] at h
    | cons m arr => exact .inr ⟨e, es, m, arr, rfl, rfl, h.2 0 (by simp) (by simp), ⟨by simpa using h.1, fun k a b => h.2 (k + 1) (by simp; omega) (by simp; omega)⟩⟩

theorem MapRel.cons {es : List (L × L × Nat)} {arr : List MapEntry} {e : L × L × Nat} {m : MapEntry} (h : EntRel K J e m) (t : MapRel K J es arr) : MapRel K J (e :: es) (m :: arr) :=
  ⟨by simp [t.1], fun k a b => by cases k with | zero => exact h | succ k => exact t.2 k (by simpa using a) (by simpa using b)⟩

theorem MapRel.filter {p : Nat → Bool} : ∀ {es : List (L × L × Nat)} {arr : List MapEntry}, MapRel K J es arr → MapRel K J (es.filter fun e => p e.2.2) (arr.filter fun m => p m.born)
  | [], arr, h => by
    rcases h.cases with ⟨_, rfl⟩ | ⟨_, _, _, _, h, _⟩
    · exact h
    · cases h
  | e :: es, arr, h => by
    rcases h.cases with ⟨h1, _⟩ | ⟨e', es', m, arr', h1, rfl, h2, h3⟩
    · cases h1
    · cases h1
      have ih := MapRel.filter (p := p) h3
      simp only [List.filter_cons, h2.2.2]
      cases p e.2.2
      · exact ih
      · exact MapRel.cons h2 ih

theorem MapRel.all {p : Nat → Bool} : ∀ {es : List (L × L × Nat)} {arr : List MapEntry}, MapRel K J es arr → (arr.all fun m => p m.born) = es.all fun e => p e.2.2
  | [], arr, h => by
    rcases h.cases with ⟨_, rfl⟩ | ⟨_, _, _, _, h, _⟩
    · rfl
    · cases h
  | e :: es, arr, h => by
    rcases h.cases with ⟨h1, _⟩ | ⟨e', es', m, arr', h1, rfl, h2, h3⟩
    · cases h1
    · cases h1
      simp only [List.all_cons, h2.2.2, MapRel.all h3]

theorem MapRel.append {es fs : List (L × L × Nat)} {arr brr : List MapEntry} (h : MapRel K J es arr) (g : MapRel K J fs brr) : MapRel K J (es ++ fs) (arr ++ brr) := by
  have e := h.1
  refine ⟨by simp [h.1, g.1], fun j h1 h2 => ?_⟩
  by_cases hj : j < es.length
  · rw [List.getElem_append_left hj, List.getElem_append_left (by omega)]; exact h.2 _ _ _
  · rw [List.getElem_append_right (by omega), List.getElem_append_right (by omega)]
    have := g.2 (j - es.length) (by simp at h1; omega) (by simp at h2; omega)
    simpa only [e] using this

theorem MapRel.find {p : Nat → Bool} : ∀ {es : List (L × L × Nat)} {arr : List MapEntry} {e : L × L × Nat}, MapRel K J es arr → (es.find? fun e => p e.2.2) = some e → ∃ m, (arr.find? fun m => p m.born) = some m ∧ EntRel K J e m
  | [], arr, e, h, hf => by simp at hf
  | x :: es, arr, e, h, hf => by
    rcases h.cases with ⟨h1, _⟩ | ⟨e', es', m, arr', h1, rfl, h2, h3⟩
    · cases h1
    · cases h1
      simp only [List.find?_cons, h2.2.2] at hf ⊢
      cases hp : p x.2.2
      · rw [hp] at hf
        exact MapRel.find h3 hf
      · rw [hp] at hf
        cases hf
        exact ⟨m, rfl, h2⟩

def candL (arr : List MapEntry) (since : Nat) (seen : List Nat) : List (Option MapEntry) :=
  (if ((arr.filter fun e => !seen.contains e.born).filter fun e => decide (e.born < since)).isEmpty then [none] else []) ++
    (((arr.filter fun e => !seen.contains e.born).filter fun e => decide (e.born < since)) ++ ((arr.filter fun e => !seen.contains e.born).filter fun e => decide (e.born ≥ since))).map some

theorem cand_arr (arr : Array MapEntry) (since : Nat) (seen : List Nat) :
    (if ((arr.filter fun e => !seen.toArray.contains e.born).filter fun x => decide (x.born < since)).isEmpty = true then #[none] else #[]) ++
      Array.map some (((arr.filter fun e => !seen.toArray.contains e.born).filter fun x => decide (x.born < since)) ++ ((arr.filter fun e => !seen.toArray.contains e.born).filter fun x => decide (x.born ≥ since))) = (candL arr.toList since seen).toArray := by
  apply Array.toList_inj.1
  simp only [Array.toList_append, Array.toList_map, Array.toList_filter, candL, List.contains_toArray]
  congr 1
  simp only [Array.isEmpty_iff, ← Array.toList_eq_nil_iff, Array.toList_filter, List.isEmpty_iff, List.contains_toArray]
  split <;> rfl

theorem cand_rel {es : List (L × L × Nat)} {arr : List MapEntry} {since : Nat} {seen : List Nat} (h : MapRel K J es arr) :
    (cands es since seen = [none] → candL arr since seen = [none]) ∧ ∀ e, cands es since seen = [some e] → ∃ m, candL arr since seen = [some m] ∧ EntRel K J e m := by
  have h1 := MapRel.filter (p := fun b => !seen.contains b) h
  have h2 := MapRel.filter (p := fun b => decide (b < since)) h1
  have h3 := MapRel.filter (p := fun b => decide (b ≥ since)) h1
  unfold cands candL
  simp only
  generalize (es.filter fun e => !seen.contains e.2.2) = L1 at *
  generalize (arr.filter fun e => !seen.contains e.born) = A1 at *
  generalize (L1.filter fun e => decide (e.2.2 < since)) = O1 at *
  generalize (A1.filter fun e => decide (e.born < since)) = O2 at *
  generalize (L1.filter fun e => decide (e.2.2 ≥ since)) = N1 at *
  generalize (A1.filter fun e => decide (e.born ≥ since)) = N2 at *
  rcases h2.cases with ⟨rfl, rfl⟩ | ⟨e1, O1', m1, O2', rfl, rfl, r1, t1⟩
  · rcases h3.cases with ⟨rfl, rfl⟩ | ⟨e3, N1', m3, N2', rfl, rfl, r3, t3⟩
    · simp
    · simp
  · rcases t1.cases with ⟨rfl, rfl⟩ | ⟨e2, O1'', m2, O2'', rfl, rfl, r2, t2⟩
    · rcases h3.cases with ⟨rfl, rfl⟩ | ⟨e3, N1', m3, N2', rfl, rfl, r3, t3⟩
      · refine ⟨by simp, fun e he => ⟨m1, by simp, ?_⟩⟩
        simp at he
        subst he
        exact r1
      · simp
    · simp

theorem op_nextMap {x : Operand} {args : List L} {e : Eff} (ho : o.op = .next x false) (h : HRel K J hp w)
    (he : RepL K J env a.tmps.toList) (ha : opds env [ropd x] = some args) (hn : nfn (.nextMap (ropd x)) args (look hp (rds (.nextMap (ropd x)) args)) = some e) (hx : enact lo hp e slot = some (d, hp')) :
    OpRes lo K J hp w d hp' ((execOp a.eval o).run P w) := by
  obtain ⟨l, hl, rfl⟩ := opds1 ha
  have r1 := eval_rep he hl
  generalize hv : a.eval x = v at r1
  cases l with
  | ref ob off =>
    simp only [nfn, nfnM, rds, look, List.map_cons, List.map_nil] at hn
    split at hn
    · rename_i heq
      simp only [List.cons.injEq, and_true] at heq
      split at hn
      · rename_i ho0
        subst ho0
        cases hn
        obtain ⟨win, hj, g1, g2⟩ := h.ob ob _ heq rfl
        cases r1 with
        | ref _ _ win' hj' =>
          rw [hj] at hj'
          cases hj'
          have hgo : (getObj win.blk).run P w = .ok (.mapIter none 0 #[] 0) w := by simp [getObj, Sem.run, g1]
          refine OpRes.pure h hx (v := .tuple #[.bool false]) ?_ (Rep.tup _ [.bool false] rfl (RepL.cons (.v _ rfl) RepL.nil).2)
          simp [execOp, ho, hv, Instr.next, g2, hgo]
      · cases hn
    · cases hn
  | mit ob m =>
    simp only [nfn, nfnM, rds, look, List.map_cons, List.map_nil] at hn
    split at hn
    · rename_i m' since seen last es clock heq
      simp only [List.cons.injEq, and_true] at heq
      split at hn
      · rename_i hcond
        obtain ⟨rfl, hguard⟩ := hcond
        obtain ⟨win, hj, wm, hjm, g1, g2⟩ := h.ob ob _ heq.1 rfl
        obtain ⟨win2, hj2, arr, k1, k2⟩ := h.ob m' _ heq.2 rfl
        rw [hjm] at hj2
        cases hj2
        cases r1 with
        | mit _ _ win' hj' hb =>
          rw [hj] at hj'
          cases hj'
          have hgo : (getObj win.blk).run P w = .ok (.mapIter (some wm.blk) since seen.toArray last) w := by simp [getObj, Sem.run, g1]
          have hgm : (getObj wm.blk).run P w = .ok (.map arr clock) w := by simp [getObj, Sem.run, k1]
          have hg2 : (!seen.toArray.isEmpty && !arr.isEmpty && arr.all fun e => decide (e.born ≥ last)) = false := by
            have e1 : seen.toArray.isEmpty = seen.isEmpty := by cases seen <;> rfl
            have e2 : arr.isEmpty = es.isEmpty := by
              have := k2.1
              rw [Bool.eq_iff_iff, Array.isEmpty_iff, List.isEmpty_iff, ← List.length_eq_zero_iff, ← Array.size_eq_zero_iff]
              simp at this
              omega
            have e3 : (arr.all fun e => decide (e.born ≥ last)) = es.all fun e => decide (e.2.2 ≥ last) := by
              rw [← MapRel.all (p := fun b => decide (b ≥ last)) k2, ← Array.all_toList]
            rw [e1, e2, e3]; exact hguard
          have carr := cand_arr arr since seen
          obtain ⟨k3, k4⟩ := cand_rel (since := since) (seen := seen) k2
          split at hn
          · rename_i hc
            cases hn
            refine OpRes.pure h hx (v := .tuple #[.bool false]) ?_ (Rep.tup _ [.bool false] rfl (RepL.cons (.v _ rfl) RepL.nil).2)
            simp only [execOp, ho, hv, Instr.next, hb, Sem.run_bind, hgo, Result.andThen_ok, hgm, hg2, Bool.false_eq_true, if_false]
            rw [carr, k3 hc]
            simp [choose, Sem.run, Question.forced]
          · rename_i en hc
            cases hn
            obtain ⟨me, hme, hr⟩ := k4 en hc
            simp only [enact, fresh] at hx
            split at hx
            · rename_i hlo
              simp only [Option.some.injEq, Prod.mk.injEq] at hx
              obtain ⟨rfl, rfl⟩ := hx
              have hso : (setObj win.blk (.mapIter (some wm.blk) since (seen ++ [en.2.2]).toArray clock)).run P w = .ok () { w with heap := w.heap.setIfInBounds win.blk (.mapIter (some wm.blk) since (seen ++ [en.2.2]).toArray clock) } := by simp [setObj, Sem.run, g1]
              obtain ⟨q1, q2⟩ := heap_set' (o' := .mapIter (some wm.blk) since (seen ++ [en.2.2]).toArray clock) g1
              refine ⟨_, J, Post.write (w' := { w with heap := w.heap.setIfInBounds win.blk (.mapIter (some wm.blk) since (seen ++ [en.2.2]).toArray clock) }) h heq.1 hlo rfl rfl hj q2 (by simp) rfl rfl rfl ⟨wm, hjm, q1, g2⟩, .inl ⟨.tuple #[.bool true, me.key, me.val], ?_, ?_⟩⟩
              · simp only [execOp, ho, hv, Instr.next, hb, Sem.run_bind, hgo, Result.andThen_ok, hgm, hg2, Bool.false_eq_true, if_false]
                rw [carr, hme]
                have e2 : seen.toArray.push me.born = (seen ++ [en.2.2]).toArray := by rw [hr.2.2]; simp
                have hch : (choose (.mapNext (#[some me] : Array (Option MapEntry)).size)).run P w = .ok 0 w := by simp [choose, Sem.run, Question.forced]
                simp only [hch, Result.andThen_ok]
                simp [e2, hso]
              · exact Rep.tup _ [.bool true, me.key, me.val] rfl (RepL.cons (.v _ rfl) (RepL.cons hr.1 (RepL.cons hr.2.1 RepL.nil))).2
            · cases hx
          · cases hn
      · cases hn
    · cases hn
  | _ => simp [nfn, nfnM] at hn

theorem op_entry {x : Operand} {args : List L} {e : Eff} (ho : o.op = .entry x) (h : HRel K J hp w)
    (he : RepL K J env a.tmps.toList) (ha : opds env [ropd x] = some args) (hn : nfn (.entry (ropd x)) args (look hp (rds (.entry (ropd x)) args)) = some e) (hx : enact lo hp e slot = some (d, hp')) :
    OpRes lo K J hp w d hp' ((execOp a.eval o).run P w) := by
  obtain ⟨l, hl, rfl⟩ := opds1 ha
  have r1 := eval_rep he hl
  generalize hv : a.eval x = v at r1
  cases l with
  | mit ob m =>
    simp only [nfn, nfnM, rds, look, List.map_cons, List.map_nil] at hn
    split at hn
    · rename_i m' since seen last es clock heq
      simp only [List.cons.injEq, and_true] at heq
      split at hn
      · rename_i hcond
        obtain ⟨rfl, rfl⟩ := hcond
        split at hn
        · rename_i stamp hst
          rw [Option.map_eq_some_iff] at hn
          obtain ⟨en, hfind, rfl⟩ := hn
          obtain ⟨win, hj, wm, hjm, g1, g2⟩ := h.ob ob _ heq.1 rfl
          obtain ⟨win2, hj2, arr, k1, k2⟩ := h.ob m' _ heq.2 rfl
          rw [hjm] at hj2
          cases hj2
          cases r1 with
          | mit _ _ win' hj' hb =>
            rw [hj] at hj'
            cases hj'
            have hgo : (getObj win.blk).run P w = .ok (.mapIter (some wm.blk) since seen.toArray clock) w := by simp [getObj, Sem.run, g1]
            have hgm : (getObj wm.blk).run P w = .ok (.map arr clock) w := by simp [getObj, Sem.run, k1]
            obtain ⟨me, hme, hr⟩ := MapRel.find (p := fun b => b == stamp) k2 hfind
            have hme' : (arr.find? fun e => e.born == stamp) = some me := by rw [← hme]; simp
            have hback : seen.toArray.back? = some stamp := by rw [List.back?_toArray]; exact hst
            refine OpRes.pure h hx (v := .tuple #[me.key, me.val]) ?_ (Rep.tup _ [me.key, me.val] rfl (RepL.cons hr.1 (RepL.cons hr.2.1 RepL.nil)).2)
            simp [execOp, ho, hv, Instr.entry, hgo, hgm, hback, hme']
        · cases hn
      · cases hn
    · cases hn
  | _ => simp [nfn, nfnM] at hn

end
end Lb
