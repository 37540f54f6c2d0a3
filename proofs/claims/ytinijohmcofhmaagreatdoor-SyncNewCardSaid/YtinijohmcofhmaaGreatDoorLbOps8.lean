/- Copies, least and greatest, texts' characters. -/
import Derived.Test.YtinijohmcofhmaaGreatDoorLbOps7
namespace Lb
open Go

section
variable {P : Program} {w : World} {K : Kn} {J : Jn} {hp hp' : List Ob} {lo : Nat} {slot : Option Nat} {d : L} {a : Act} {env : List L} {o : Oper}

theorem op_copy {t u : TypeId} {x y : Operand} {r : ROp} {args : List L} {e : Eff} (ho : o.op = .call { callee := .builtin .copy, args := #[x, y], argTypes := #[t, u] })
    (hrop : ropCall P { callee := .builtin .copy, args := #[x, y], argTypes := #[t, u] } = some r) (h : HRel K J hp w)
    (he : RepL K J env a.tmps.toList) (ha : opds env (rargs r) = some args) (hn : nfn r args (look hp (rds r args)) = some e) (hx : enact lo hp e slot = some (d, hp')) :
    OpRes lo K J hp w d hp' ((execOp a.eval o).run P w) := by
  simp only [ropCall, elemT] at hrop
  split at hrop
  · rename_i el hu
    simp only [Option.bind_some] at hrop
    cases hsz : sizeT P el with
    | none => rw [hsz] at hrop; cases hrop
    | some esz =>
      rw [hsz] at hrop
      simp only [Option.bind_some] at hrop
      split at hrop
      · cases hrop
      · rename_i hnz
        cases hrop
        obtain ⟨p, q, hp1, hq1, rfl⟩ := opds2 ha
        have r1 := eval_rep he hp1
        have r2 := eval_rep he hq1
        generalize hv1 : a.eval x = v1 at r1
        generalize hv2 : a.eval y = v2 at r2
        have exec : ∀ {v : Value} {w' : World}, (Builtin.copy_ #[t, u] o.type #[v1, v2]).run P w = .ok v w' → (execOp a.eval o).run P w = .ok (.value v) w' := by
          intro v w' hh
          simp [execOp, ho, resolve, invoke, builtin, hv1, hv2, hh]
        cases p with
        | v z =>
          cases z with
          | slice b l c =>
            cases b with
            | none =>
              simp only [nfn, nfn1] at hn
              split at hn
              · rename_i hl
                subst hl
                cases hsc : slCells (look hp (rds (.copy esz (ropd x) (ropd y)) [.v (.slice none 0 c), q])) 0 esz q with
                | none => rw [hsc] at hn; cases hn
                | some cx =>
                  rw [hsc] at hn
                  simp only [Option.bind_some] at hn
                  cases hsl : slLen q with
                  | none => rw [hsl] at hn; cases hn
                  | some m =>
                    rw [hsl] at hn
                    cases hn
                    obtain ⟨hlen, us, hr, hul, hf⟩ := src_cells (P := P) h r2 (fun ob' off len e he c' hc' => by subst he; exact contents0 hc') hsc hsl
                    cases r1
                    refine OpRes.pure h hx (exec (v := .int .i64 0) ?_) (.v _ rfl)
                    have h0 := hf w rfl 0 (by omega)
                    simp [Builtin.copy_, run_underlying hu, hlen, run_sizeT hsz, h0, goInt]
              · cases hn
            | some b => simp [nfn, nfn1] at hn
          | _ => simp [nfn, nfn1] at hn
        | osl ob off n es =>
          simp only [nfn, nfn1] at hn
          split at hn
          · rename_i hcond
            obtain ⟨rfl, hnot⟩ := hcond
            cases hc : contents (look hp (rds (.copy es (ropd x) (ropd y)) [.osl ob off n es, q])) 0 with
            | none => rw [hc] at hn; cases hn
            | some c =>
              rw [hc] at hn
              simp only [Option.bind_some] at hn
              cases hsl : slLen q with
              | none => rw [hsl] at hn; cases hn
              | some m =>
                rw [hsl] at hn
                simp only [Option.bind_some] at hn
                cases hsc : slCells (look hp (rds (.copy es (ropd x) (ropd y)) [.osl ob off n es, q])) 1 es q with
                | none => rw [hsc] at hn; cases hn
                | some cx =>
                  rw [hsc] at hn
                  simp only [Option.bind_some] at hn
                  cases hsp : splice c off (cx.take (min m n * es)) with
                  | none => rw [hsp] at hn; cases hn
                  | some c' =>
                    rw [hsp] at hn
                    cases hn
                    have hpo : hp[ob]? = some (.cells c) := by cases q <;> exact contents0 hc
                    obtain ⟨hlen, us, hr, hul, hf⟩ := src_cells (P := P) h r2 (fun ob' off' len e he c' hc' => by subst he; exact contents1 hc') hsc hsl
                    simp only [enact, fresh] at hx
                    split at hx
                    · rename_i hlo
                      simp only [Option.some.injEq, Prod.mk.injEq] at hx
                      obtain ⟨rfl, rfl⟩ := hx
                      cases r1 with
                      | osl _ _ _ _ cap win hj hcap hw hmx =>
                        obtain ⟨w', hrun, hpost⟩ := Post.splice (P := P) h hpo hlo hj hsp (hr.take (min m n * es))
                        have hfm := hf w rfl (min m n) (by omega)
                        refine ⟨w', J, hpost, .inl ⟨.int .i64 (min m n : Nat), exec ?_, .v _ rfl⟩⟩
                        have hmin : Nat.min m n = min m n := rfl
                        simp only [Builtin.copy_, List.getElem?_toArray, List.getElem?_cons_zero, List.getElem?_cons_succ, Sem.run_bind, run_underlying hu, hlen, run_sizeT hsz, hmin, hfm, Result.andThen_ok, goInt, Sem.run_pure, List.toList_toArray, hrun]
                    · cases hx
          · cases hn
        | _ => simp [nfn, nfn1] at hn
  · cases hrop

theorem mm_run (mx : Bool) : ∀ (xs : List L) (us : List Value) (x z : L) (u : Value), Rep K J x u → RepL K J xs us → mmAll mx x xs = some z →
    ∃ v, (us.foldlM (if mx then Builtin.max2 else Builtin.min2) u).run P w = .ok v w ∧ Rep K J z v
  | [], us, x, z, u, hx, hxs, h => by
    cases hxs.out_nil
    cases h
    exact ⟨u, by simp, hx⟩
  | y :: xs, us, x, z, u, hx, hxs, h => by
    obtain ⟨u2, us', rfl, hy, hxs'⟩ := hxs.out_cons
    rw [mmAll, Option.bind_eq_some_iff] at h
    obtain ⟨t, h1, h2⟩ := h
    unfold mm2 at h1
    split at h1
    · split at h1
      · rename_i k a1 k' b1 hk
        subst hk
        cases h1
        cases hx
        cases hy
        obtain ⟨v, hv, hr⟩ := mm_run mx xs us' _ z (.int k (if mx then (if b1 > a1 then b1 else a1) else (if b1 < a1 then b1 else a1))) (.v _ rfl) hxs' h2
        refine ⟨v, ?_, hr⟩
        rw [List.foldlM_cons]
        cases mx <;> simpa [Builtin.max2, Builtin.min2] using hv
      · cases h1
    · cases h1

theorem op_minmax {mx : Bool} {xs : List Operand} {c : Call} {args : List L} {e : Eff} (ho : o.op = .call c) (hc : c.callee = .builtin (if mx then .max else .min)) (hxs : c.args.toList = xs) (h : HRel K J hp w)
    (he : RepL K J env a.tmps.toList) (ha : opds env (rargs (.minmax mx (xs.map ropd))) = some args) (hn : nfn (.minmax mx (xs.map ropd)) args (look hp (rds (.minmax mx (xs.map ropd)) args)) = some e) (hx : enact lo hp e slot = some (d, hp')) :
    OpRes lo K J hp w d hp' ((execOp a.eval o).run P w) := by
  have hr := opds_rep (xs := xs) he ha
  cases args with
  | nil => simp [nfn, nfnM] at hn
  | cons y ys =>
    obtain ⟨u, us, hus, hy, hys⟩ := hr.out_cons
    simp only [nfn, nfnM, Option.map_eq_some_iff] at hn
    obtain ⟨z, hz, rfl⟩ := hn
    obtain ⟨v, hv, hrv⟩ := mm_run (P := P) (w := w) mx ys us y z u hy hys hz
    refine OpRes.pure h hx (v := v) ?_ hrv
    have hl : (c.args.map a.eval).toList = u :: us := by rw [Array.toList_map, hxs, hus]
    cases mx <;> simp_all [execOp, resolve, invoke, builtin, Builtin.max_, Builtin.min_]

theorem op_rangeStr {t : TypeId} {x : Operand} {args : List L} {e : Eff} (ho : o.op = .range t x) (hu : P.underlying t = some .string) (h : HRel K J hp w) (hs : SlotOk hp slot)
    (he : RepL K J env a.tmps.toList) (ha : opds env [ropd x] = some args) (hn : nfn (.rangeStr (ropd x)) args (look hp (rds (.rangeStr (ropd x)) args)) = some e) (hx : enact lo hp e slot = some (d, hp')) :
    OpRes lo K J hp w d hp' ((execOp a.eval o).run P w) := by
  obtain ⟨l, hl, rfl⟩ := opds1 ha
  have r1 := eval_rep he hl
  cases l with
  | v z =>
    cases z with
    | string s =>
      simp only [nfn, nfnM] at hn
      cases hn
      generalize hv : a.eval x = v at r1
      cases r1
      have hx' : d = .ref (slotOf hp slot) 0 ∧ hp' = putOb hp (.siter s 0) slot := by
        cases slot with
        | none => simp only [enact, fresh, Option.some.injEq, Prod.mk.injEq] at hx; exact ⟨hx.1.symm, hx.2.symm⟩
        | some s => simp only [enact, fresh, Option.some.injEq, Prod.mk.injEq] at hx; exact ⟨hx.1.symm, hx.2.symm⟩
      obtain ⟨rfl, rfl⟩ := hx'
      refine ⟨_, _, Post.new h hs (.stringIter s 0) (.siter s 0) 0 0 ⟨heap_push_eq, rfl⟩ rfl, .inl ⟨_, ?_, Rep.ref _ 0 ⟨w.heap.size, 0, 0⟩ (by unfold Jn.upd; rw [if_pos rfl])⟩⟩
      simp [execOp, ho, hv, Instr.range, run_underlying hu]
    | _ => simp [nfn, nfnM] at hn
  | _ => simp [nfn, nfnM] at hn

theorem heap_set' {w : World} {r : Nat} {o o' : Obj} (hb : w.heap[r]? = some o) : (w.heap.setIfInBounds r o')[r]? = some o' ∧ ∀ r', r' ≠ r → (w.heap.setIfInBounds r o')[r']? = w.heap[r']? := by
  have hlt : r < w.heap.size := (Array.getElem?_eq_some_iff.1 hb).1
  exact ⟨by simp [hlt], fun r' hne => by simp [Ne.symm hne]⟩

theorem op_nextStr {x : Operand} {args : List L} {e : Eff} (ho : o.op = .next x true) (h : HRel K J hp w)
    (he : RepL K J env a.tmps.toList) (ha : opds env [ropd x] = some args) (hn : nfn (.nextStr (ropd x)) args (look hp (rds (.nextStr (ropd x)) args)) = some e) (hx : enact lo hp e slot = some (d, hp')) :
    OpRes lo K J hp w d hp' ((execOp a.eval o).run P w) := by
  obtain ⟨l, hl, rfl⟩ := opds1 ha
  have r1 := eval_rep he hl
  cases l with
  | ref ob off =>
    simp only [nfn, nfnM, rds, look, List.map_cons, List.map_nil] at hn
    split at hn
    · rename_i s pos heq
      simp only [List.cons.injEq, and_true] at heq
      obtain ⟨win, hj, hat⟩ := h.ob ob _ heq rfl
      obtain ⟨g1, g2⟩ := hat
      generalize hv : a.eval x = v at r1
      cases r1 with
      | ref _ _ win' hj' =>
        rw [hj] at hj'
        cases hj'
        have hgo : (getObj win.blk).run P w = .ok (.stringIter s pos) w := by simp [getObj, Sem.run, g1]
        split at hn
        · rename_i ho0
          subst ho0
          split at hn
          · rename_i hlt
            cases hn
            simp only [enact, fresh] at hx
            split at hx
            · rename_i hlo
              simp only [Option.some.injEq, Prod.mk.injEq] at hx
              obtain ⟨rfl, rfl⟩ := hx
              have hso : (setObj win.blk (.stringIter s (pos + (Utf8.decode s pos).2))).run P w = .ok () { w with heap := w.heap.setIfInBounds win.blk (.stringIter s (pos + (Utf8.decode s pos).2)) } := by simp [setObj, Sem.run, g1]
              obtain ⟨k1, k2⟩ := heap_set' (o' := .stringIter s (pos + (Utf8.decode s pos).2)) g1
              refine ⟨_, J, Post.write (w' := { w with heap := w.heap.setIfInBounds win.blk (.stringIter s (pos + (Utf8.decode s pos).2)) }) h heq hlo rfl rfl hj k2 (by simp) rfl rfl rfl ⟨k1, g2⟩, .inl ⟨.tuple #[.bool true, .int .i64 pos, .int .i32 (Utf8.decode s pos).1], ?_, ?_⟩⟩
              · simp [execOp, ho, hv, Instr.next, g2, hgo, hlt, hso, goInt]
              · exact Rep.tup _ [.bool true, .int .i64 pos, .int .i32 (Utf8.decode s pos).1] rfl (RepL.cons (.v _ rfl) (RepL.cons (.v _ rfl) (RepL.cons (.v _ rfl) RepL.nil))).2
            · cases hx
          · rename_i hlt
            cases hn
            refine OpRes.pure h hx (v := .tuple #[.bool false]) ?_ (Rep.tup _ [.bool false] rfl (RepL.cons (.v _ rfl) RepL.nil).2)
            simp [execOp, ho, hv, Instr.next, g2, hgo, hlt]
        · cases hn
    · cases hn
  | _ => simp [nfn, nfnM] at hn

end
end Lb
