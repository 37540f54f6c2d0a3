/- Reading, writing, addresses, fields, plain values. -/
import Derived.Test.YtinijohmcofhmaaGreatDoorLbOps2
namespace Lb
open Go

section
variable {P : Program} {w : World} {K : Kn} {J : Jn} {hp hp' : List Ob} {lo : Nat} {slot : Option Nat} {d : L} {a : Act} {env : List L} {o : Oper}

theorem K_cell (h : HRel K J hp w) {x : Addr} {v : Value} (e : K.cell x = some v) : w.cell? x = some v := by
  unfold Kn.cell at e
  unfold World.cell?
  cases hk : K x.block with
  | none => rw [hk] at e; cases e
  | some ob =>
    rw [h.hold _ _ hk]
    rw [hk] at e
    exact e

theorem op_load {t : TypeId} {x : Operand} {r : ROp} {args : List L} {e : Eff} (ho : o.op = .load t x) (hng : ∀ b, x ≠ .global b) (hrop : rop0 P (.load t x) = some r) (h : HRel K J hp w)
    (he : RepL K J env a.tmps.toList) (ha : opds env (rargs r) = some args) (hn : nfn r args (look hp (rds r args)) = some e) (hx : enact lo hp e slot = some (d, hp')) :
    OpRes lo K J hp w d hp' ((execOp a.eval o).run P w) := by
  have e0 : rop0 P (.load t x) = (isAggT P t).bind fun g => (sizeT P t).bind fun n => if g ∨ n = 1 then some (.load n g (ropd x)) else none := by cases x <;> first | rfl | exact absurd rfl (hng _)
  rw [e0] at hrop
  cases hg : isAggT P t with
  | none => rw [hg] at hrop; cases hrop
  | some g =>
    rw [hg] at hrop
    simp only [Option.bind_some] at hrop
    cases hs : sizeT P t with
    | none => rw [hs] at hrop; cases hrop
    | some n =>
      rw [hs] at hrop
      simp only [Option.bind_some] at hrop
      split at hrop
      · cases hrop
        obtain ⟨l, hl, rfl⟩ := opds1 ha
        have hrep := eval_rep he hl
        have core : ∀ {c cs : List L} {b : Addr} {us : List Value}, a.eval x = .pointer (some b) → b.spot = none → RepC K J cs us → us.length = n →
            (∀ k (_ : k < us.length), w.cell? ⟨b.block, b.off + k, none⟩ = some us[k]) → (ofCells g cs).map val = some e → OpRes lo K J hp w d hp' ((execOp a.eval o).run P w) := by
          intro c cs b us hb hsp hr hlen hcell hof
          cases hof' : ofCells g cs with
          | none => rw [hof'] at hof; cases hof
          | some l' =>
            rw [hof'] at hof
            cases hof
            obtain ⟨v, hv, hrv⟩ := Rep.ofCells hr hof'
            refine OpRes.pure h hx (v := v) ?_ hrv
            have := run_loadVar_at (P := P) (w := w) hsp hg (by rw [hs, hlen]) hcell hv
            simp only [execOp, ho, Instr.loadAt, hb, Instr.sureAddr, Sem.run_bind, Sem.run_pure, Result.andThen_ok, this]
        cases l with
        | ref ob off =>
          simp only [nfn, nfn1, rds] at hn
          cases hc : contents (look hp [ob]) 0 with
          | none => rw [hc] at hn; cases hn
          | some c =>
            rw [hc] at hn
            simp only [Option.bind_some] at hn
            cases hext : ext c off n with
            | none => rw [hext] at hn; cases hn
            | some cs =>
              rw [hext] at hn
              simp only [Option.bind_some] at hn
              obtain ⟨win, us, hj, hr, hlen, hcell⟩ := h.read (contents0 hc) hext
              generalize hv : a.eval x = v at hrep
              cases hrep with
              | ref _ _ win' hj' =>
                rw [hj] at hj'
                cases hj'
                exact core (c := c) hv rfl hr hlen hcell hn
        | cp c =>
          simp only [nfn, nfn1] at hn
          cases hext : ext c 0 n with
          | none => rw [hext] at hn; cases hn
          | some cs =>
            rw [hext] at hn
            simp only [Option.bind_some] at hn
            generalize hv : a.eval x = v at hrep
            cases hrep with
            | cp _ b us hsp hl h1 hK hr =>
              obtain ⟨hr', hle, hcl⟩ := RepC.ext (c := c) (us := us) ⟨⟨hl, hr⟩, h1⟩ hext
              refine core (c := c) (us := (us.drop 0).take n) hv hsp hr' (by rw [hr'.len, hcl]) (fun k hk => ?_) hn
              have hk' : k < us.length := by simp at hk; omega
              rw [K_cell h (hK k hk')]
              simp
        | _ => simp [nfn, nfn1] at hn
      · cases hrop

/-- cells that are written one by one into one block -/
theorem run_storeCells_at {b off n : Nat} {arr : Array Value} {el : TypeId} {fz : Nat × Nat} (hb : w.heap[b]? = some (.cells arr el fz)) (ht : Thaw fz arr.size) {vs : List Value}
    (hle : off + vs.length ≤ arr.size) (h1 : ∀ v ∈ vs, v.oneCell' = true) (hn : n = off) :
    ∃ w', (storeCells ⟨b, n, none⟩ vs).run P w = .ok () w' ∧ w'.heap[b]? = some (.cells (arr.toList.take off ++ vs ++ arr.toList.drop (off + vs.length)).toArray el fz) ∧
      (∀ k, k ≠ b → w'.heap[k]? = w.heap[k]?) ∧ w'.heap.size = w.heap.size ∧ w'.os = w.os ∧ w'.tape = w.tape ∧ w'.output = w.output := by
  subst hn
  have hcell : ∀ j, j < arr.size → w.cell? ⟨b, j, none⟩ = arr[j]? := fun j _ => by simp [World.cell?, hb]
  have hfz : ∀ j, j < arr.size → w.frozen? ⟨b, j, none⟩ = false := fun j hj => by
    simp only [World.frozen?, hb]
    have := ht j hj
    simp only [Bool.and_eq_false_iff, decide_eq_false_iff_not]
    omega
  have hrun := run_storeCells_cells (P := P) b n vs 0 w (fun j hj => by
      rw [hcell _ (by omega)]; simp; omega) (fun j hj => hfz _ (by omega)) h1
  refine ⟨_, hrun, ?_⟩
  simp only [Nat.add_zero]
  have key : ∀ (vs : List Value) (m : Nat) (w : World) (arr : Array Value), w.heap[b]? = some (.cells arr el fz) → m + vs.length ≤ arr.size →
      (w.setCells b m vs).heap[b]? = some (.cells (arr.toList.take m ++ vs ++ arr.toList.drop (m + vs.length)).toArray el fz) ∧
      (∀ k, k ≠ b → (w.setCells b m vs).heap[k]? = w.heap[k]?) ∧ (w.setCells b m vs).heap.size = w.heap.size ∧ (w.setCells b m vs).os = w.os ∧ (w.setCells b m vs).tape = w.tape ∧ (w.setCells b m vs).output = w.output := by
    intro vs
    induction vs with
    | nil => intro m w arr hb _; refine ⟨?_, fun _ _ => rfl, rfl, rfl, rfl, rfl⟩; simp [World.setCells, hb]
    | cons v vs ih =>
      intro m w arr hb hle
      have hm : m < arr.size := by simp at hle; omega
      have hb' : (w.setCell ⟨b, m, none⟩ v).heap[b]? = some (.cells (arr.setIfInBounds m v) el fz) := by
        show (w.heap.modify b _)[b]? = _
        rw [Array.getElem?_modify, if_pos rfl, hb]
        simp
      obtain ⟨i1, i2, i3, i4, i5, i6⟩ := ih (m + 1) (w.setCell ⟨b, m, none⟩ v) (arr.setIfInBounds m v) hb' (by simp at hle ⊢; omega)
      refine ⟨?_, ?_, ?_, i4, i5, i6⟩
      · rw [World.setCells, i1]
        congr 2
        have e1 : (arr.setIfInBounds m v).toList.take (m + 1) = arr.toList.take m ++ [v] := by
          rw [Array.toList_setIfInBounds, List.take_succ_eq_append_getElem (by simpa using hm), List.take_set, List.set_eq_of_length_le (by simp; omega)]
          simp
        have e2 : (arr.setIfInBounds m v).toList.drop (m + 1 + vs.length) = arr.toList.drop (m + (v :: vs).length) := by
          rw [Array.toList_setIfInBounds, List.drop_set_of_lt (by omega)]
          congr 1
          simp; omega
        rw [e1, e2]
        simp
      · intro k hk
        rw [World.setCells, i2 k hk]
        simp only [World.setCell, Array.getElem?_modify]
        rw [if_neg (fun e => hk e.symm)]
      · rw [World.setCells, i3]; simp [World.setCell]
  exact key vs n w arr hb hle

/-- an object's cells, some of them written over -/
theorem Post.splice (h : HRel K J hp w) {ob : Nat} {c c' xs : List L} {vs : List Value} {off : Nat} (e : hp[ob]? = some (.cells c)) (hlo : lo ≤ ob) {win : Win} (j : J ob = some win)
    (hs : Lb.splice c off xs = some c') (g : RepC K J xs vs) :
    ∃ w', (storeCells ⟨win.blk, win.base + off, none⟩ vs).run P w = .ok () w' ∧ Post lo K J hp w K J (hp.set ob (.cells c')) w' := by
  obtain ⟨win', j', arr, el, fz, us, h1, h2, h3, h4, h5, h6⟩ := h.ob ob _ e rfl
  rw [j] at j'
  cases j'
  obtain ⟨hr, hle, hlen⟩ := splice_rep h4 g hs
  obtain ⟨w', g1, g2, g3, g4, g5, g6, g7⟩ := run_storeCells_at (P := P) (w := w) (n := win.base + off) h1 h3 (vs := vs) (off := win.base + off) (by omega) g.2 rfl
  refine ⟨w', g1, Post.write h e hlo rfl rfl j g3 g4 g5 g6 g7 ?_⟩
  have hsz : (arr.toList.take (win.base + off) ++ vs ++ arr.toList.drop (win.base + off + vs.length)).toArray.size = arr.size := by simp; omega
  refine ⟨_, el, fz, us.take off ++ vs ++ us.drop (off + vs.length), g2, by rw [hsz, h2], by rw [hsz]; exact h3, hr, by simp; omega, fun k hk => ?_⟩
  have hk' : k < us.length := by simp at hk; omega
  rw [List.getElem?_toArray]
  by_cases hk1 : k < off
  · rw [List.append_assoc, List.getElem?_append_left (by simp; omega), List.getElem?_take_of_lt (by omega), List.getElem_append_left (by simp; omega), List.getElem_append_left (by simp; omega), List.getElem_take]
    simpa using h6 k hk'
  · by_cases hk2 : k < off + vs.length
    · rw [List.append_assoc, List.getElem?_append_right (by simp; omega), List.getElem?_append_left (by simp; omega), List.getElem_append_left (by simp; omega), List.getElem_append_right (by simp; omega)]
      have e1 : win.base + k - (List.take (win.base + off) arr.toList).length = k - off := by simp; omega
      have e2 : k - (List.take off us).length = k - off := by simp; omega
      rw [e1]
      simp only [e2]
      rw [List.getElem?_eq_getElem]
    · rw [List.getElem?_append_right (by simp; omega), List.getElem_append_right (by simp; omega), List.getElem?_drop, List.getElem_drop]
      have e1 : win.base + off + vs.length + (win.base + k - (List.take (win.base + off) arr.toList ++ vs).length) = win.base + k := by simp; omega
      have e2 : off + vs.length + (k - (List.take off us ++ vs).length) = k := by simp; omega
      rw [e1]
      simp only [e2]
      simpa using h6 k hk'

theorem op_store {t : TypeId} {x y : Operand} {r : ROp} {args : List L} {e : Eff} (ho : o.op = .store t x y) (hrop : rop0 P (.store t x y) = some r) (h : HRel K J hp w)
    (he : RepL K J env a.tmps.toList) (ha : opds env (rargs r) = some args) (hn : nfn r args (look hp (rds r args)) = some e) (hx : enact lo hp e slot = some (d, hp')) :
    OpRes lo K J hp w d hp' ((execOp a.eval o).run P w) := by
  simp only [rop0] at hrop
  cases hs : sizeT P t with
  | none => rw [hs] at hrop; cases hrop
  | some n =>
    rw [hs] at hrop
    cases hrop
    obtain ⟨l, m, hl, hm, rfl⟩ := opds2 ha
    cases l with
    | ref ob off =>
      simp only [nfn, nfn1, rds] at hn
      split at hn
      · rename_i hg
        simp only [Bool.and_eq_true, beq_iff_eq] at hg
        cases hc : contents (look hp [ob]) 0 with
        | none => rw [hc] at hn; cases hn
        | some c =>
          rw [hc] at hn
          simp only [Option.bind_some] at hn
          cases hsp : splice c off m.cells with
          | none => rw [hsp] at hn; cases hn
          | some c' =>
            rw [hsp] at hn
            cases hn
            simp only [enact, fresh] at hx
            split at hx
            · rename_i hlo
              simp only [Option.some.injEq, Prod.mk.injEq] at hx
              obtain ⟨rfl, rfl⟩ := hx
              have hrep := eval_rep he hl
              generalize hv : a.eval x = v at hrep
              cases hrep with
              | ref _ _ win hj =>
                obtain ⟨vs, hvc, hvr⟩ := (eval_rep he hm).cells hg.1
                obtain ⟨w', hrun, hpost⟩ := Post.splice (P := P) h (contents0 hc) hlo hj hsp hvr
                refine ⟨w', J, hpost, .inr ⟨?_, rfl⟩⟩
                have hsz : vs.toArray.size = n := by simp [hvr.len, hg.2]
                simp only [execOp, ho, Instr.storeAt, hv, Instr.sureAddr, storeVar, Sem.run_bind, Sem.run_pure, Result.andThen_ok, run_sizeT hs, hvc, hsz, ne_eq, not_true_eq_false, if_false, List.toList_toArray, hrun]
            · cases hx
      · cases hn
    | _ => simp [nfn, nfn1] at hn

theorem op_nilCheck {x : Operand} {args : List L} {e : Eff} (ho : o.op = .nilCheck x) (h : HRel K J hp w)
    (he : RepL K J env a.tmps.toList) (ha : opds env [ropd x] = some args) (hn : nfn (.nilCheck (ropd x)) args [] = some e) (hx : enact lo hp e slot = some (d, hp')) :
    OpRes lo K J hp w d hp' ((execOp a.eval o).run P w) := by
  obtain ⟨l, hl, rfl⟩ := opds1 ha
  have hrep := eval_rep he hl
  cases l with
  | ref ob off =>
    simp only [nfn, nfn1] at hn
    cases hn
    generalize hv : a.eval x = v at hrep
    refine OpRes.pure h hx (v := v) ?_ hrep
    cases hrep
    simp only [execOp, ho, hv, Sem.run_pure]
  | cp c =>
    simp only [nfn, nfn1] at hn
    cases hn
    generalize hv : a.eval x = v at hrep
    refine OpRes.pure h hx (v := v) ?_ hrep
    cases hrep
    simp only [execOp, ho, hv, Sem.run_pure]
  | fn f p q =>
    cases f with
    | func f =>
      simp only [nfn, nfn1] at hn
      cases hn
      generalize hv : a.eval x = v at hrep
      refine OpRes.pure h hx (v := v) ?_ hrep
      cases hrep
      simp only [execOp, ho, hv, Sem.run_pure]
    | _ => simp [nfn, nfn1] at hn
  | _ => simp [nfn, nfn1] at hn

theorem op_convInt {s t : TypeId} {x : Operand} {k : IntKind} {args : List L} {e : Eff} (ho : o.op = .convert s t x) (hs : ∃ k', P.underlying s = some (.int k')) (ht : P.underlying t = some (.int k)) (h : HRel K J hp w)
    (he : RepL K J env a.tmps.toList) (ha : opds env [ropd x] = some args) (hn : nfn (.convInt k (ropd x)) args [] = some e) (hx : enact lo hp e slot = some (d, hp')) :
    OpRes lo K J hp w d hp' ((execOp a.eval o).run P w) := by
  obtain ⟨l, hl, rfl⟩ := opds1 ha
  obtain ⟨k', hs⟩ := hs
  have hrep := eval_rep he hl
  cases l with
  | v z =>
    cases z <;> simp only [nfn, nfn1, reduceCtorEq, Option.some.injEq] at hn
    rename_i k0 n
    subst hn
    generalize hv : a.eval x = v at hrep
    cases hrep
    refine OpRes.pure h hx (v := .int k (k.wrap n)) ?_ (.v _ rfl)
    simp [execOp, ho, hv, convert, run_underlying hs, run_underlying ht, Conv.intToInt]
  | _ => simp [nfn, nfn1] at hn

theorem op_convId {s t : TypeId} {x : Operand} {args : List L} {e : Eff} (ho : o.op = .convert s t x) (hs : P.underlying s = some .string) (ht : P.underlying t = some .string) (h : HRel K J hp w)
    (he : RepL K J env a.tmps.toList) (ha : opds env [ropd x] = some args) (hn : nfn (.convId (ropd x)) args [] = some e) (hx : enact lo hp e slot = some (d, hp')) :
    OpRes lo K J hp w d hp' ((execOp a.eval o).run P w) := by
  obtain ⟨l, hl, rfl⟩ := opds1 ha
  have hrep := eval_rep he hl
  cases l with
  | v z =>
    cases z <;> simp only [nfn, nfn1, reduceCtorEq, Option.some.injEq] at hn
    subst hn
    generalize hv : a.eval x = v at hrep
    refine OpRes.pure h hx (v := v) ?_ hrep
    cases hrep
    simp only [execOp, ho, hv, convert, Sem.run_bind, run_underlying hs, run_underlying ht, Result.andThen_ok, Sem.run_pure]
  | _ => simp [nfn, nfn1] at hn

theorem op_un {u : UnOp} {t : TypeId} {x : Operand} {args : List L} {e : Eff} (ho : o.op = .unOp u t x) (h : HRel K J hp w)
    (he : RepL K J env a.tmps.toList) (ha : opds env [ropd x] = some args) (hn : nfn (.un u (ropd x)) args [] = some e) (hx : enact lo hp e slot = some (d, hp')) :
    OpRes lo K J hp w d hp' ((execOp a.eval o).run P w) := by
  obtain ⟨l, hl, rfl⟩ := opds1 ha
  have hrep := eval_rep he hl
  cases l with
  | v z =>
    simp only [nfn, nfn1] at hn
    cases hz : vun u z with
    | none => rw [hz] at hn; cases hn
    | some y =>
      rw [hz] at hn
      cases hn
      generalize hv : a.eval x = v at hrep
      cases hrep
      refine OpRes.pure h hx (v := y) ?_ (.v _ ?_)
      · cases u <;> cases z <;> simp only [vun, reduceCtorEq, Option.some.injEq] at hz <;> subst hz <;> simp [execOp, ho, hv, Op.unary, Op.intArith, Op.intBits]
      · cases u <;> cases z <;> simp only [vun, reduceCtorEq, Option.some.injEq] at hz <;> subst hz <;> rfl
  | _ => simp [nfn, nfn1] at hn

end
end Lb
