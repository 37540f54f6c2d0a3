/- Numbers, texts, comparisons, fields, indexes. -/
import Derived.Test.YtinijohmcofhmaaGreatDoorLbOps3
import Derived.Laws.Strings
import Derived.Laws.StructEq
import Derived.ChangeKeysEq
import Derived.MapKept
namespace Lb
open Go

section
variable {P : Program} {w : World} {K : Kn} {J : Jn} {hp hp' : List Ob} {lo : Nat} {slot : Option Nat} {d : L} {a : Act} {env : List L} {o : Oper}

theorem vbin_run {op : BinOp} {x y z : Value} (t : TypeId) (p q : Operand) (h : vbin op x y = some z) :
    (do eqGuard op t p q x y; binOp op t x y : Sem Value).run P w = .ok z w ∧ z.oneCell' = true := by
  unfold vbin at h
  split at h
  · split at h
    · cases h
    · rename_i hb
      cases h
      simp [eqGuard, binOp, Op.shift, hb, Value.oneCell']
  · split at h
    · cases h
    · rename_i hb
      cases h
      simp [eqGuard, binOp, Op.shift, hb, Value.oneCell']
  · rename_i k m k' n h1 h2
    split at h
    · rename_i hk
      subst hk
      cases op <;> simp only [reduceCtorEq, Option.some.injEq] at h <;>
        first
          | (subst h; simp [eqGuard, binOp, Op.intArith, Op.intBits, Op.intCmp, Value.oneCell']; done)
          | (split at h
             · cases h
             · rename_i hn; cases h; simp [eqGuard, binOp, Op.intDiv, hn, Value.oneCell']; done)
          | exact absurd rfl h1
          | exact absurd rfl h2
          | (exfalso; simp_all; done)
    · cases h
  · rename_i m n
    have hb : ∀ x : ByteArray, x.toList = x.data.toList := fun x => ByteArray.toList_eq x
    have happ : (⟨(m.data.toList ++ n.data.toList).toArray⟩ : ByteArray) = m ++ n := by
      apply ByteArray.ext; apply Array.toList_inj.1; simp
    rw [happ] at h
    simp only [← hb] at h
    cases op <;> simp only [reduceCtorEq, Option.some.injEq] at h <;>
      first
        | (subst h; simp [eqGuard, binOp, Op.stringOp, Value.oneCell']; done)
        | (split at h
           · cases h
           · rename_i hn
             cases h
             simp only [eqGuard, binOp, Op.stringOp, Sem.run_bind, Sem.run_ite, run_unsupported, Sem.run_pure, Value.oneCell', and_true]
             simp at hn ⊢
             exact hn)
  · cases h

theorem op_bin {op : BinOp} {t u : TypeId} {x y : Operand} {args : List L} {e : Eff} (ho : o.op = .binOp op t x y u) (h : HRel K J hp w)
    (he : RepL K J env a.tmps.toList) (ha : opds env [ropd x, ropd y] = some args) (hn : nfn (.bin op (ropd x) (ropd y)) args [] = some e) (hx : enact lo hp e slot = some (d, hp')) :
    OpRes lo K J hp w d hp' ((execOp a.eval o).run P w) := by
  obtain ⟨l, m, hl, hm, rfl⟩ := opds2 ha
  have r1 := eval_rep he hl
  have r2 := eval_rep he hm
  cases l with
  | v p =>
    cases m with
    | v q =>
      simp only [nfn, nfn1] at hn
      cases hz : vbin op p q with
      | none => rw [hz] at hn; cases hn
      | some z =>
        rw [hz] at hn
        cases hn
        generalize h1 : a.eval x = v1 at r1
        generalize h2 : a.eval y = v2 at r2
        cases r1
        cases r2
        obtain ⟨g1, g2⟩ := vbin_run (P := P) (w := w) t x y hz
        refine OpRes.pure h hx (v := z) ?_ (.v _ g2)
        simp only [execOp, ho, h1, h2]
        rw [Sem.run_bind, g1]
        simp
    | _ => simp [nfn, nfn1] at hn
  | sym i =>
    cases m with
    | sym j =>
      simp only [nfn, nfnM] at hn
      split at hn
      · rename_i hij
        subst hij
        generalize h1 : a.eval x = v1 at r1
        generalize h2 : a.eval y = v2 at r2
        cases r1 with
        | sym _ hp1 =>
          cases r2 with
          | sym _ hp2 =>
            have fin : ∀ b, vbin op (K.sym i) (K.sym i) = some (.bool b) → e = val (.v (.bool b)) → OpRes lo K J hp w d hp' ((execOp a.eval o).run P w) := by
              intro b hz he2
              subst he2
              obtain ⟨g1, g2⟩ := vbin_run (P := P) (w := w) t x y hz
              refine OpRes.pure h hx (v := .bool b) ?_ (.v _ g2)
              simp only [execOp, ho, h1, h2]
              rw [Sem.run_bind, g1]
              simp
            split at hn
            · cases hn
              refine fin true ?_ rfl
              generalize K.sym i = v at hp1
              cases v <;> simp [plainV] at hp1 <;> simp [vbin]
            · cases hn
              refine fin false ?_ rfl
              generalize K.sym i = v at hp1
              cases v <;> simp [plainV] at hp1 <;> simp [vbin]
            · cases hn
      · cases hn
    | _ => simp [nfn, nfn1] at hn
  | _ => simp [nfn, nfn1] at hn

theorem op_mkIface {t : TypeId} {x : Operand} {args : List L} {e : Eff} (ho : o.op = .makeInterface t x) {D : TypeDesc} (ht : P.underlying t = some D) (hD : ∀ ms, D ≠ .interface ms) (h : HRel K J hp w)
    (he : RepL K J env a.tmps.toList) (ha : opds env [ropd x] = some args) (hn : nfn (.mkIface t (ropd x)) args [] = some e) (hx : enact lo hp e slot = some (d, hp')) :
    OpRes lo K J hp w d hp' ((execOp a.eval o).run P w) := by
  obtain ⟨l, hl, rfl⟩ := opds1 ha
  cases hn
  refine OpRes.pure h hx (v := .iface t (a.eval x)) ?_ (.ifc t l _ (eval_rep he hl))
  simp only [execOp, ho, Instr.makeInterface, Sem.run_bind, run_underlying ht, Result.andThen_ok]
  cases D <;> first | exact absurd rfl (hD _) | rfl

theorem op_mkFunc {f : Fn} {first caps : Array Operand} {args : List L} {e : Eff} (ho : o.op = .makeFunc f first caps) (h : HRel K J hp w)
    (he : RepL K J env a.tmps.toList) (ha : opds env (first.toList.map ropd ++ caps.toList.map ropd) = some args)
    (hn : nfn (.mkFunc f (first.toList.map ropd) (caps.toList.map ropd)) args [] = some e) (hx : enact lo hp e slot = some (d, hp')) :
    OpRes lo K J hp w d hp' ((execOp a.eval o).run P w) := by
  simp only [nfn, nfn1, Option.some.injEq] at hn
  subst hn
  rw [← List.map_append] at ha
  have r := opds_rep he ha
  rw [List.map_append] at r
  have hlen := r.len
  simp only [List.length_append, List.length_map] at hlen
  have r1 := r.take first.toList.length
  have r2 := r.drop first.toList.length
  rw [List.take_left' (by simp)] at r1
  rw [List.drop_left' (by simp)] at r2
  refine OpRes.pure h hx (v := .func f (first.map a.eval) (caps.map a.eval)) (by simp [execOp, ho, Instr.makeFunc]) ?_
  have := Rep.fn f _ _ _ _ r1.1 r2.1 r1.2 r2.2
  simp only [List.length_map]
  have e1 : first.map a.eval = (first.toList.map a.eval).toArray := by apply Array.toList_inj.1; simp
  have e2 : caps.map a.eval = (caps.toList.map a.eval).toArray := by apply Array.toList_inj.1; simp
  rw [e1, e2]
  exact this

theorem op_fieldAddr {s : TypeId} {x : Operand} {i : Nat} {r : ROp} {args : List L} {e : Eff} (ho : o.op = .fieldAddr s x i) (hrop : rop0 P (.fieldAddr s x i) = some r) (h : HRel K J hp w)
    (he : RepL K J env a.tmps.toList) (ha : opds env (rargs r) = some args) (hn : nfn r args (look hp (rds r args)) = some e) (hx : enact lo hp e slot = some (d, hp')) :
    OpRes lo K J hp w d hp' ((execOp a.eval o).run P w) := by
  simp only [rop0] at hrop
  split at hrop
  · rename_i fs hu
    cases hf : fs[i]? with
    | none => rw [hf] at hrop; cases hrop
    | some f =>
      rw [hf] at hrop
      simp only [Option.bind_some] at hrop
      cases hs : sizeT P f.type with
      | none => rw [hs] at hrop; cases hrop
      | some n =>
        rw [hs] at hrop
        simp only [Option.bind_some] at hrop
        split at hrop
        · cases hrop
        · rename_i hn0
          cases hrop
          obtain ⟨l, hl, rfl⟩ := opds1 ha
          have hrep := eval_rep he hl
          have core : ∀ {b : Addr}, a.eval x = .pointer (some b) → b.spot = none → (execOp a.eval o).run P w = .ok (.value (.pointer (some ⟨b.block, b.off + f.offset, none⟩))) w := by
            intro b hb hsp
            simp only [execOp, ho, Instr.fieldAt, Sem.run_bind, run_underlying hu, Result.andThen_ok, hf, hb, Instr.sureAddr, Sem.run_pure, fieldPlace, run_sizeT hs, hn0, if_false, addr_add hsp]
          cases l with
          | ref ob off =>
            simp only [nfn, nfn1] at hn
            cases hn
            generalize hv : a.eval x = v at hrep
            cases hrep with
            | ref _ _ win hj =>
              refine OpRes.pure h hx (core hv rfl) ?_
              have := Rep.ref (K := K) ob (off + f.offset) win hj
              simpa [Nat.add_assoc] using this
          | cp c =>
            simp only [nfn, nfn1] at hn
            split at hn
            · rename_i hle
              cases hn
              generalize hv : a.eval x = v at hrep
              cases hrep with
              | cp _ b us hsp hl h1 hK hr =>
                refine OpRes.pure h hx (core hv hsp) ?_
                have rl : RepL K J c us := ⟨hl, hr⟩
                have rd := rl.drop f.offset
                refine Rep.cp _ _ (us.drop f.offset) rfl rd.1 (fun u hu => h1 u (List.mem_of_mem_drop hu)) (fun k hk => ?_) rd.2
                have := hK (f.offset + k) (by simp at hk; omega)
                rw [List.getElem_drop, ← this]
                simp [Nat.add_assoc]
            · cases hn
          | _ => simp [nfn, nfn1] at hn
  · cases hrop

theorem run_part_at {t : TypeId} {g : Bool} {n off : Nat} {us : List Value} (hg : isAggT P t = some g) (hs : sizeT P t = some n) {v : Value}
    (hv : if g then v = .agg ((us.drop off).take n).toArray else (us.drop off).take n = [v]) : (part t us.toArray off).run P w = .ok v w := by
  unfold part
  simp only [Sem.run_bind, run_isAggT hg, Result.andThen_ok]
  cases g with
  | true =>
    simp only [if_true] at hv ⊢
    subst hv
    simp only [Sem.run_bind, run_sizeT hs, Result.andThen_ok, Sem.run_pure]
    congr 2
    apply Array.toList_inj.1
    simp [List.take_drop]
  | false =>
    simp only [Bool.false_eq_true, if_false] at hv ⊢
    have h1 : us[off]? = some v := by
      have h0 : ((us.drop off).take n)[0]? = some v := by rw [hv]; rfl
      rw [List.getElem?_take] at h0
      split at h0
      · simpa using h0
      · cases h0
    simp [h1]

theorem op_field {s : TypeId} {x : Operand} {i : Nat} {r : ROp} {args : List L} {e : Eff} (ho : o.op = .field s x i) (hrop : rop0 P (.field s x i) = some r) (h : HRel K J hp w)
    (he : RepL K J env a.tmps.toList) (ha : opds env (rargs r) = some args) (hn : nfn r args (look hp (rds r args)) = some e) (hx : enact lo hp e slot = some (d, hp')) :
    OpRes lo K J hp w d hp' ((execOp a.eval o).run P w) := by
  simp only [rop0] at hrop
  split at hrop
  · rename_i fs hu
    cases hf : fs[i]? with
    | none => rw [hf] at hrop; cases hrop
    | some f =>
      rw [hf] at hrop
      simp only [Option.bind_some] at hrop
      cases hs : sizeT P f.type with
      | none => rw [hs] at hrop; cases hrop
      | some n =>
        rw [hs] at hrop
        simp only [Option.bind_some] at hrop
        cases hg : isAggT P f.type with
        | none => rw [hg] at hrop; cases hrop
        | some g =>
          rw [hg] at hrop
          simp only [Option.bind_some] at hrop
          split at hrop
          · cases hrop
            obtain ⟨l, hl, rfl⟩ := opds1 ha
            have hrep := eval_rep he hl
            cases l with
            | agg cs =>
              simp only [nfn, nfn1] at hn
              cases hext : ext cs f.offset n with
              | none => rw [hext] at hn; cases hn
              | some c =>
                rw [hext] at hn
                simp only [Option.bind_some] at hn
                cases hof : ofCells g c with
                | none => rw [hof] at hn; cases hn
                | some l' =>
                  rw [hof] at hn
                  cases hn
                  generalize hv : a.eval x = v at hrep
                  cases hrep with
                  | agg _ us hl h1 hr =>
                    obtain ⟨hr', hle, hcl⟩ := RepC.ext (c := cs) (us := us) ⟨⟨hl, hr⟩, h1⟩ hext
                    obtain ⟨v', hv', hrv⟩ := Rep.ofCells hr' hof
                    refine OpRes.pure h hx (v := v') ?_ hrv
                    have := run_part_at (P := P) (w := w) hg hs hv'
                    simp only [execOp, ho, Instr.field, Sem.run_bind, run_underlying hu, Result.andThen_ok, hf, hv, asAgg, Sem.run_pure, this]
            | _ => simp [nfn, nfn1] at hn
          · cases hrop
  · cases hrop

theorem op_extract {x : Operand} {i : Nat} {args : List L} {e : Eff} (ho : o.op = .extract x i) (h : HRel K J hp w)
    (he : RepL K J env a.tmps.toList) (ha : opds env [ropd x] = some args) (hn : nfn (.extract (ropd x) i) args [] = some e) (hx : enact lo hp e slot = some (d, hp')) :
    OpRes lo K J hp w d hp' ((execOp a.eval o).run P w) := by
  obtain ⟨l, hl, rfl⟩ := opds1 ha
  have hrep := eval_rep he hl
  cases l with
  | tup xs =>
    simp only [nfn, nfn1] at hn
    cases hi : xs[i]? with
    | none => rw [hi] at hn; cases hn
    | some y =>
      rw [hi] at hn
      cases hn
      generalize hv : a.eval x = v at hrep
      cases hrep with
      | tup _ us hl hr =>
        have rl : RepL K J xs us := ⟨hl, hr⟩
        obtain ⟨u, hu, hru⟩ := rl.getElem? hi
        refine OpRes.pure h hx (v := u) ?_ hru
        simp [execOp, ho, hv, Instr.extract, hu]
  | _ => simp [nfn, nfn1] at hn

theorem run_indexBase {t el : TypeId} (hu : P.underlying t = some (.slice el)) {n : Nat} (hs : sizeT P el = some n) {b : Addr} (hsp : b.spot = none) {len cap : Nat} {k : IntKind} {i : Int} (h0 : 0 ≤ i) (h1 : i < len) :
    (Instr.indexAt t (.slice (some b) len cap) (.int k i)).run P w = .ok (.pointer (some ⟨b.block, b.off + i.toNat * n, none⟩)) w := by
  simp only [Instr.indexAt, asIntOf, Sem.run_bind, Sem.run_pure, Result.andThen_ok, run_underlying hu]
  simp [h0, h1, run_sizeT hs, addr_add hsp]

theorem run_indexArr {t el : TypeId} {m : Nat} (hu : P.underlying t = some (.array m el)) {n : Nat} (hs : sizeT P el = some n) {b : Addr} (hsp : b.spot = none) {k : IntKind} {i : Int} (h0 : 0 ≤ i) (h1 : i < m) :
    (Instr.indexAt t (.pointer (some b)) (.int k i)).run P w = .ok (.pointer (some ⟨b.block, b.off + i.toNat * n, none⟩)) w := by
  simp only [Instr.indexAt, asIntOf, Sem.run_bind, Sem.run_pure, Result.andThen_ok, run_underlying hu]
  simp [Instr.sureAddr, h0, h1, run_sizeT hs, addr_add hsp]

theorem rep_int {l : L} {v : Value} {k : IntKind} {i : Int} (h : Rep K J l v) (e : l = .v (.int k i)) : v = .int k i := by
  subst e; cases h; rfl

theorem cp_drop {c : List L} {b : Addr} {us : List Value} (hl : us.length = c.length) (h1 : ∀ u ∈ us, u.oneCell' = true) (hK : ∀ k (h' : k < us.length), K.cell ⟨b.block, b.off + k, none⟩ = some us[k])
    (hr : ∀ k (h : k < c.length) (h' : k < us.length), Rep K J c[k] us[k]) (n : Nat) : Rep K J (.cp (c.drop n)) (.pointer (some ⟨b.block, b.off + n, none⟩)) := by
  have rl : RepL K J c us := ⟨hl, hr⟩
  have rd := rl.drop n
  refine Rep.cp _ _ (us.drop n) rfl rd.1 (fun u hu => h1 u (List.mem_of_mem_drop hu)) (fun k hk => ?_) rd.2
  have := hK (n + k) (by simp at hk; omega)
  rw [List.getElem_drop, ← this]
  simp [Nat.add_assoc]

theorem op_indexAddr {t : TypeId} {x y : Operand} {r : ROp} {args : List L} {e : Eff} (ho : o.op = .indexAddr t x y) (hng : ∀ b, x ≠ .global b) (hrop : rop0 P (.indexAddr t x y) = some r) (h : HRel K J hp w)
    (he : RepL K J env a.tmps.toList) (ha : opds env (rargs r) = some args) (hn : nfn r args (look hp (rds r args)) = some e) (hx : enact lo hp e slot = some (d, hp')) :
    OpRes lo K J hp w d hp' ((execOp a.eval o).run P w) := by
  have e0 : rop0 P (.indexAddr t x y) = (match P.underlying t with
    | some (.slice e) => (sizeT P e).map fun n => .idxAddrSl n (ropd x) (ropd y)
    | some (.array n e) => (sizeT P e).map fun s => .idxAddrArr n s (ropd x) (ropd y)
    | _ => none) := by cases x <;> first | rfl | exact absurd rfl (hng _)
  rw [e0] at hrop
  split at hrop
  · rename_i el hu
    cases hs : sizeT P el with
    | none => rw [hs] at hrop; cases hrop
    | some n =>
      rw [hs] at hrop
      cases hrop
      obtain ⟨l, m, hl, hm, rfl⟩ := opds2 ha
      have r1 := eval_rep he hl
      have r2 := eval_rep he hm
      cases l with
      | osl ob off len esz =>
        cases m with
        | v q =>
          cases q <;> simp only [nfn, nfn1, reduceCtorEq] at hn
          rename_i k i
          split at hn
          · rename_i hc
            obtain ⟨rfl, h0, h1⟩ := hc
            cases hn
            have e2 := rep_int r2 rfl
            generalize hv : a.eval x = v at r1
            cases r1 with
            | osl _ _ _ _ cap win hj hcap hw hmx =>
              refine OpRes.pure h hx (v := .pointer (some ⟨win.blk, win.base + off + i.toNat * esz, none⟩)) ?_ ?_
              · simp only [execOp, ho, hv, e2, Sem.run_bind, run_indexBase hu hs (b := ⟨win.blk, win.base + off, none⟩) rfl h0 h1, Result.andThen_ok, Sem.run_pure]
              · have := Rep.ref (K := K) ob (off + i.toNat * esz) win hj
                simpa [Nat.add_assoc] using this
          · cases hn
        | _ => simp [nfn, nfn1] at hn
      | sl cs len esz =>
        cases m with
        | v q =>
          cases q <;> simp only [nfn, nfn1, reduceCtorEq] at hn
          rename_i k i
          split at hn
          · rename_i hc
            obtain ⟨rfl, h0, h1⟩ := hc
            cases hn
            have e2 := rep_int r2 rfl
            generalize hv : a.eval x = v at r1
            cases r1 with
            | sl _ _ _ cap b us hsp hcl hlen hcap hmx ho1 hK hr =>
              refine OpRes.pure h hx (v := .pointer (some ⟨b.block, b.off + i.toNat * esz, none⟩)) ?_ (cp_drop hlen ho1 hK hr _)
              simp only [execOp, ho, hv, e2, Sem.run_bind, run_indexBase hu hs hsp h0 h1, Result.andThen_ok, Sem.run_pure]
          · cases hn
        | _ => simp [nfn, nfn1] at hn
      | _ => simp [nfn, nfn1] at hn
  · rename_i m el hu
    cases hs : sizeT P el with
    | none => rw [hs] at hrop; cases hrop
    | some n =>
      rw [hs] at hrop
      cases hrop
      obtain ⟨l, m', hl, hm, rfl⟩ := opds2 ha
      have r1 := eval_rep he hl
      have r2 := eval_rep he hm
      cases l with
      | ref ob off =>
        cases m' with
        | v q =>
          cases q <;> simp only [nfn, nfn1, reduceCtorEq] at hn
          rename_i k i
          split at hn
          · rename_i hc
            cases hn
            have e2 := rep_int r2 rfl
            generalize hv : a.eval x = v at r1
            cases r1 with
            | ref _ _ win hj =>
              refine OpRes.pure h hx (v := .pointer (some ⟨win.blk, win.base + off + i.toNat * n, none⟩)) ?_ ?_
              · simp only [execOp, ho, hv, e2, Sem.run_bind, run_indexArr hu hs (b := ⟨win.blk, win.base + off, none⟩) rfl hc.1 hc.2, Result.andThen_ok, Sem.run_pure]
              · have := Rep.ref (K := K) ob (off + i.toNat * n) win hj
                simpa [Nat.add_assoc] using this
          · cases hn
        | _ => simp [nfn, nfn1] at hn
      | cp c =>
        cases m' with
        | v q =>
          cases q <;> simp only [nfn, nfn1, reduceCtorEq] at hn
          rename_i k i
          split at hn
          · rename_i hc
            cases hn
            have e2 := rep_int r2 rfl
            generalize hv : a.eval x = v at r1
            cases r1 with
            | cp _ b us hsp hlen ho1 hK hr =>
              refine OpRes.pure h hx (v := .pointer (some ⟨b.block, b.off + i.toNat * n, none⟩)) ?_ (cp_drop hlen ho1 hK hr _)
              simp only [execOp, ho, hv, e2, Sem.run_bind, run_indexArr hu hs hsp hc.1 hc.2, Result.andThen_ok, Sem.run_pure]
          · cases hn
        | _ => simp [nfn, nfn1] at hn
      | _ => simp [nfn, nfn1] at hn
  · cases hrop

end
end Lb
