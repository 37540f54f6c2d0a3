/- New slices, lengths, texts and bytes. -/
import Derived.Test.YtinijohmcofhmaaGreatDoorLbOps5
import Derived.Laws.BytesString
import Derived.Lib.ConvBytes
import Derived.Laws.MakeOwn
namespace Lb
open Go

section
variable {P : Program} {w : World} {K : Kn} {J : Jn} {hp hp' : List Ob} {lo : Nat} {slot : Option Nat} {d : L} {a : Act} {env : List L} {o : Oper}

/-- the source of an append, a copy, a conversion: how long it is, and its cells -/
theorem src_cells (h : HRel K J hp w) {l : L} {v : Value} (r : Rep K J l v) {obs : List (Option Ob)} {i esz m : Nat} {cs : List L} (hob : ∀ o off len e, l = .osl o off len e → ∀ c, contents obs i = some c → hp[o]? = some (.cells c))
    (e : slCells obs i esz l = some cs) (hm : slLen l = some m) :
    (Builtin.lenOf v).run P w = .ok m w ∧ ∃ us, RepC K J cs us ∧ us.length = m * esz ∧ ∀ w' : World, w'.heap = w.heap → ∀ k, k ≤ m → (Builtin.firstCells esz k v).run P w' = .ok (us.take (k * esz)).toArray w' := by
  have same : ∀ {w' : World}, w'.heap = w.heap → ∀ x, w'.cell? x = w.cell? x := fun hh x => by unfold World.cell?; rw [hh]
  cases r with
  | v _ hx =>
    cases v with
    | slice q len cap =>
      cases q with
      | none =>
        simp only [slCells, slLen] at e hm
        split at hm
        · rename_i h0
          subst h0
          rw [if_pos rfl] at e
          cases hm
          cases e
          exact ⟨by simp [Builtin.lenOf], [], RepC.nil, by simp, fun w' _ k _ => by simp [Builtin.firstCells]⟩
        · cases hm
      | some q => simp [slLen] at hm
    | string s =>
      simp only [slCells, slLen] at e hm
      split at e
      · rename_i h1
        subst h1
        cases e
        cases hm
        refine ⟨by simp [Builtin.lenOf], s.data.toList.map fun b => .int .u8 b.toNat, ?_, by simp only [List.length_map, Array.length_toList, Nat.mul_one]; rfl, ?_⟩
        · have := RepC.vs (K := K) (J := J) (us := s.data.toList.map fun b => Value.int .u8 b.toNat) (fun u hu => by
            obtain ⟨b, _, rfl⟩ := List.mem_map.1 hu; rfl)
          rw [List.map_map] at this
          exact this
        · intro w' _ k hk
          simp only [Builtin.firstCells, Sem.run_pure]
          congr 1
          apply Array.toList_inj.1
          simp
      · cases e
    | _ => simp [slLen] at hm
  | osl ob off len esz' cap win hj hc hw hmx =>
    simp only [slCells, slLen, Option.some.injEq] at e hm
    subst hm
    split at e
    · rename_i he
      subst he
      cases hcon : contents obs i with
      | none => rw [hcon] at e; cases e
      | some c =>
        rw [hcon] at e
        simp only [Option.bind_some] at e
        obtain ⟨win', us, hj', hr, hlen, hcell⟩ := h.read (hob ob off len esz' rfl c hcon) e
        rw [hj] at hj'
        cases hj'
        refine ⟨by simp [Builtin.lenOf], us, hr, hlen, ?_⟩
        intro w' hw' k hk
        simp only [Builtin.firstCells]
        have hke : k * esz' ≤ us.length := by rw [hlen]; exact Nat.mul_le_mul_right _ hk
        have := run_loadCells_at (P := P) (w := w') (a := ⟨win.blk, win.base + off, none⟩) rfl (us := us.take (k * esz')) (fun j hj => by
          have hj' : j < us.length := by simp at hj; omega
          rw [List.getElem_take, same hw']; exact hcell j hj')
        rwa [List.length_take, Nat.min_eq_left hke] at this
    · cases e
  | sl _ len esz' cap b us hsp hcl hl hc hmx h1 hK hr =>
    simp only [slCells, slLen, Option.some.injEq] at e hm
    subst hm
    split at e
    · rename_i he
      subst he
      cases e
      refine ⟨by simp [Builtin.lenOf], us, ⟨⟨hl, hr⟩, h1⟩, by omega, ?_⟩
      intro w' hw' k hk
      simp only [Builtin.firstCells]
      have hke : k * esz' ≤ us.length := by rw [hl, hcl]; exact Nat.mul_le_mul_right _ hk
      have := run_loadCells_at (P := P) (w := w') hsp (us := us.take (k * esz')) (fun j hj => by
        have hj' : j < us.length := by simp at hj; omega
        rw [List.getElem_take, same hw']; exact K_cell h (hK j hj'))
      rwa [List.length_take, Nat.min_eq_left hke] at this
    · cases e
  | _ => simp [slLen] at hm

theorem op_lenSl {t : TypeId} {x : Operand} {args : List L} {e : Eff} (ho : o.op = .call { callee := .builtin .len, args := #[x], argTypes := #[t] }) {el : TypeId} (hu : P.underlying t = some (.slice el)) (h : HRel K J hp w)
    (he : RepL K J env a.tmps.toList) (ha : opds env [ropd x] = some args) (hn : nfn (.lenSl (ropd x)) args [] = some e) (hx : enact lo hp e slot = some (d, hp')) :
    OpRes lo K J hp w d hp' ((execOp a.eval o).run P w) := by
  obtain ⟨l, hl, rfl⟩ := opds1 ha
  have r1 := eval_rep he hl
  have core : ∀ {b : Option Addr} {n c : Nat}, a.eval x = .slice b n c → (execOp a.eval o).run P w = .ok (.value (.int .i64 n)) w := by
    intro b n c hv
    simp [execOp, ho, resolve, invoke, builtin, hv, Builtin.len_, run_underlying hu, goInt]
  cases l with
  | v z =>
    cases z with
    | slice q n c =>
      cases q with
      | none =>
        simp only [nfn, nfn1] at hn
        cases hn
        generalize hv : a.eval x = v at r1
        cases r1
        exact OpRes.pure h hx (core hv) (.v _ rfl)
      | some q => simp [nfn, nfn1] at hn
    | _ => simp [nfn, nfn1] at hn
  | osl ob off len esz =>
    simp only [nfn, nfn1] at hn
    cases hn
    generalize hv : a.eval x = v at r1
    cases r1
    exact OpRes.pure h hx (core hv) (.v _ rfl)
  | sl cs len esz =>
    simp only [nfn, nfn1] at hn
    cases hn
    generalize hv : a.eval x = v at r1
    cases r1
    exact OpRes.pure h hx (core hv) (.v _ rfl)
  | _ => simp [nfn, nfn1] at hn

theorem op_lenStr {t : TypeId} {x : Operand} {args : List L} {e : Eff} (ho : o.op = .call { callee := .builtin .len, args := #[x], argTypes := #[t] }) (hu : P.underlying t = some .string) (h : HRel K J hp w)
    (he : RepL K J env a.tmps.toList) (ha : opds env [ropd x] = some args) (hn : nfn (.lenStr (ropd x)) args [] = some e) (hx : enact lo hp e slot = some (d, hp')) :
    OpRes lo K J hp w d hp' ((execOp a.eval o).run P w) := by
  obtain ⟨l, hl, rfl⟩ := opds1 ha
  have r1 := eval_rep he hl
  cases l with
  | v z =>
    cases z with
    | string s =>
      simp only [nfn, nfn1] at hn
      cases hn
      generalize hv : a.eval x = v at r1
      cases r1
      exact OpRes.pure h hx (v := .int .i64 s.size) (by simp [execOp, ho, resolve, invoke, builtin, hv, Builtin.len_, run_underlying hu, goInt]) (.v _ rfl)
    | _ => simp [nfn, nfn1] at hn
  | _ => simp [nfn, nfn1] at hn

theorem op_lenC {t el : TypeId} {n : Nat} {x : Operand} {args : List L} {e : Eff} (ho : o.op = .call { callee := .builtin .len, args := #[x], argTypes := #[t] }) (hu : P.underlying t = some (.array n el)) (h : HRel K J hp w)
    (ha : opds env [] = some args) (hn : nfn (.lenC n) args [] = some e) (hx : enact lo hp e slot = some (d, hp')) :
    OpRes lo K J hp w d hp' ((execOp a.eval o).run P w) := by
  cases omapO_nil ha
  simp only [nfn, nfn1] at hn
  cases hn
  exact OpRes.pure h hx (v := .int .i64 n) (by simp [execOp, ho, resolve, invoke, builtin, Builtin.len_, run_underlying hu, goInt]) (.v _ rfl)

theorem op_lenMap {t k el : TypeId} {x : Operand} {args : List L} {e : Eff} (ho : o.op = .call { callee := .builtin .len, args := #[x], argTypes := #[t] }) (hu : P.underlying t = some (.map k el)) (h : HRel K J hp w)
    (he : RepL K J env a.tmps.toList) (ha : opds env [ropd x] = some args) (hn : nfn (.lenMap (ropd x)) args (look hp (rds (.lenMap (ropd x)) args)) = some e) (hx : enact lo hp e slot = some (d, hp')) :
    OpRes lo K J hp w d hp' ((execOp a.eval o).run P w) := by
  obtain ⟨l, hl, rfl⟩ := opds1 ha
  have r1 := eval_rep he hl
  cases l with
  | v z =>
    cases z with
    | map q =>
      cases q with
      | none =>
        simp only [nfn, nfn1] at hn
        cases hn
        generalize hv : a.eval x = v at r1
        cases r1
        exact OpRes.pure h hx (v := .int .i64 0) (by simp [execOp, ho, resolve, invoke, builtin, hv, Builtin.len_, run_underlying hu, goInt]) (.v _ rfl)
      | some q => simp [nfn, nfn1] at hn
    | _ => simp [nfn, nfn1] at hn
  | omap ob =>
    simp only [nfn, nfn1, rds, look, List.map_cons, List.map_nil] at hn
    split at hn
    · rename_i es clock heq
      simp only [List.cons.injEq, and_true] at heq
      cases hn
      obtain ⟨win, hj, arr, g1, g2⟩ := h.ob ob _ heq rfl
      generalize hv : a.eval x = v at r1
      cases r1 with
      | omap _ win' hj' =>
        rw [hj] at hj'
        cases hj'
        refine OpRes.pure h hx (v := .int .i64 es.length) ?_ (.v _ rfl)
        have hgo : (getObj win.blk).run P w = .ok (.map arr clock) w := by simp [getObj, Sem.run, g1]
        have hsz : arr.size = es.length := by rw [← g2.1]; simp
        simp [execOp, ho, resolve, invoke, builtin, hv, Builtin.len_, run_underlying hu, goInt, hgo, hsz]
    · cases hn
  | _ => simp [nfn, nfn1] at hn

theorem op_makeMap {t : TypeId} {args : List L} {e : Eff} (ho : o.op = .makeMap t none) (h : HRel K J hp w) (hs : SlotOk hp slot)
    (ha : opds env [] = some args) (hn : nfn .mkMap args [] = some e) (hx : enact lo hp e slot = some (d, hp')) :
    OpRes lo K J hp w d hp' ((execOp a.eval o).run P w) := by
  cases omapO_nil ha
  simp only [nfn, nfn1] at hn
  cases hn
  have hx' : d = .omap (slotOf hp slot) ∧ hp' = putOb hp (.map [] 0) slot := by
    cases slot with
    | none => simp only [enact, fresh, Option.some.injEq, Prod.mk.injEq] at hx; exact ⟨hx.1.symm, hx.2.symm⟩
    | some s => simp only [enact, fresh, Option.some.injEq, Prod.mk.injEq] at hx; exact ⟨hx.1.symm, hx.2.symm⟩
  obtain ⟨rfl, rfl⟩ := hx'
  refine ⟨_, _, Post.new h hs (.map #[] 0) (.map [] 0) 0 0 ?_ rfl, .inl ⟨.map (some w.heap.size), ?_, Rep.omap _ ⟨w.heap.size, 0, 0⟩ (by unfold Jn.upd; rw [if_pos rfl])⟩⟩
  · exact ⟨#[], heap_push_eq, rfl, fun k hk => absurd hk (by simp)⟩
  · simp only [execOp, ho, Option.map_none, Instr.makeMap, Sem.run_bind, run_newObj, Result.andThen_ok, Sem.run_pure]
    rfl

theorem op_makeSlice {t : TypeId} {x y : Operand} {r : ROp} {args : List L} {e : Eff} (ho : o.op = .makeSlice t x y) (hrop : rop0 P (.makeSlice t x y) = some r) (h : HRel K J hp w) (hs : SlotOk hp slot)
    (he : RepL K J env a.tmps.toList) (ha : opds env (rargs r) = some args) (hn : nfn r args (look hp (rds r args)) = some e) (hx : enact lo hp e slot = some (d, hp')) :
    OpRes lo K J hp w d hp' ((execOp a.eval o).run P w) := by
  simp only [rop0, elemT] at hrop
  split at hrop
  · rename_i el hu
    simp only [Option.bind_some] at hrop
    cases hsz : sizeT P el with
    | none => rw [hsz] at hrop; cases hrop
    | some n =>
      rw [hsz] at hrop
      simp only [Option.bind_some] at hrop
      cases hby : bytesT P el with
      | none => rw [hby] at hrop; cases hrop
      | some b =>
        rw [hby] at hrop
        simp only [Option.bind_some] at hrop
        cases hz : zeroC P el with
        | none => rw [hz] at hrop; cases hrop
        | some z =>
          rw [hz] at hrop
          simp only [Option.bind_some] at hrop
          split at hrop
          · cases hrop
          · rename_i hnz
            cases hrop
            simp only [not_or, ne_eq, Decidable.not_not] at hnz
            obtain ⟨l, q, hl, hq, rfl⟩ := opds2 ha
            have r1 := eval_rep he hl
            have r2 := eval_rep he hq
            cases l with
            | v l =>
              cases q with
              | v q =>
                cases l <;> (try (simp [nfn, nfn1] at hn; done))
                rename_i kl li
                cases q <;> (try (simp [nfn, nfn1] at hn; done))
                rename_i kc ci
                simp only [nfn, nfn1] at hn
                split at hn
                · rename_i hc
                  cases hn
                  have e1 := rep_int r1 rfl
                  have e2 := rep_int r2 rfl
                  obtain ⟨zv, us, hzv, hzc, rfl, h1⟩ := zeroC_rep hz
                  unfold sizeT at hsz
                  unfold bytesT at hby
                  unfold zeroT at hzv
                  cases hi : P.info? el with
                  | none => rw [hi] at hsz; cases hsz
                  | some inf =>
                    rw [hi] at hsz hby hzv
                    simp only [Option.map_some, Option.some.injEq, Option.bind_some] at hsz hby hzv
                    obtain ⟨h0, hlc, hcb, hcm⟩ := hc
                    have hun : us.length = n := by simpa using hnz.2
                    have hrun := run_make (P := P) w t el inf zv hu hi hzv kl kc li ci h0 hlc (by rw [hby]; rw [Int.mul_comm]; omega) (by omega)
                    have hmade : madeCells zv.cells (ci.toNat * inf.size) = (List.replicate ci.toNat us).flatten.toArray := by
                      rw [hzc, hsz]
                      apply Array.toList_inj.1
                      rw [List.toList_toArray]
                      apply List.ext_getElem
                      · simp [madeCells, hun]
                      · intro k hk1 hk2
                        have hk : k < ci.toNat * n := by simpa [madeCells] using hk1
                        have hmod : k % n < us.length := by rw [hun]; exact Nat.mod_lt _ (by omega)
                        have key : ∀ (m k : Nat) (hk : k < (List.replicate m us).flatten.length), (List.replicate m us).flatten[k] = us[k % n]'(by rw [hun]; exact Nat.mod_lt _ (by omega)) := by
                          intro m
                          induction m with
                          | zero => intro k hk; simp at hk
                          | succ m ih =>
                            intro k hk
                            simp only [List.replicate_succ, List.flatten_cons]
                            by_cases hkl : k < us.length
                            · rw [List.getElem_append_left hkl]
                              congr 1
                              rw [Nat.mod_eq_of_lt (by omega)]
                            · rw [List.getElem_append_right (by omega), ih]
                              congr 1
                              rw [hun, ← Nat.mod_eq_sub_mod (by omega)]
                        rw [key]
                        simp [madeCells, hun]
                        rw [List.getElem?_eq_getElem hmod]; rfl
                    rw [hmade] at hrun
                    refine OpRes.cells (us := (List.replicate ci.toNat us).flatten) (spare := []) (el := el) h hs hx (RepC.flatten_replicate (RepC.vs h1)) (v := .slice (some ⟨w.heap.size, 0, none⟩) li.toNat ci.toNat) ?_
                      (Rep.osl _ 0 li.toNat n ci.toNat ⟨w.heap.size, 0, (List.replicate ci.toNat us).flatten.length + ([] : List Value).length⟩ (by unfold Jn.upd; rw [if_pos rfl]) (by omega) (by simp [hun]) (by omega))
                    simp only [execOp, ho, e1, e2, Sem.run_bind, hrun, Result.andThen_ok, Sem.run_pure, List.append_nil]
                · cases hn
              | _ => simp [nfn, nfn1] at hn
            | _ => simp [nfn, nfn1] at hn
  · cases hrop

theorem op_buildSlice {t : TypeId} {len : Nat} {parts : Array (Nat × Operand)} {r : ROp} {args : List L} {e : Eff} (ho : o.op = .buildSlice t len parts) (hrop : rop0 P (.buildSlice t len parts) = some r) (h : HRel K J hp w) (hs : SlotOk hp slot)
    (he : RepL K J env a.tmps.toList) (ha : opds env (rargs r) = some args) (hn : nfn r args (look hp (rds r args)) = some e) (hx : enact lo hp e slot = some (d, hp')) :
    OpRes lo K J hp w d hp' ((execOp a.eval o).run P w) := by
  simp only [rop0, elemT] at hrop
  split at hrop
  · rename_i el hu
    simp only [Option.bind_some] at hrop
    cases hsz : sizeT P el with
    | none => rw [hsz] at hrop; cases hrop
    | some n =>
      rw [hsz] at hrop
      simp only [Option.bind_some] at hrop
      cases hz : zeroC P el with
      | none => rw [hz] at hrop; cases hrop
      | some z =>
        rw [hz] at hrop
        simp only [Option.bind_some] at hrop
        split at hrop
        · cases hrop
        · rename_i hnz
          simp only [not_or, ne_eq, Decidable.not_not] at hnz
          obtain ⟨hn0, hzl, hbig⟩ := hnz
          cases hps : partsOf (fun i => some (i * n, n)) parts.toList with
          | none => rw [hps] at hrop; cases hrop
          | some ps =>
            rw [hps] at hrop
            cases hrop
            simp only [nfn, nfn1] at hn
            cases hf : fillC (List.replicate len z).flatten ((ps.zip args).map fun p => (p.1.1, p.1.2.1, p.2)) with
            | none => rw [hf] at hn; cases hn
            | some cs =>
              rw [hf] at hn
              cases hn
              obtain ⟨zv, us, hzv, hzc, rfl, h1⟩ := zeroC_rep hz
              have hun : us.length = n := by simpa using hzl
              obtain ⟨us', hfill, hr⟩ := fill_sound he hps ha (RepC.flatten_replicate (RepC.vs h1)) hf
              have hmade : (Array.range (len * n)).map (fun i => zv.cells[i % zv.cells.size]!) = (List.replicate len us).flatten.toArray := by
                rw [hzc]
                apply Array.toList_inj.1
                rw [List.toList_toArray]
                apply List.ext_getElem
                · simp [hun]
                · intro k hk1 hk2
                  have key : ∀ (m k : Nat) (hk : k < (List.replicate m us).flatten.length), (List.replicate m us).flatten[k] = us[k % n]'(by rw [hun]; exact Nat.mod_lt _ (by omega)) := by
                    intro m
                    induction m with
                    | zero => intro k hk; simp at hk
                    | succ m ih =>
                      intro k hk
                      simp only [List.replicate_succ, List.flatten_cons]
                      by_cases hkl : k < us.length
                      · rw [List.getElem_append_left hkl]
                        congr 1
                        rw [Nat.mod_eq_of_lt (by omega)]
                      · rw [List.getElem_append_right (by omega), ih]
                        congr 1
                        rw [hun, ← Nat.mod_eq_sub_mod (by omega)]
                  rw [key]
                  have hmod : k % n < us.length := by rw [hun]; exact Nat.mod_lt _ (by omega)
                  simp [hun]
                  rw [List.getElem?_eq_getElem hmod]; rfl
              have hlen' : cs.length = len * n := by
                have : ∀ {c c' : List L} {l : List (Nat × Nat × L)}, fillC c l = some c' → c'.length = c.length := by
                  intro c c' l
                  induction l generalizing c with
                  | nil => intro hh; simp [fillC] at hh; rw [hh]
                  | cons p l ih =>
                    intro hh
                    simp only [fillC] at hh
                    split at hh
                    · cases hsp : splice c p.1 p.2.2.cells with
                      | none => rw [hsp] at hh; cases hh
                      | some c1 =>
                        rw [hsp] at hh
                        rw [ih hh]
                        unfold splice at hsp
                        split at hsp
                        · cases hsp; simp; omega
                        · cases hsp
                    · cases hh
                rw [this hf]; simp [hun]
              have hus : us'.length = len * n := by rw [hr.len, hlen']
              refine OpRes.cells (us := us') (spare := []) (el := el) h hs hx hr (v := .slice (some ⟨w.heap.size, 0, none⟩) len len) ?_
                (Rep.osl _ 0 len n len ⟨w.heap.size, 0, us'.length + ([] : List Value).length⟩ (by unfold Jn.upd; rw [if_pos rfl]) (Nat.le_refl _) (by simp [hus]) ?_)
              · simp only [execOp, ho, Instr.buildSlice, Sem.run_bind, run_underlying hu, Result.andThen_ok, run_sizeT hsz]
                have e0 : ¬ (len * n > 2 ^ 24) := by simpa using hbig
                rw [if_neg e0]
                by_cases hln : len * n = 0
                · have hl0 : len = 0 := by
                    rcases Nat.mul_eq_zero.1 hln with h' | h'
                    · exact h'
                    · exact absurd h' hn0
                  subst hl0
                  simp only [hln, if_true, Sem.run_bind, Sem.run_pure, Result.andThen_ok, Array.toList_map]
                  have e1 : ((Array.range 0).map fun x => (#[] : Array Value)[x % (#[] : Array Value).size]!) = ([] : List Value).toArray := by simp
                  simp only [List.replicate_zero, List.flatten_nil] at hfill
                  rw [e1, hfill]
                  simp only [newRow, Sem.run_bind, run_newObj, Result.andThen_ok, Sem.run_pure, List.append_nil]
                  rfl
                · simp only [hln, if_false, Sem.run_bind, run_zeroT hzv, Sem.run_pure, Result.andThen_ok, Array.toList_map]
                  rw [hmade, hfill]
                  simp only [newRow, Sem.run_bind, run_newObj, Result.andThen_ok, Sem.run_pure, List.append_nil]
                  rfl
              · have : len ≤ len * n := Nat.le_mul_of_pos_right _ (by omega)
                omega
  · cases hrop

end
end Lb
