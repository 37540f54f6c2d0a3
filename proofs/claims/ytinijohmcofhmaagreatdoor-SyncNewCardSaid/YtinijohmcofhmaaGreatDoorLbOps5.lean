/- Indexes, lengths, slices, new slices, conversions of texts. -/
import Derived.Test.YtinijohmcofhmaaGreatDoorLbOps4
namespace Lb
open Go

section
variable {P : Program} {w : World} {K : Kn} {J : Jn} {hp hp' : List Ob} {lo : Nat} {slot : Option Nat} {d : L} {a : Act} {env : List L} {o : Oper}

theorem op_index {t : TypeId} {x y : Operand} {r : ROp} {args : List L} {e : Eff} (ho : o.op = .index t x y) (hrop : rop0 P (.index t x y) = some r) (h : HRel K J hp w)
    (he : RepL K J env a.tmps.toList) (ha : opds env (rargs r) = some args) (hn : nfn r args (look hp (rds r args)) = some e) (hx : enact lo hp e slot = some (d, hp')) :
    OpRes lo K J hp w d hp' ((execOp a.eval o).run P w) := by
  simp only [rop0] at hrop
  split at hrop
  · rename_i n el hu
    cases hs : sizeT P el with
    | none => rw [hs] at hrop; cases hrop
    | some m =>
      rw [hs] at hrop
      simp only [Option.bind_some] at hrop
      cases hg : isAggT P el with
      | none => rw [hg] at hrop; cases hrop
      | some g =>
        rw [hg] at hrop
        simp only [Option.bind_some] at hrop
        split at hrop
        · cases hrop
          obtain ⟨l, q, hl, hq, rfl⟩ := opds2 ha
          have r1 := eval_rep he hl
          have r2 := eval_rep he hq
          cases l with
          | agg cs =>
            cases q with
            | v q =>
              cases q <;> simp only [nfn, nfn1, reduceCtorEq] at hn
              rename_i k i
              split at hn
              · rename_i hc
                cases hext : ext cs (i.toNat * m) m with
                | none => rw [hext] at hn; cases hn
                | some c =>
                  rw [hext] at hn
                  simp only [Option.bind_some] at hn
                  cases hof : ofCells g c with
                  | none => rw [hof] at hn; cases hn
                  | some l' =>
                    rw [hof] at hn
                    cases hn
                    have e2 := rep_int r2 rfl
                    generalize hv : a.eval x = v at r1
                    cases r1 with
                    | agg _ us hl h1 hr =>
                      obtain ⟨hr', hle, hcl⟩ := RepC.ext (c := cs) (us := us) ⟨⟨hl, hr⟩, h1⟩ hext
                      obtain ⟨v', hv', hrv⟩ := Rep.ofCells hr' hof
                      refine OpRes.pure h hx (v := v') ?_ hrv
                      have := run_part_at (P := P) (w := w) hg hs hv'
                      simp only [execOp, ho, Instr.index, asIntOf, Sem.run_bind, run_underlying hu, Result.andThen_ok, hv, e2, Sem.run_pure, hc.1, hc.2, and_self, if_true, run_sizeT hs, this]
              · cases hn
            | _ => simp [nfn, nfn1] at hn
          | _ => simp [nfn, nfn1] at hn
        · cases hrop
  · rename_i hu
    cases hrop
    obtain ⟨l, q, hl, hq, rfl⟩ := opds2 ha
    have r1 := eval_rep he hl
    have r2 := eval_rep he hq
    cases l with
    | v z =>
      cases z with
      | string s =>
        cases q with
        | v q =>
          cases q <;> simp only [nfn, nfn1, reduceCtorEq] at hn
          rename_i k i
          split at hn
          · rename_i hc
            cases hb : s.data.toList[i.toNat]? with
            | none => rw [hb] at hn; cases hn
            | some b =>
              rw [hb] at hn
              cases hn
              have e2 := rep_int r2 rfl
              generalize hv : a.eval x = v at r1
              cases r1
              have hb' : s[i.toNat]? = some b := by
                rw [Array.getElem?_toList] at hb
                obtain ⟨hlt, e⟩ := Array.getElem?_eq_some_iff.1 hb
                rw [getElem?_pos s i.toNat (by exact hlt)]
                exact congrArg some e
              refine OpRes.pure h hx (v := .int .u8 b.toNat) ?_ (.v _ rfl)
              simp only [execOp, ho, Instr.index, asIntOf, Sem.run_bind, run_underlying hu, Result.andThen_ok, hv, e2, Sem.run_pure, hc, if_true, hb']
          · cases hn
        | _ => simp [nfn, nfn1] at hn
      | _ => simp [nfn, nfn1] at hn
    | _ => simp [nfn, nfn1] at hn
  · cases hrop

theorem op_assert {t xt : TypeId} {x : Operand} {ok : Bool} {r : ROp} {args : List L} {e : Eff} (ho : o.op = .typeAssert x xt t ok) (hrop : rop0 P (.typeAssert x xt t ok) = some r) (h : HRel K J hp w)
    (he : RepL K J env a.tmps.toList) (ha : opds env (rargs r) = some args) (hn : nfn r args (look hp (rds r args)) = some e) (hx : enact lo hp e slot = some (d, hp')) :
    OpRes lo K J hp w d hp' ((execOp a.eval o).run P w) := by
  simp only [rop0] at hrop
  have two : ∀ {l : L} {v : Value} {b : Bool}, Rep K J l v → Rep K J (.tup [l, .v (.bool b)]) (.tuple #[v, .bool b]) := by
    intro l v b hr
    have := RepL.cons hr (RepL.cons (.v (.bool b) rfl) RepL.nil) (K := K) (J := J)
    exact .tup _ [v, .bool b] this.1 this.2
  split at hrop
  · cases hrop
  · rename_i D hni hu
    cases hz : zeroL P t with
    | none => rw [hz] at hrop; cases hrop
    | some z =>
      rw [hz] at hrop
      cases hrop
      unfold zeroL at hz
      cases hzv : zeroT P t with
      | none => rw [hzv] at hz; cases hz
      | some zv =>
        rw [hzv] at hz
        cases hz
        obtain ⟨l, hl, rfl⟩ := opds1 ha
        have r1 := eval_rep he hl
        cases l with
        | ifc u y =>
          simp only [nfn, nfn1] at hn
          generalize hv : a.eval x = v at r1
          cases r1 with
          | ifc _ _ yv hy =>
            split at hn
            · rename_i hut
              subst hut
              cases hn
              cases ok with
              | true =>
                refine OpRes.pure h hx (v := .tuple #[yv, .bool true]) ?_ (two hy)
                simp only [execOp, ho, Instr.typeAssert, Sem.run_bind, run_underlying hu, Result.andThen_ok, hv]
                cases D <;> first | exact absurd rfl (hni _) | simp
              | false =>
                refine OpRes.pure h hx (v := yv) ?_ hy
                simp only [execOp, ho, Instr.typeAssert, Sem.run_bind, run_underlying hu, Result.andThen_ok, hv]
                cases D <;> first | exact absurd rfl (hni _) | simp
            · rename_i hut
              split at hn
              · rename_i hok
                subst hok
                cases hn
                refine OpRes.pure h hx (v := .tuple #[zv, .bool false]) ?_ (two (rep_constL _))
                simp only [execOp, ho, Instr.typeAssert, Sem.run_bind, run_underlying hu, Result.andThen_ok, hv]
                cases D <;> first | exact absurd rfl (hni _) | simp [hut, run_zeroT hzv]
              · cases hn
        | v q =>
          cases q <;> simp only [nfn, nfn1, reduceCtorEq] at hn
          split at hn
          · rename_i hok
            subst hok
            cases hn
            generalize hv : a.eval x = v at r1
            cases r1
            refine OpRes.pure h hx (v := .tuple #[zv, .bool false]) ?_ (two (rep_constL _))
            simp only [execOp, ho, Instr.typeAssert, Sem.run_bind, run_underlying hu, Result.andThen_ok, hv]
            cases D <;> first | exact absurd rfl (hni _) | simp [run_zeroT hzv]
          · cases hn
        | _ => simp [nfn, nfn1] at hn
  · cases hrop

/- slices of slices and texts -/

theorem run_bounds {isS hasLo hasHi : Bool} {len cap : Nat} {lo hi : Option Value} {ls : List L} {p : Nat × Nat} (hlo : lo.isSome = hasLo) (hhi : hi.isSome = hasHi) (hr : RepL K J ls (lo.toList ++ hi.toList))
    (hb : bounds hasLo hasHi len ls = some p) (hc : len ≤ cap) : (Instr.sliceBounds isS len cap lo hi none).run P w = .ok (p.1, p.2, cap) w ∧ p.1 ≤ p.2 ∧ p.2 ≤ len ∧ (hasLo = false → p.1 = 0) := by
  unfold bounds at hb
  cases lo with
  | none =>
    cases hlo
    cases hi with
    | none =>
      cases hhi
      split at hb
      · rename_i h1 _ _; cases hb; exact ⟨by simp [Instr.sliceBounds], by simp, Nat.le_refl _, fun _ => rfl⟩
      · simp_all
      · simp_all
      · simp_all
      · cases hb
    | some hv =>
      cases hhi
      split at hb
      · simp_all
      · simp_all
      · rename_i k i _ _
        split at hb
        · rename_i hle
          cases hb
          obtain ⟨u, us', e1, e2, _⟩ := hr.out_cons
          simp at e1
          obtain ⟨rfl, _⟩ := e1
          cases e2
          refine ⟨?_, by simp, by simp; omega, fun _ => rfl⟩
          have : (i : Int) ≤ cap := by omega
          simp [Instr.sliceBounds, Instr.sliceBound, asIntOf, hle.1, this]
        · cases hb
      · simp_all
      · cases hb
  | some lv =>
    cases hlo
    cases hi with
    | none =>
      cases hhi
      split at hb
      · simp_all
      · rename_i k i _ _
        split at hb
        · rename_i hle
          cases hb
          obtain ⟨u, us', e1, e2, _⟩ := hr.out_cons
          simp at e1
          obtain ⟨rfl, _⟩ := e1
          cases e2
          refine ⟨?_, by simp; omega, by simp, fun h => by cases h⟩
          simp [Instr.sliceBounds, Instr.sliceBound, asIntOf, hle.1, hle.2]
        · cases hb
      · simp_all
      · simp_all
      · cases hb
    | some hv =>
      cases hhi
      split at hb
      · simp_all
      · simp_all
      · simp_all
      · rename_i k i k' j _ _
        split at hb
        · rename_i hle
          cases hb
          obtain ⟨u, us', e1, e2, e3⟩ := hr.out_cons
          simp at e1
          obtain ⟨rfl, rfl⟩ := e1
          cases e2
          obtain ⟨u, us', e1, e2, e3⟩ := e3.out_cons
          simp at e1
          obtain ⟨rfl, _⟩ := e1
          cases e2
          obtain ⟨g1, g2, g3, g4⟩ := hle
          have c1 : (j : Int) ≤ cap := by omega
          refine ⟨?_, by simp; omega, by simp; omega, fun h => by cases h⟩
          have c2 : i ≤ ((j.toNat : Nat) : Int) := by omega
          simp [Instr.sliceBounds, Instr.sliceBound, asIntOf, g1, c1, g3]
          intro hlt; omega
        · cases hb
      · cases hb

theorem opt_rep (he : RepL K J env a.tmps.toList) {x : Operand} {lo hi : Option Operand} {args : List L} (ha : opds env (ropd x :: (lo.map ropd).toList ++ (hi.map ropd).toList) = some args) :
    ∃ l ls, args = l :: ls ∧ Rep K J l (a.eval x) ∧ RepL K J ls ((lo.map a.eval).toList ++ (hi.map a.eval).toList) := by
  obtain ⟨l, ls, h1, h2, rfl⟩ := omapO_cons (xs := (lo.map ropd).toList ++ (hi.map ropd).toList) ha
  refine ⟨l, ls, rfl, eval_rep he h1, ?_⟩
  have e : (lo.map ropd).toList ++ (hi.map ropd).toList = (lo.toList ++ hi.toList).map ropd := by cases lo <;> cases hi <;> rfl
  rw [e] at h2
  have := opds_rep he h2
  have e' : (lo.toList ++ hi.toList).map a.eval = (lo.map a.eval).toList ++ (hi.map a.eval).toList := by cases lo <;> cases hi <;> rfl
  rwa [e'] at this

theorem op_slice {t : TypeId} {x : Operand} {lo' hi' : Option Operand} {r : ROp} {args : List L} {e : Eff} (ho : o.op = .slice t x lo' hi' none) (hrop : rop0 P (.slice t x lo' hi' none) = some r) (h : HRel K J hp w)
    (he : RepL K J env a.tmps.toList) (ha : opds env (rargs r) = some args) (hn : nfn r args (look hp (rds r args)) = some e) (hx : enact lo hp e slot = some (d, hp')) :
    OpRes lo K J hp w d hp' ((execOp a.eval o).run P w) := by
  have iso : ∀ (q : Option Operand), (q.map ropd).isSome = q.isSome := fun q => by cases q <;> rfl
  have isv : ∀ (q : Option Operand), (q.map a.eval).isSome = q.isSome := fun q => by cases q <;> rfl
  simp only [rop0] at hrop
  split at hrop
  · rename_i hu
    cases hrop
    obtain ⟨l, ls, rfl, r1, r2⟩ := opt_rep he ha
    cases l with
    | v z =>
      cases z with
      | string s =>
        simp only [nfn, nfn1, iso] at hn
        cases hb : bounds lo'.isSome hi'.isSome s.size ls with
        | none => rw [hb] at hn; cases hn
        | some p =>
          rw [hb] at hn
          cases hn
          generalize hv : a.eval x = v at r1
          cases r1
          obtain ⟨hrun, _⟩ := run_bounds (P := P) (w := w) (isS := false) (cap := s.size) (isv lo') (isv hi') r2 hb (Nat.le_refl _)
          refine OpRes.pure h hx (v := .string (s.extract p.1 p.2)) ?_ (.v _ rfl)
          simp only [execOp, ho, hv, Instr.sliceAt, Instr.slice, Sem.run_bind, run_underlying hu, Result.andThen_ok, Option.map_none, Option.isSome_none, Bool.false_eq_true, if_false, hrun, Sem.run_pure]
      | _ => simp [nfn, nfn1] at hn
    | _ => simp [nfn, nfn1] at hn
  · rename_i el hu
    cases hs : sizeT P el with
    | none => rw [hs] at hrop; cases hrop
    | some n =>
      rw [hs] at hrop
      simp only [Option.bind_some] at hrop
      split at hrop
      · cases hrop
      · rename_i hn0
        cases hrop
        obtain ⟨l, ls, rfl, r1, r2⟩ := opt_rep he ha
        cases l with
        | osl ob off len esz =>
          simp only [nfn, nfn1, iso] at hn
          split at hn
          · rename_i hesz
            subst hesz
            cases hb : bounds lo'.isSome hi'.isSome len ls with
            | none => rw [hb] at hn; cases hn
            | some p =>
              rw [hb] at hn
              cases hn
              generalize hv : a.eval x = v at r1
              cases r1 with
              | osl _ _ _ _ cap win hj hcap hw hmx =>
                obtain ⟨hrun, hp1, hp2, hp3⟩ := run_bounds (P := P) (w := w) (isS := true) (cap := cap) (isv lo') (isv hi') r2 hb hcap
                have hrun2 : (execOp a.eval o).run P w = .ok (.value (.slice (if cap = p.1 then some ⟨win.blk, win.base + off, none⟩ else some ⟨win.blk, win.base + off + p.1 * esz, none⟩) (p.2 - p.1) (cap - p.1))) w := by
                  simp only [execOp, ho, hv, Instr.sliceAt, Instr.slice, Sem.run_bind, run_underlying hu, Result.andThen_ok, Option.map_none, hrun, run_sizeT hs, Sem.run_pure, Option.map_some]
                  rw [addr_add (by rfl)]
                by_cases hend : lo'.isSome = true ∧ p.1 = len
                · have e0 : (lo'.isSome && p.1 == len) = true := by simp [hend.1, hend.2]
                  rw [if_pos e0] at hx
                  have hp12 : p.2 - p.1 = 0 := by omega
                  refine OpRes.pure h hx hrun2 ?_
                  rw [hp12]
                  split
                  · exact .sl [] 0 esz _ _ [] rfl (by simp) rfl (Nat.zero_le _) (by omega) (by simp) (fun k hk => absurd hk (by simp)) (fun k hk => absurd hk (by simp))
                  · exact .sl [] 0 esz _ _ [] rfl (by simp) rfl (Nat.zero_le _) (by omega) (by simp) (fun k hk => absurd hk (by simp)) (fun k hk => absurd hk (by simp))
                · have e0 : (lo'.isSome && p.1 == len) = false := by
                    cases hl : lo'.isSome
                    · rfl
                    · simp only [Bool.true_and, beq_eq_false_iff_ne]; exact fun e => hend ⟨hl, e⟩
                  rw [if_neg (by rw [e0]; simp)] at hx
                  refine OpRes.pure h hx hrun2 ?_
                  by_cases hcp : cap = p.1
                  · -- then nothing is cut off: it begins at 0
                    have hl0 : lo'.isSome = false := by
                      cases hl : lo'.isSome
                      · rfl
                      · exact absurd ⟨hl, by omega⟩ hend
                    have hp0 : p.1 = 0 := hp3 hl0
                    rw [if_pos hcp, hp0]
                    simp only [Nat.zero_mul, Nat.add_zero, Nat.sub_zero]
                    exact .osl ob off p.2 esz cap win hj (by omega) hw hmx
                  · rw [if_neg hcp]
                    have hmul : p.1 * esz + (cap - p.1) * esz = cap * esz := by rw [← Nat.add_mul]; congr 1; omega
                    have := Rep.osl (K := K) ob (off + p.1 * esz) (p.2 - p.1) esz (cap - p.1) win hj (by omega) (by omega) (by omega)
                    simpa [Nat.add_assoc] using this
          · cases hn
        | sl cs len esz =>
          simp only [nfn, nfn1, iso] at hn
          split at hn
          · rename_i hesz
            subst hesz
            cases hb : bounds lo'.isSome hi'.isSome len ls with
            | none => rw [hb] at hn; cases hn
            | some p =>
              rw [hb] at hn
              cases hn
              generalize hv : a.eval x = v at r1
              cases r1 with
              | sl _ _ _ cap b us hsp hcl hlen hcap hmx ho1 hK hr =>
                obtain ⟨hrun, hp1, hp2, hp3⟩ := run_bounds (P := P) (w := w) (isS := true) (cap := cap) (isv lo') (isv hi') r2 hb hcap
                have hrun2 : (execOp a.eval o).run P w = .ok (.value (.slice (if cap = p.1 then some b else some ⟨b.block, b.off + p.1 * esz, none⟩) (p.2 - p.1) (cap - p.1))) w := by
                  simp only [execOp, ho, hv, Instr.sliceAt, Instr.slice, Sem.run_bind, run_underlying hu, Result.andThen_ok, Option.map_none, hrun, run_sizeT hs, Sem.run_pure, Option.map_some]
                  rw [addr_add hsp]
                refine OpRes.pure h hx hrun2 ?_
                have rl : RepL K J cs us := ⟨hlen, hr⟩
                have rd := (rl.drop (p.1 * esz)).take ((p.2 - p.1) * esz)
                have hmul : p.1 * esz + (p.2 - p.1) * esz ≤ len * esz := by rw [← Nat.add_mul]; exact Nat.mul_le_mul_right _ (by omega)
                have hcl' : ((cs.drop (p.1 * esz)).take ((p.2 - p.1) * esz)).length = (p.2 - p.1) * esz := by simp [hcl]; omega
                by_cases hcp : cap = p.1
                · rw [if_pos hcp]
                  have h0 : p.2 - p.1 = 0 := by omega
                  rw [h0]
                  simp only [Nat.zero_mul, List.take_zero]
                  exact .sl [] 0 esz _ _ [] hsp (by simp) rfl (Nat.zero_le _) (by omega) (by simp) (fun k hk => absurd hk (by simp)) (fun k hk => absurd hk (by simp))
                · rw [if_neg hcp]
                  refine .sl _ _ _ _ _ ((us.drop (p.1 * esz)).take ((p.2 - p.1) * esz)) rfl hcl' rd.1 (by omega) (by omega) (fun u hu => ho1 u (List.mem_of_mem_drop (List.mem_of_mem_take hu))) (fun k hk => ?_) rd.2
                  have hk' : p.1 * esz + k < us.length := by simp at hk; omega
                  have := hK _ hk'
                  rw [List.getElem_take, List.getElem_drop, ← this]
                  simp [Nat.add_assoc]
          · cases hn
        | v z =>
          cases z with
          | slice q l c =>
            cases q with
            | none =>
              simp only [nfn, nfn1, iso] at hn
              split at hn
              · rename_i h00
                obtain ⟨rfl, rfl⟩ := h00
                cases hb : bounds lo'.isSome hi'.isSome 0 ls with
                | none => rw [hb] at hn; cases hn
                | some p =>
                  rw [hb] at hn
                  cases hn
                  generalize hv : a.eval x = v at r1
                  cases r1
                  obtain ⟨hrun, hp1, hp2, hp3⟩ := run_bounds (P := P) (w := w) (isS := true) (cap := 0) (isv lo') (isv hi') r2 hb (Nat.le_refl _)
                  refine OpRes.pure h hx (v := .slice none 0 0) ?_ (.v _ rfl)
                  have e1 : p.1 = 0 := by omega
                  have e2 : p.2 = 0 := by omega
                  simp only [execOp, ho, hv, Instr.sliceAt, Instr.slice, Sem.run_bind, run_underlying hu, Result.andThen_ok, Option.map_none, hrun, run_sizeT hs, Sem.run_pure, e1, e2, Nat.sub_self, if_true]
              · cases hn
            | some q => simp [nfn, nfn1] at hn
          | _ => simp [nfn, nfn1] at hn
        | _ => simp [nfn, nfn1] at hn
  · rename_i n el hu
    cases hs : sizeT P el with
    | none => rw [hs] at hrop; cases hrop
    | some m =>
      rw [hs] at hrop
      simp only [Option.bind_some] at hrop
      split at hrop
      · cases hrop
      · rename_i hn0
        cases hrop
        obtain ⟨l, ls, rfl, r1, r2⟩ := opt_rep he ha
        cases l with
        | ref ob off =>
          simp only [nfn, nfn1, iso, rds] at hn
          cases hc : contents (look hp [ob]) 0 with
          | none => rw [hc] at hn; cases hn
          | some c =>
            rw [hc] at hn
            simp only [Option.bind_some] at hn
            split at hn
            · rename_i hle
              cases hb : bounds lo'.isSome hi'.isSome n ls with
              | none => rw [hb] at hn; cases hn
              | some p =>
                rw [hb] at hn
                cases hn
                simp only [] at hx
                generalize hv : a.eval x = v at r1
                cases r1 with
                | ref _ _ win hj =>
                  obtain ⟨win', hj', arr, el', fz, us, g1, g2, g3, g4, g5, g6⟩ := h.ob ob _ (contents0 hc) rfl
                  rw [hj] at hj'
                  cases hj'
                  have hlen := g4.len
                  obtain ⟨hrun, hp1, hp2, hp3⟩ := run_bounds (P := P) (w := w) (isS := false) (cap := n) (isv lo') (isv hi') r2 hb (Nat.le_refl _)
                  have hrun2 : (execOp a.eval o).run P w = .ok (.value (.slice (some (if n = p.1 then ⟨win.blk, win.base + off, none⟩ else ⟨win.blk, win.base + off + p.1 * m, none⟩)) (p.2 - p.1) (n - p.1))) w := by
                    simp only [execOp, ho, hv, Instr.sliceAt, Instr.sureAddr, Sem.run_bind, run_underlying hu, Result.andThen_ok, Option.map_none, hrun, run_sizeT hs, Sem.run_pure]
                    rw [addr_add (by rfl)]
                  by_cases hend : lo'.isSome = true ∧ p.1 = n
                  · have e0 : (lo'.isSome && p.1 == n) = true := by simp [hend.1, hend.2]
                    rw [if_pos e0] at hx
                    have hp12 : p.2 - p.1 = 0 := by omega
                    refine OpRes.pure h hx hrun2 ?_
                    rw [hp12, if_pos hend.2.symm]
                    exact .sl [] 0 m _ _ [] rfl (by simp) rfl (Nat.zero_le _) (by omega) (by simp) (fun k hk => absurd hk (by simp)) (fun k hk => absurd hk (by simp))
                  · have e0 : (lo'.isSome && p.1 == n) = false := by
                      cases hl : lo'.isSome
                      · rfl
                      · simp only [Bool.true_and, beq_eq_false_iff_ne]; exact fun e => hend ⟨hl, e⟩
                    rw [if_neg (by rw [e0]; simp)] at hx
                    refine OpRes.pure h hx hrun2 ?_
                    have hmul : p.1 * m + (n - p.1) * m = n * m := by rw [← Nat.add_mul]; congr 1; omega
                    have key := Rep.osl (K := K) ob (off + p.1 * m) (p.2 - p.1) m (n - p.1) win hj (by omega) (by omega) (by omega)
                    by_cases hcp : n = p.1
                    · have hl0 : lo'.isSome = false := by
                        cases hl : lo'.isSome
                        · rfl
                        · exact absurd ⟨hl, hcp.symm⟩ hend
                      have hp0 : p.1 = 0 := hp3 hl0
                      rw [if_pos hcp]
                      rw [hp0] at key ⊢
                      simpa using key
                    · rw [if_neg hcp]
                      simpa [Nat.add_assoc] using key
            · cases hn
        | _ => simp [nfn, nfn1] at hn
  · cases hrop

end
end Lb
