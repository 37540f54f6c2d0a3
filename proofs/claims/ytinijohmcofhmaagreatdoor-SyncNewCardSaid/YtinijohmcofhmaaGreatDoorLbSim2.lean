/- The abstract runs are the model's runs: one operation, and regions. -/
import Derived.Test.YtinijohmcofhmaaGreatDoorLbSim
namespace Lb
open Go

section
variable {P : Program} {I : Inv} {w : World} {K : Kn} {J : Jn} {lo : Nat} {a : Act} {o : Oper} {next : Act → World → Prop} {Q : Exit → Act → World → Prop} {cf : CallF} {ops : Array Oper}

/-- a resolved operation is an operation of a region -/
structure Made (P : Program) (ops : Array Oper) (o : Oper) (ro : ROper) : Prop where
  op : rop P o.op = some ro.op
  dst : ro.dst = o.dst
  guard : (o.guard = none ∧ ro.guard = none) ∨ ∃ j t w, o.guard = some (j, w) ∧ (ops[j]?).bind (·.dst) = some t ∧ ro.guard = some (t, w)

theorem wanted_rep {ro : ROper} {env : List L} {b : Bool} (hm : Made P ops o ro) (he : RepL K J env a.tmps.toList) (hw : wanted ro.guard env = some b) : Region.wanted o (yielded ops a.tmps) = b := by
  rcases hm.guard with ⟨h1, h2⟩ | ⟨j, t, w, h1, h2, h3⟩
  · rw [h2] at hw
    cases hw
    simp [Region.wanted, h1]
  · rw [h3] at hw
    unfold wanted at hw
    simp only at hw
    unfold Region.wanted
    simp only [h1]
    cases he1 : env[t]? with
    | none => rw [he1] at hw; cases hw
    | some l =>
      rw [he1] at hw
      obtain ⟨u, hu, hr⟩ := he.getElem? he1
      have hu' : a.tmps[t]? = some u := by simpa using hu
      unfold yielded
      simp only [h2, Option.bind_some, hu']
      split at hw
      · rename_i e
        cases e
        cases hr
        cases hw
        rfl
      · rename_i e
        cases e
        cases hr with
        | tup _ us hl _ =>
          cases hw
          simp
      · cases hw

/-- one operation of a region that keeps the text's order -/
theorem stepOp_wp {ro : ROper} {s s' : St} (hcf : CallSpec P I cf) (hI : I.p K J) (hm : Made P ops o ro) (hs : stepOp cf lo ro s = some s') (h : HRel K J s.hp w) (hnh : NoHole s.hp) (he : RepL K J s.env a.tmps.toList)
    (hn : ∀ a' w' K' J', Post lo K J s.hp w K' J' s'.hp w' → RepL K' J' s'.env a'.tmps.toList → a'.defers = a.defers → next a' w') :
    if Region.wanted o (yielded ops a.tmps) then o.wp P a w next Q ∨ (o.asks P a w ∧ LetsOut Q) else next (a.put o.dst undef) w := by
  unfold stepOp at hs
  simp only [Option.bind_eq_some_iff] at hs
  obtain ⟨b, hw, hs⟩ := hs
  rw [wanted_rep hm he hw]
  cases b with
  | false =>
    simp only [Bool.false_eq_true, if_false, Option.some.injEq] at hs ⊢
    subst hs
    exact hn _ _ K J (Post.refl h) (by rw [hm.dst]; exact put_rep he rep_undef) put_defers
  | true =>
    simp only [if_true, Option.bind_eq_some_iff, Option.some.injEq] at hs ⊢
    obtain ⟨args, ha, ⟨d, hp'⟩, hr, rfl⟩ := hs
    refine .inl ?_
    unfold Oper.wp
    cases hc : isCall ro.op with
    | true =>
      rw [hc] at hr
      simp only [if_true, Option.bind_eq_some_iff] at hr
      obtain ⟨⟨f, fargs⟩, hca, hcall⟩ := hr
      obtain ⟨vs, hvs, hrun⟩ := call_wp (w := w) hm.op hc he ha hca
      rw [hrun]
      refine upon_call (hcf f lo fargs s.hp d hp' K J w vs hnh hcall h hI hvs) fun v w' hv => ?_
      obtain ⟨K', J', hv1, hp⟩ := hv
      exact hn _ _ K' J' hp (by rw [hm.dst]; exact put_rep (he.mono hp.kle hp.jle) hv1) put_defers
    | false =>
      rw [hc] at hr
      simp only [Bool.false_eq_true, if_false, nonCall, Option.bind_eq_some_iff] at hr
      obtain ⟨e, hnf, hen⟩ := hr
      refine upon_noncall (op_sound hm.op hc h (slot := none) trivial he ha hnf hen) fun w' J' v hp hv => ?_
      exact hn _ _ K J' hp (by rw [hm.dst]; exact put_rep (he.mono hp.kle hp.jle) hv) put_defers

theorem maskL_len (pre n : Nat) : ∀ (l : List Ob) (i : Nat), (maskL pre n i l).length = l.length
  | [], _ => rfl
  | b :: l, i => by unfold maskL; split <;> simp [maskL_len pre n l]

theorem mask_len {base n pre : Nat} {hp : List Ob} (h : base ≤ hp.length) : (mask base n pre hp).length = hp.length := by
  unfold mask; simp [maskL_len]; omega

theorem maskL_get (pre n : Nat) : ∀ (l : List Ob) (i o : Nat), (maskL pre n i l)[o]? = l[o]? ∨ (maskL pre n i l)[o]? = some .gone
  | [], _, _ => .inl rfl
  | b :: l, i, 0 => by
    unfold maskL
    split
    · simp only [List.getElem?_cons_zero]
      unfold seenAs
      split
      · exact .inr rfl
      · split
        · exact .inl rfl
        · exact .inr rfl
    · exact .inl rfl
  | b :: l, i, o + 1 => by
    unfold maskL
    split
    · simpa using maskL_get pre n l (i + 1) o
    · exact .inl rfl

theorem mask_get {base n pre : Nat} {hp : List Ob} (h : base ≤ hp.length) (o : Nat) : (mask base n pre hp)[o]? = hp[o]? ∨ (mask base n pre hp)[o]? = some .gone := by
  unfold mask
  by_cases ho : o < base
  · rw [List.getElem?_append_left (by simp; omega), List.getElem?_take_of_lt ho]; exact .inl rfl
  · have hlt : (hp.take base).length = base := by simp; omega
    rw [List.getElem?_append_right (by omega), hlt]
    have := maskL_get pre n (hp.drop base) 0 (o - base)
    rw [List.getElem?_drop, show base + (o - base) = o by omega] at this
    exact this

theorem maskL_nohole (pre n : Nat) : ∀ (l : List Ob) (i : Nat), (∀ o : Nat, n ≤ i + o → l[o]? ≠ some .hole) → ∀ o : Nat, (maskL pre n i l)[o]? ≠ some .hole
  | [], _, _, o => by simp [maskL]
  | b :: l, i, h, o => by
    unfold maskL
    split
    · cases o with
      | zero =>
        simp only [List.getElem?_cons_zero]
        unfold seenAs
        split
        · simp
        · rename_i hb
          split
          · intro e; cases e; exact hb rfl
          · simp
      | succ o =>
        simp only [List.getElem?_cons_succ]
        exact maskL_nohole pre n l (i + 1) (fun o ho => by have := h (o + 1) (by omega); simpa using this) o
    · exact h o (by omega)

/-- the region's heap: holes stand at its places alone -/
def HoleIn (base n : Nat) (hp : List Ob) : Prop := ∀ o : Nat, hp[o]? = some .hole → base ≤ o ∧ o < base + n

theorem mask_nohole {base n pre : Nat} {hp : List Ob} (h : base ≤ hp.length) (hh : HoleIn base n hp) : NoHole (mask base n pre hp) := by
  intro o
  unfold mask
  by_cases ho : o < base
  · rw [List.getElem?_append_left (by simp; omega), List.getElem?_take_of_lt ho]
    intro e; have := hh o e; omega
  · have hlt : (hp.take base).length = base := by simp; omega
    rw [List.getElem?_append_right (by omega), hlt]
    refine maskL_nohole pre n _ 0 (fun k hk e => ?_) _
    rw [List.getElem?_drop] at e
    have := hh _ e; omega

theorem reopenL_get (pre n : Nat) : ∀ (l : List Ob) (i o : Nat), (reopenL pre n i l)[o]? = l[o]? ∨ ((reopenL pre n i l)[o]? = some .hole ∧ i + o < n ∧ pre.testBit (i + o) = false)
  | [], _, _ => .inl rfl
  | b :: l, i, 0 => by
    unfold reopenL
    split
    · rename_i hi
      cases hp : pre.testBit i with
      | true => simp
      | false => simp [hp, hi]
    · exact .inl rfl
  | b :: l, i, o + 1 => by
    unfold reopenL
    split
    · have := reopenL_get pre n l (i + 1) o
      rw [show i + 1 + o = i + (o + 1) by omega] at this
      simpa using this
    · exact .inl rfl

theorem reopen_get {base n pre : Nat} {hp hp2 : List Ob} (hb : base ≤ hp2.length) (ho : openAll base n pre hp = true) (o : Nat) : (reopen base n pre hp2)[o]? = hp2[o]? ∨ ((reopen base n pre hp2)[o]? = some .hole ∧ hp[o]? = some .hole) := by
  unfold reopen
  by_cases h : o < base
  · rw [List.getElem?_append_left (by simp; omega), List.getElem?_take_of_lt h]; exact .inl rfl
  · have hlt : (hp2.take base).length = base := by simp; omega
    rw [List.getElem?_append_right (by omega), hlt]
    rcases reopenL_get pre n (hp2.drop base) 0 (o - base) with h1 | ⟨h1, h2, h3⟩
    · rw [List.getElem?_drop, show base + (o - base) = o by omega] at h1
      exact .inl h1
    · refine .inr ⟨h1, ?_⟩
      unfold openAll at ho
      rw [List.all_eq_true] at ho
      have := ho (o - base) (by simp; omega)
      simp only [Nat.zero_add] at h3
      rw [h3, Bool.false_or, free_iff, show base + (o - base) = o by omega] at this
      exact this

/-- one operation of a region that draws its order -/
theorem stepD_wp {ro : ROper} {s s' : St} {base n i : Nat} {fp : Fp} (hcf : CallSpec P I cf) (hI : I.p K J) (hm : Made P ops o ro) (hs : stepD cf lo base n i ro s = some (s', fp)) (h : HRel K J s.hp w)
    (hb : base ≤ s.hp.length) (hhi : HoleIn base n s.hp) (he : RepL K J s.env a.tmps.toList)
    (hn : ∀ a' w' K' J', Post lo K J s.hp w K' J' s'.hp w' → RepL K' J' s'.env a'.tmps.toList → a'.defers = a.defers → next a' w') :
    if Region.wanted o (yielded ops a.tmps) then o.wp P a w next Q ∨ (o.asks P a w ∧ LetsOut Q) else next (a.put o.dst undef) w := by
  unfold stepD at hs
  simp only [Option.bind_eq_some_iff] at hs
  obtain ⟨b, hw, hs⟩ := hs
  rw [wanted_rep hm he hw]
  cases b with
  | false =>
    simp only [Bool.false_eq_true, if_false, Option.some.injEq, Prod.mk.injEq] at hs ⊢
    obtain ⟨rfl, _⟩ := hs
    exact hn _ _ K J (Post.refl h) (by rw [hm.dst]; exact put_rep he rep_undef) put_defers
  | true =>
    simp only [if_true, Option.bind_eq_some_iff, Option.some.injEq, Prod.mk.injEq] at hs ⊢
    obtain ⟨args, ha, ⟨d, hp', fp'⟩, hr, rfl, _⟩ := hs
    refine .inl ?_
    unfold Oper.wp
    unfold actD at hr
    cases hc : isCall ro.op with
    | true =>
      rw [hc] at hr
      simp only [if_true, Option.bind_eq_some_iff] at hr
      obtain ⟨⟨f, fargs⟩, hca, hr⟩ := hr
      obtain ⟨vs, hvs, hrun⟩ := call_wp (w := w) hm.op hc he ha hca
      rw [hrun]
      have hmk := mask_nohole (pre := ro.pre) hb hhi
      split at hr
      · simp only [Option.bind_eq_some_iff] at hr
        obtain ⟨⟨d', hp2⟩, hcall, hr⟩ := hr
        split at hcall
        · rename_i hopen
          split at hr
          · rename_i hlen
            simp only [Option.some.injEq, Prod.mk.injEq] at hr
            obtain ⟨rfl, rfl, _⟩ := hr
            refine upon_call (hcf f lo fargs _ d' hp2 K J w vs hmk hcall (h.mask (mask_len hb) (mask_get hb)) hI hvs) fun v w' hv => ?_
            obtain ⟨K', J', hv1, hp⟩ := hv
            have hp := Post.alone h (mask_len hb) (mask_get hb) hmk hp reopen_len (reopen_get (by simp at hlen; omega) hopen)
            exact hn _ _ K' J' hp (by rw [hm.dst]; exact put_rep (he.mono hp.kle hp.jle) hv1) put_defers
          · cases hr
        · cases hcall
      simp only [Option.bind_eq_some_iff, Option.some.injEq, Prod.mk.injEq] at hr
      obtain ⟨⟨d', hp2⟩, hcall, rfl, rfl, _⟩ := hr
      refine upon_call (hcf f s.hp.length fargs _ d' hp2 K J w vs hmk hcall (h.mask (mask_len hb) (mask_get hb)) hI hvs) fun v w' hv => ?_
      obtain ⟨K', J', hv1, hp⟩ := hv
      have hp := Post.merge (lo := lo) h (mask_len hb) hmk hp
      exact hn _ _ K' J' hp (by rw [hm.dst]; exact put_rep (he.mono hp.kle hp.jle) hv1) put_defers
    | false =>
      rw [hc] at hr
      simp only [Bool.false_eq_true, if_false, Option.bind_eq_some_iff, Option.some.injEq, Prod.mk.injEq] at hr
      obtain ⟨e, hnf, ⟨d', hp2⟩, hen, rfl, rfl, _⟩ := hr
      obtain ⟨hopen, hen⟩ := enact_free hen
      refine upon_noncall (op_sound hm.op hc h (slot := some (base + i)) hopen he ha hnf hen) fun w' J' v hp hv => ?_
      exact hn _ _ K J' hp (by rw [hm.dst]; exact put_rep (he.mono hp.kle hp.jle) hv) put_defers

end
end Lb
