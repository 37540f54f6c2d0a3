/- The operations of comparing. -/
import Derived.Test.YtinijohmcofhmaaGreatDoorLbOps9
namespace Lb
open Go

section
variable {P : Program} {w : World} {K : Kn} {J : Jn} {hp hp' : List Ob} {lo : Nat} {slot : Option Nat} {d : L} {a : Act} {env : List L} {o : Oper}

theorem leafEq_ptr {l r : L} {x y : Value} {b : Bool} (hl : leafEq .ptr l r = some b) (rx : Rep K J l x) (ry : Rep K J r y) :
    ∃ p q, x = .pointer p ∧ y = .pointer q ∧ ((p = none ∧ b = q.isNone) ∨ (q = none ∧ b = p.isNone)) := by
  unfold leafEq at hl
  split at hl <;> first | contradiction | (cases hl; cases rx; cases ry; exact ⟨_, _, rfl, rfl, by simp⟩)

theorem leafEq_iface {l r : L} {x y : Value} {b : Bool} (hl : leafEq .iface l r = some b) (rx : Rep K J l x) (ry : Rep K J r y) :
    (x = .nilIface ∧ y = .nilIface ∧ b = true) ∨ (x = .nilIface ∧ (∃ t v, y = .iface t v) ∧ b = false) ∨ ((∃ t v, x = .iface t v) ∧ y = .nilIface ∧ b = false) := by
  unfold leafEq at hl
  split at hl <;> first | contradiction | (cases hl; cases rx; cases ry; simp)

theorem leafEq_func {l r : L} {x y : Value} {b : Bool} (hl : leafEq .func l r = some b) (rx : Rep K J l x) (ry : Rep K J r y) :
    (x = .nilFunc ∧ y = .nilFunc ∧ b = true) ∨ (x = .nilFunc ∧ (∃ t v z, y = .func t v z) ∧ b = false) ∨ ((∃ t v z, x = .func t v z) ∧ y = .nilFunc ∧ b = false) := by
  unfold leafEq at hl
  split at hl <;> first | contradiction | (cases hl; cases rx; cases ry; simp)

theorem leafEq_slice {l r : L} {x y : Value} {b : Bool} (hl : leafEq .slice l r = some b) (rx : Rep K J l x) (ry : Rep K J r y) :
    ∃ p q m c m' c', x = .slice p m c ∧ y = .slice q m' c' ∧ ((p = none ∧ b = q.isNone) ∨ (q = none ∧ b = p.isNone)) := by
  unfold leafEq at hl
  split at hl <;> first | contradiction | (cases hl; cases rx; cases ry; exact ⟨_, _, _, _, _, _, rfl, rfl, by simp⟩)

theorem leafEq_map {l r : L} {x y : Value} {b : Bool} (hl : leafEq .map l r = some b) (rx : Rep K J l x) (ry : Rep K J r y) :
    ∃ p q, x = .map p ∧ y = .map q ∧ ((p = none ∧ b = q.isNone) ∨ (q = none ∧ b = p.isNone)) := by
  unfold leafEq at hl
  split at hl <;> first | contradiction | (cases hl; cases rx; cases ry; exact ⟨_, _, rfl, rfl, by simp⟩)

/-- one kind that is held against nil -/
theorem nil_eq {t : TypeId} {k : Leaf} (hk : nilK P t = some k) {l r : L} {x y : Value} {b : Bool} (hl : leafEq k l r = some b) (rx : Rep K J l x) (ry : Rep K J r y) (m : Nat) :
    (Op.equalIn (m + 1) t x y).run P w = .ok b w ∧ (∀ cs, x ≠ .agg cs) ∧ (∀ k n, x ≠ .int k n) ∧ (∀ s, x ≠ .string s) ∧ (∀ k n, x ≠ .float k n) ∧ (∀ k n m, x ≠ .complex k n m) ∧ (x = .nilIface → k = .iface) := by
  unfold nilK at hk
  split at hk
  · rename_i e hu
    split at hk
    · cases hk
    · cases hk
      obtain ⟨p, q, rfl, rfl, h3⟩ := leafEq_ptr hl rx ry
      refine ⟨?_, by simp, by simp, by simp, by simp, by simp, by simp⟩
      rcases h3 with ⟨rfl, rfl⟩ | ⟨rfl, rfl⟩
      · simp only [Op.equalIn, Sem.run_bind, run_underlying hu, Result.andThen_ok, Sem.run_pure]
      · cases p <;> simp only [Op.equalIn, Sem.run_bind, run_underlying hu, Result.andThen_ok, Sem.run_pure, Option.isNone_none, Option.isNone_some]
  · rename_i ms hu
    cases hk
    rcases leafEq_iface hl rx ry with ⟨rfl, rfl, rfl⟩ | ⟨rfl, ⟨u, v, rfl⟩, rfl⟩ | ⟨⟨u, v, rfl⟩, rfl, rfl⟩ <;>
      refine ⟨?_, by simp, by simp, by simp, by simp, by simp, by simp⟩ <;> simp only [Op.equalIn, Sem.run_bind, run_underlying hu, Result.andThen_ok, Sem.run_pure]
  · rename_i p q s hu
    cases hk
    rcases leafEq_func hl rx ry with ⟨rfl, rfl, rfl⟩ | ⟨rfl, ⟨u, v, z, rfl⟩, rfl⟩ | ⟨⟨u, v, z, rfl⟩, rfl, rfl⟩ <;>
      refine ⟨?_, by simp, by simp, by simp, by simp, by simp, by simp⟩ <;> simp only [Op.equalIn, Sem.run_bind, run_underlying hu, Result.andThen_ok, Sem.run_pure]
  · rename_i e hu
    cases hk
    obtain ⟨p, q, m1, c1, m2, c2, rfl, rfl, h3⟩ := leafEq_slice hl rx ry
    refine ⟨?_, by simp, by simp, by simp, by simp, by simp, by simp⟩
    rcases h3 with ⟨rfl, rfl⟩ | ⟨rfl, rfl⟩
    · simp only [Op.equalIn, Sem.run_bind, run_underlying hu, Result.andThen_ok, Sem.run_pure]
    · cases p <;> simp only [Op.equalIn, Sem.run_bind, run_underlying hu, Result.andThen_ok, Sem.run_pure, Option.isNone_none, Option.isNone_some]
  · rename_i e e' hu
    cases hk
    obtain ⟨p, q, rfl, rfl, h3⟩ := leafEq_map hl rx ry
    refine ⟨?_, by simp, by simp, by simp, by simp, by simp, by simp⟩
    rcases h3 with ⟨rfl, rfl⟩ | ⟨rfl, rfl⟩
    · simp only [Op.equalIn, Sem.run_bind, run_underlying hu, Result.andThen_ok, Sem.run_pure]
    · cases p <;> simp only [Op.equalIn, Sem.run_bind, run_underlying hu, Result.andThen_ok, Sem.run_pure, Option.isNone_none, Option.isNone_some]
  · cases hk

theorem run_binOp_eq {op : BinOp} (hop : op = .eql ∨ op = .neq) {t : TypeId} {x y : Value} {b : Bool} (h : (Op.equal t x y).run P w = .ok b w) (h1 : ∀ k n, x ≠ .int k n) (h2 : ∀ s, x ≠ .string s)
    (h3 : ∀ k n, x ≠ .float k n) (h4 : ∀ k n m, x ≠ .complex k n m) : (binOp op t x y).run P w = .ok (.bool (b != decide (op = .neq))) w := by
  rcases hop with rfl | rfl <;> cases x <;> first
    | exact absurd rfl (h1 _ _)
    | exact absurd rfl (h2 _)
    | exact absurd rfl (h3 _ _)
    | exact absurd rfl (h4 _ _ _)
    | simp [binOp, h]

theorem run_eqGuard {op : BinOp} (hop : op = .eql ∨ op = .neq) {t : TypeId} {x y : Operand} {u v : Value} (h1 : u = .nilIface → isC x = true ∨ isC y = true)
    (h2 : ∀ cs, u = .agg cs → P.eqGuardType P.depth t = false) : (eqGuard op t x y u v).run P w = .ok () w := by
  rcases hop with rfl | rfl
  all_goals
    simp only [eqGuard, Bool.not_true, Bool.false_eq_true, if_false]
    split
    · have := h1 rfl
      cases x <;> cases y <;> simp_all [isC]
    · simp [h2 _ rfl]
    · simp

theorem plain_one {v : Value} (h : plainV v = true) : v.oneCell' = true := by cases v <;> simp_all [plainV, Value.oneCell']

theorem rep_formed {t : TypeId} {g : Bool} (hg : isAggT P t = some g) {l : L} {v : Value} (hl : l.isA = some g) (hr : Rep K J l v) : ∃ us, RepC K J l.cells us ∧ Formed P t us v := by
  obtain ⟨us, h1, h2⟩ := hr.cells (by cases l <;> simp [L.isA] at hl <;> rfl)
  refine ⟨us, h2, fun g' hg' => ?_⟩
  rw [hg] at hg'
  cases hg'
  cases g with
  | true =>
    cases l <;> simp [L.isA] at hl
    cases hr
    simp only [Value.cells] at h1
    simp [h1]
  | false =>
    simp only [Bool.false_eq_true, if_false]
    have hv : v.oneCell' = true ∨ v.cells = #[v] := by
      cases hr <;> first | (simp [L.isA] at hl; done) | (exact .inr rfl) | (exact .inl (by assumption)) | (exact .inl (plain_one (by assumption)))
    have hc : v.cells = #[v] := by
      rcases hv with hv | hv
      · cases v <;> first | rfl | simp [Value.oneCell'] at hv
      · exact hv
    rw [hc] at h1
    simpa using congrArg Array.toList h1.symm

theorem op_eq {op : BinOp} {t u : TypeId} {x y : Operand} {neg ag : Bool} {ks : List Leaf} {args : List L} {e : Eff} (ho : o.op = .binOp op t x y u) (hrop : ropBin P op t x y = some (.eq neg ag ks (ropd x) (ropd y))) (h : HRel K J hp w)
    (he : RepL K J env a.tmps.toList) (ha : opds env [ropd x, ropd y] = some args) (hn : nfn (.eq neg ag ks (ropd x) (ropd y)) args (look hp (rds (.eq neg ag ks (ropd x) (ropd y)) args)) = some e) (hx : enact lo hp e slot = some (d, hp')) :
    OpRes lo K J hp w d hp' ((execOp a.eval o).run P w) := by
  obtain ⟨l, r, hl, hr, rfl⟩ := opds2 ha
  simp only [nfn, nfn1] at hn
  split at hn
  · rename_i hgood
    rw [Option.map_eq_some_iff] at hn
    obtain ⟨b, hb, rfl⟩ := hn
    have r1 := eval_rep he hl
    have r2 := eval_rep he hr
    generalize hv1 : a.eval x = v1 at r1
    generalize hv2 : a.eval y = v2 at r2
    unfold ropBin at hrop
    split at hrop
    · rename_i hop
      have fin : neg = decide (op = .neq) → (eqGuard op t x y v1 v2).run P w = .ok () w → (Op.equal t v1 v2).run P w = .ok b w → (∀ k n, v1 ≠ .int k n) → (∀ s, v1 ≠ .string s) →
          (∀ k n, v1 ≠ .float k n) → (∀ k n m, v1 ≠ .complex k n m) → OpRes lo K J hp w d hp' ((execOp a.eval o).run P w) := by
        intro e1 hg heq i1 i2 i3 i4
        have := run_binOp_eq hop heq i1 i2 i3 i4
        refine OpRes.pure h hx (v := .bool (b != neg)) ?_ (.v _ rfl)
        simp only [execOp, ho, hv1, hv2, Sem.run_bind, hg, Result.andThen_ok, this, e1, Sem.run_pure]
      have plain : ∀ k, ks = [k] → ag = false → ∃ l' r', l = l' ∧ r = r' ∧ leafEq k l' r' = some b := by
        intro k hk hag
        subst hk; subst hag
        obtain ⟨l', r', e1, e2, e3⟩ := leaf1 hb
        refine ⟨l', r', ?_, ?_, e3⟩
        · cases l <;> first | (simp [L.isA] at hgood; done) | (simpa [L.cells] using e1)
        · cases r <;> first | (simp [L.isA] at hgood; done) | (simpa [L.cells] using e2)
      have aggs : ag = true → P.eqGuardType P.depth t = false → isAggT P t = some true → leafK P 20 t = some ks → neg = decide (op = .neq) → OpRes lo K J hp w d hp' ((execOp a.eval o).run P w) := by
        intro hag hguard hgt hk hneg
        subst hag
        obtain ⟨us, c1, f1⟩ := rep_formed hgt hgood.1 r1
        obtain ⟨vs, c2, f2⟩ := rep_formed hgt hgood.2 r2
        have := leafK_eq 20 t ks hk 9980 K J w _ _ us vs v1 v2 b c1 c2 f1 f2 hb
        have s1 := f1 true hgt
        simp only [if_true] at s1
        subst s1
        exact fin hneg (run_eqGuard hop (by simp) (fun _ _ => hguard)) this (by simp) (by simp) (by simp) (by simp)
      split at hrop
      · cases hrop
      · cases hrop
      · rename_i hu
        simp only [Option.some.injEq, ROp.eq.injEq, and_true] at hrop
        obtain ⟨rfl, rfl, rfl⟩ := hrop
        obtain ⟨_, _, rfl, rfl, hleaf⟩ := plain _ rfl rfl
        obtain ⟨p, q, rfl, rfl, rfl⟩ := leafEq_bool hleaf
        cases r1; cases r2
        exact fin rfl (run_eqGuard hop (by simp) (by simp)) (run_equalIn_bool w 9999 t _ _ hu) (by simp) (by simp) (by simp) (by simp)
      · rename_i fs hu
        split at hrop
        · cases hrop
        · rename_i hg
          simp only [Option.map_eq_some_iff, ROp.eq.injEq, and_true] at hrop
          obtain ⟨ks', hk, rfl, rfl, rfl⟩ := hrop
          exact aggs rfl (by simpa using hg) (by unfold isAggT; rw [hu]; rfl) hk rfl
      · rename_i n el hu
        split at hrop
        · cases hrop
        · rename_i hg
          simp only [Option.map_eq_some_iff, ROp.eq.injEq, and_true] at hrop
          obtain ⟨ks', hk, rfl, rfl, rfl⟩ := hrop
          exact aggs rfl (by simpa using hg) (by unfold isAggT; rw [hu]; rfl) hk rfl
      · rw [Option.bind_eq_some_iff] at hrop
        obtain ⟨k, hk, hrop⟩ := hrop
        split at hrop
        · cases hrop
        · rename_i hc
          simp only [Option.some.injEq, ROp.eq.injEq, and_true] at hrop
          obtain ⟨rfl, rfl, rfl⟩ := hrop
          obtain ⟨_, _, rfl, rfl, hleaf⟩ := plain _ rfl rfl
          obtain ⟨q1, q2, q3, q4, q5, q6, q7⟩ := nil_eq (w := w) hk hleaf r1 r2 9999
          refine fin rfl (run_eqGuard hop (fun hn => ?_) (fun cs e => absurd e (q2 cs))) q1 q3 q4 q5 q6
          have := q7 hn
          subst this
          cases hcx : isC x <;> cases hcy : isC y <;> simp_all
      · cases hrop
    · cases hrop
  · cases hn

end
end Lb
