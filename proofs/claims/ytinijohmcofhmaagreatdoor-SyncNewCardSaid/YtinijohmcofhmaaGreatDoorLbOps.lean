/- Operations: what the model's operation does is what the abstract one says. -/
import Derived.Test.YtinijohmcofhmaaGreatDoorLbHeap
import Derived.Laws.Entries
namespace Lb
open Go

section
variable {P : Program} {w : World}

theorem run_isAggT {t : TypeId} {g : Bool} (h : isAggT P t = some g) : (isAgg t).run P w = .ok g w := by
  unfold isAggT at h
  cases hu : P.underlying t with
  | none => rw [hu] at h; cases h
  | some d =>
    rw [hu] at h
    cases h
    unfold isAgg
    simp only [Sem.run_bind, run_underlying hu, Result.andThen_ok]
    cases d <;> rfl

theorem run_sizeT {t : TypeId} {n : Nat} (h : sizeT P t = some n) : (Go.sizeOf t).run P w = .ok n w := by
  unfold sizeT at h
  cases hi : P.info? t with
  | none => rw [hi] at h; cases h
  | some i =>
    rw [hi] at h
    cases h
    simp [Go.sizeOf, typeInfo, hi]

theorem run_zeroT {t : TypeId} {z : Value} (h : zeroT P t = some z) : (zeroValue t).run P w = .ok z w := by
  unfold zeroT at h
  cases hi : P.info? t with
  | none => rw [hi] at h; cases h
  | some i =>
    rw [hi] at h
    simp only [Option.bind_some] at h
    simp [zeroValue, typeInfo, hi, h]

theorem addr_add {a : Addr} (h : a.spot = none) (n : Nat) : a.add n = ⟨a.block, a.off + n, none⟩ := by
  obtain ⟨b, o, s⟩ := a
  simp only at h
  subst h
  unfold Addr.add
  split
  · rename_i h; subst h; rfl
  · rfl

/-- cells that are read one by one -/
theorem run_loadCells_at {a : Addr} (ha : a.spot = none) {us : List Value} (h : ∀ k (_ : k < us.length), w.cell? ⟨a.block, a.off + k, none⟩ = some us[k]) :
    (loadCells a us.length).run P w = .ok us.toArray w :=
  run_loadCells_list w a us fun j v e => by
    obtain ⟨hj, rfl⟩ := List.getElem?_eq_some_iff.1 e
    rw [addr_add ha]; exact h j hj

theorem run_loadVar_at {t : TypeId} {g : Bool} {a : Addr} (ha : a.spot = none) {us : List Value} (hg : isAggT P t = some g) (hs : sizeT P t = some us.length)
    (h : ∀ k (_ : k < us.length), w.cell? ⟨a.block, a.off + k, none⟩ = some us[k]) {v : Value} (hv : if g then v = .agg us.toArray else us = [v]) :
    (loadVar t a).run P w = .ok v w := by
  unfold loadVar
  simp only [Sem.run_bind, run_isAggT hg, Result.andThen_ok]
  cases g with
  | true =>
    simp only [if_true] at hv ⊢
    subst hv
    simp only [Sem.run_bind, run_sizeT hs, Result.andThen_ok, run_loadCells_at ha h, Sem.run_pure]
  | false =>
    simp only [Bool.false_eq_true, if_false] at hv ⊢
    subst hv
    have := h 0 (by simp)
    simp only [Nat.add_zero, List.getElem_cons_zero] at this
    have hc : w.cell? a = some v := by
      obtain ⟨b, o, s⟩ := a
      simp only at ha
      subst ha
      exact this
    simp [hc]

theorem Rep.ofCells {K : Kn} {J : Jn} {g : Bool} {cs : List L} {us : List Value} (h : RepC K J cs us) {l : L} (e : ofCells g cs = some l) :
    ∃ v, (if g then v = .agg us.toArray else us = [v]) ∧ Rep K J l v := by
  unfold Lb.ofCells at e
  cases g with
  | true =>
    simp only [if_true] at e ⊢
    cases e
    exact ⟨_, rfl, .agg cs us h.1.1 h.2 h.1.2⟩
  | false =>
    simp only [Bool.false_eq_true, if_false] at e ⊢
    split at e
    · cases e
      obtain ⟨u, us', rfl, hr, ht⟩ := h.1.out_cons
      have := ht.out_nil
      subst this
      exact ⟨u, rfl, hr⟩
    · cases e

theorem oneV_eq (v : Value) : oneV v = v.oneCell' := by cases v <;> rfl

theorem rep_constL {K : Kn} {J : Jn} (v : Value) : Rep K J (constL v) v := by
  unfold constL
  split
  · rename_i cs
    split
    · rename_i h
      have h1 : ∀ x ∈ cs.toList, x.oneCell' = true := fun x hx => by rw [← oneV_eq]; exact List.all_eq_true.1 h x hx
      have hv : RepL K J (cs.toList.map .v) cs.toList := RepL.vs h1
      have := Rep.agg (K := K) (J := J) _ cs.toList hv.1 h1 hv.2
      simpa using this
    · exact .dead _
  · exact .dead _
  · rename_i h1 h2
    refine .v _ ?_
    cases v <;> first | rfl | exact absurd rfl (h1 _) | exact absurd rfl (h2 _)

theorem eval_rep {K : Kn} {J : Jn} {env : List L} {a : Act} (he : RepL K J env a.tmps.toList) {x : Operand} {l : L} (h : opd env (ropd x) = some l) : Rep K J l (a.eval x) := by
  cases x with
  | tmp t =>
    simp only [ropd, opd] at h
    obtain ⟨u, hu, hr⟩ := he.getElem? h
    have : a.eval (.tmp t) = u := by simp only [Act.eval]; rw [Array.getD_eq_getD_getElem?]; rw [Array.getElem?_toList] at hu; rw [hu]; rfl
    rw [this]; exact hr
  | const v =>
    simp only [ropd, opd] at h
    cases h
    exact rep_constL v
  | global g =>
    simp only [ropd, opd] at h
    cases h
    exact .v _ rfl
  | func f =>
    simp only [ropd, opd] at h
    cases h
    exact .fn (.func f) [] [] [] [] rfl rfl (fun k h => absurd h (by simp)) (fun k h => absurd h (by simp))

theorem omapO_cons {α β : Type} {f : α → Option β} {x : α} {xs : List α} {l : List β} (h : omapO f (x :: xs) = some l) :
    ∃ y ys, f x = some y ∧ omapO f xs = some ys ∧ l = y :: ys := by
  simp only [omapO] at h
  cases hx : f x with
  | none => rw [hx] at h; cases h
  | some y =>
    rw [hx] at h
    simp only [Option.bind_some] at h
    cases hy : omapO f xs with
    | none => rw [hy] at h; cases h
    | some ys => rw [hy] at h; cases h; exact ⟨y, ys, rfl, rfl, rfl⟩

theorem omapO_nil {α β : Type} {f : α → Option β} {l : List β} (h : omapO f [] = some l) : l = [] := by cases h; rfl

theorem opds1 {env : List L} {x : Opd} {l : List L} (h : opds env [x] = some l) : ∃ a, opd env x = some a ∧ l = [a] := by
  obtain ⟨y, ys, h1, h2, rfl⟩ := omapO_cons h
  cases omapO_nil h2
  exact ⟨y, h1, rfl⟩

theorem opds2 {env : List L} {x y : Opd} {l : List L} (h : opds env [x, y] = some l) : ∃ a b, opd env x = some a ∧ opd env y = some b ∧ l = [a, b] := by
  obtain ⟨a, ys, h1, h2, rfl⟩ := omapO_cons h
  obtain ⟨b, h3, rfl⟩ := opds1 h2
  exact ⟨a, b, h1, h3, rfl⟩

theorem opds3 {env : List L} {x y z : Opd} {l : List L} (h : opds env [x, y, z] = some l) : ∃ a b c, opd env x = some a ∧ opd env y = some b ∧ opd env z = some c ∧ l = [a, b, c] := by
  obtain ⟨a, ys, h1, h2, rfl⟩ := omapO_cons h
  obtain ⟨b, c, h3, h4, rfl⟩ := opds2 h2
  exact ⟨a, b, c, h1, h3, h4, rfl⟩

/-- all operands -/
theorem opds_rep {K : Kn} {J : Jn} {env : List L} {a : Act} (he : RepL K J env a.tmps.toList) : ∀ {xs : List Operand} {ls : List L}, opds env (xs.map ropd) = some ls → RepL K J ls (xs.map a.eval)
  | [], ls, h => by cases omapO_nil h; exact RepL.nil
  | x :: xs, ls, h => by
    obtain ⟨y, ys, h1, h2, rfl⟩ := omapO_cons h
    exact RepL.cons (eval_rep he h1) (opds_rep he h2)
end

/-- what an operation that calls nothing comes to -/
def OpRes (lo : Nat) (K : Kn) (J : Jn) (hp : List Ob) (w : World) (d : L) (hp' : List Ob) (r : Result Next) : Prop :=
  ∃ w' J', Post lo K J hp w K J' hp' w' ∧ ((∃ v, r = .ok (.value v) w' ∧ Rep K J' d v) ∨ (r = .ok .skip w' ∧ d = .tup []))

theorem OpRes.pure {lo : Nat} {K : Kn} {J : Jn} {hp hp' : List Ob} {w : World} {d x : L} {r : Result Next} {v : Value} {slot : Option Nat} (h : HRel K J hp w)
    (hx : enact lo hp (val x) slot = some (d, hp')) (hr : r = .ok (.value v) w) (hv : Rep K J x v) : OpRes lo K J hp w d hp' r := by
  simp only [enact, val, fresh, Option.some.injEq, Prod.mk.injEq] at hx
  obtain ⟨rfl, rfl⟩ := hx
  exact ⟨w, J, Post.refl h, .inl ⟨v, hr, hv⟩⟩

theorem look1 {hp : List Ob} {o : Nat} : look hp [o] = [hp[o]?] := rfl

theorem contents0 {hp : List Ob} {o : Nat} {l : List Nat} {c : List L} (h : contents (look hp (o :: l)) 0 = some c) : hp[o]? = some (.cells c) := by
  simp only [look, List.map_cons, contents, List.getElem?_cons_zero] at h
  split at h
  · rename_i e; cases h; simpa using e
  · cases h

theorem contents1 {hp : List Ob} {o p : Nat} {l : List Nat} {c : List L} (h : contents (look hp (o :: p :: l)) 1 = some c) : hp[p]? = some (.cells c) := by
  simp only [look, List.map_cons, contents, List.getElem?_cons_succ, List.getElem?_cons_zero] at h
  split at h
  · rename_i e; cases h; simpa using e
  · cases h

end Lb
