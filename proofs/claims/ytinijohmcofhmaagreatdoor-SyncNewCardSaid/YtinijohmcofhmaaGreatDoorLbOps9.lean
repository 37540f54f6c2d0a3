/- Comparing: leaves, structs, arrays, and what is held against nil. -/
import Derived.Test.YtinijohmcofhmaaGreatDoorLbOps8
namespace Lb
open Go

section
variable {P : Program} {w : World} {K : Kn} {J : Jn} {hp hp' : List Ob} {lo : Nat} {slot : Option Nat} {d : L} {a : Act} {env : List L} {o : Oper}

theorem leavesEq_len : ∀ {ks : List Leaf} {xs ys : List L} {b : Bool}, leavesEq ks xs ys = some b → xs.length = ks.length ∧ ys.length = ks.length
  | [], [], [], _, _ => ⟨rfl, rfl⟩
  | [], [], _ :: _, _, h => by simp [leavesEq] at h
  | [], _ :: _, _, _, h => by simp [leavesEq] at h
  | _ :: _, [], _, _, h => by simp [leavesEq] at h
  | _ :: _, _ :: _, [], _, h => by simp [leavesEq] at h
  | k :: ks, x :: xs, y :: ys, b, h => by
    unfold leavesEq at h
    split at h
    · have := leavesEq_len h; simp [this.1, this.2]
    · rw [Option.map_eq_some_iff] at h
      obtain ⟨b', h', _⟩ := h
      have := leavesEq_len h'; simp [this.1, this.2]
    · cases h

theorem leavesEq_append : ∀ {ks js : List Leaf} {xs ys : List L} {b : Bool}, leavesEq (ks ++ js) xs ys = some b →
    ∃ b1 b2, leavesEq ks (xs.take ks.length) (ys.take ks.length) = some b1 ∧ leavesEq js (xs.drop ks.length) (ys.drop ks.length) = some b2 ∧ b = (b1 && b2)
  | [], js, xs, ys, b, h => ⟨true, b, by simp [leavesEq], by simpa using h, by simp⟩
  | k :: ks, js, xs, ys, b, h => by
    cases xs with
    | nil => simp [leavesEq] at h
    | cons x xs => cases ys with
      | nil => simp [leavesEq] at h
      | cons y ys =>
        rw [List.cons_append] at h
        unfold leavesEq at h
        cases hl : leafEq k x y with
        | none => rw [hl] at h; cases h
        | some t =>
          rw [hl] at h
          cases t with
          | true =>
            obtain ⟨b1, b2, h1, h2, h3⟩ := leavesEq_append h
            exact ⟨b1, b2, by simp [leavesEq, hl, h1], by simpa using h2, h3⟩
          | false =>
            simp only [Option.map_eq_some_iff] at h
            obtain ⟨b', h', rfl⟩ := h
            obtain ⟨b1, b2, h1, h2, h3⟩ := leavesEq_append h'
            exact ⟨false, b2, by simp [leavesEq, hl, h1], by simpa using h2, rfl⟩

/-- a value of a type out of its cells -/
def Formed (P : Program) (t : TypeId) (us : List Value) (v : Value) : Prop := ∀ g, isAggT P t = some g → if g then v = .agg us.toArray else us = [v]

def EqSp (P : Program) (m : Nat) (t : TypeId) (ks : List Leaf) : Prop :=
  ∀ (K : Kn) (J : Jn) (w : World) (xs ys : List L) (us vs : List Value) (x y : Value) (b : Bool), RepC K J xs us → RepC K J ys vs → Formed P t us x → Formed P t vs y → leavesEq ks xs ys = some b →
    (Op.equalIn m t x y).run P w = .ok b w

theorem part_formed {t : TypeId} {n off : Nat} {us : List Value} {g : Bool} (hg : isAggT P t = some g) (hs : sizeT P t = some n) (hlen : ((us.drop off).take n).length = n) (hn : g = false → n = 1) :
    ∃ v, (part t us.toArray off).run P w = .ok v w ∧ Formed P t ((us.drop off).take n) v := by
  cases g with
  | true => exact ⟨.agg ((us.drop off).take n).toArray, run_part_at hg hs (by simp), fun g' hg' => by rw [hg] at hg'; cases hg'; simp⟩
  | false =>
    have h1 : n = 1 := hn rfl
    subst h1
    obtain ⟨v, hv⟩ := List.length_eq_one_iff.1 hlen
    exact ⟨v, run_part_at hg hs (by simpa using hv), fun g' hg' => by rw [hg] at hg'; cases hg'; simpa using hv⟩

theorem leafK_shape {d : Nat} {t : TypeId} {ks : List Leaf} (h : leafK P d t = some ks) : ∃ g, isAggT P t = some g ∧ (g = false → ks.length = 1) := by
  cases d with
  | zero => cases h
  | succ d =>
    unfold leafK at h
    unfold isAggT
    split at h
    · rename_i hu; cases h; rw [hu]; exact ⟨false, rfl, fun _ => rfl⟩
    · rename_i hu; cases h; rw [hu]; exact ⟨false, rfl, fun _ => rfl⟩
    · rename_i hu; cases h; rw [hu]; exact ⟨false, rfl, fun _ => rfl⟩
    · rename_i hu; rw [hu]; exact ⟨true, rfl, fun h => by cases h⟩
    · rename_i hu; rw [hu]; exact ⟨true, rfl, fun h => by cases h⟩
    · cases h

theorem leaf1 {k : Leaf} {xs ys : List L} {b : Bool} (h : leavesEq [k] xs ys = some b) : ∃ l r, xs = [l] ∧ ys = [r] ∧ leafEq k l r = some b := by
  obtain ⟨h1, h2⟩ := leavesEq_len h
  obtain ⟨l, rfl⟩ := List.length_eq_one_iff.1 h1
  obtain ⟨r, rfl⟩ := List.length_eq_one_iff.1 h2
  refine ⟨l, r, rfl, rfl, ?_⟩
  unfold leavesEq at h
  split at h
  · rename_i e; rw [e]; simpa [leavesEq] using h
  · rename_i e; rw [e]; simpa [leavesEq] using h
  · cases h

theorem leafEq_bool {l r : L} {b : Bool} (h : leafEq .bool l r = some b) : ∃ p q, l = .v (.bool p) ∧ r = .v (.bool q) ∧ b = (p == q) := by
  unfold leafEq at h
  split at h <;> simp_all

theorem leafEq_str {l r : L} {b : Bool} (h : leafEq .str l r = some b) : ∃ p q, l = .v (.string p) ∧ r = .v (.string q) ∧ b = (p.data.toList == q.data.toList) := by
  unfold leafEq at h
  split at h <;> simp_all

theorem leafEq_int {k : IntKind} {l r : L} {b : Bool} (h : leafEq (.int k) l r = some b) : ∃ p q, l = .v (.int k p) ∧ r = .v (.int k q) ∧ b = (p == q) := by
  unfold leafEq at h
  split at h <;> try (simp at *; done)
  rename_i k0 k1 p k2 q e1 
  cases e1
  split at h
  · rename_i hk
    obtain ⟨rfl, rfl⟩ := hk
    cases h
    exact ⟨p, q, rfl, rfl, rfl⟩
  · cases h

theorem formed1 {t : TypeId} {l : L} {us : List Value} {x : Value} (hg : isAggT P t = some false) (hr : RepC K J [l] us) (hf : Formed P t us x) : us = [x] ∧ Rep K J l x := by
  have h1 := hf false hg
  simp only [Bool.false_eq_true, if_false] at h1
  subst h1
  exact ⟨rfl, hr.1.head⟩

theorem structK_eq {rec : TypeId → Option (List Leaf)} {m : Nat} (hrec : ∀ t ks, rec t = some ks → EqSp P m t ks ∧ ∃ g, isAggT P t = some g ∧ (g = false → ks.length = 1)) :
    ∀ (fs : List Field) (off : Nat) (ks : List Leaf) (K : Kn) (J : Jn) (w : World) (xs ys : List L) (us vs : List Value) (b : Bool), leafK.structK P rec fs off = some ks → RepC K J xs us → RepC K J ys vs →
      leavesEq ks (xs.drop off) (ys.drop off) = some b → (Op.eqFields m us.toArray vs.toArray fs).run P w = .ok b w
  | [], off, ks, K, J, w, xs, ys, us, vs, b, h, hx, hy, he => by
    cases h
    cases hxd : xs.drop off <;> cases hyd : ys.drop off <;> rw [hxd, hyd] at he <;> simp [leavesEq] at he
    subst he
    simp [Op.eqFields]
  | f :: fs, off, ks, K, J, w, xs, ys, us, vs, b, h, hx, hy, he => by
    unfold leafK.structK at h
    split at h
    · cases h
    · rename_i hn
      simp only [not_or, Decidable.not_not, ne_eq] at hn
      rw [Option.bind_eq_some_iff] at h
      obtain ⟨k1, hk1, h⟩ := h
      split at h
      · rename_i hsz
        rw [Option.map_eq_some_iff] at h
        obtain ⟨k2, hk2, rfl⟩ := h
        obtain ⟨b1, b2, e1, e2, rfl⟩ := leavesEq_append he
        obtain ⟨hsp, g, hg, hg1⟩ := hrec f.type k1 hk1
        have l1 := leavesEq_len e1
        have hxl := hx.len
        have hyl := hy.len
        simp at l1
        obtain ⟨v1, p1, f1⟩ := part_formed (P := P) (w := w) (us := us) (off := off) hg hsz (by simp; omega) hg1
        obtain ⟨v2, p2, f2⟩ := part_formed (P := P) (w := w) (us := vs) (off := off) hg hsz (by simp; omega) hg1
        have q1 := hsp K J w _ _ _ _ v1 v2 b1 ((hx.drop off).take k1.length) ((hy.drop off).take k1.length) f1 f2 e1
        rw [List.drop_drop, List.drop_drop] at e2
        have q2 := structK_eq hrec fs (off + k1.length) k2 K J w xs ys us vs b2 hk2 hx hy e2
        simp only [Op.eqFields, hn.1, ne_eq, not_false_eq_true, if_true, hn.2, Sem.run_bind, p1, p2, q1, Result.andThen_ok]
        cases b1
        · simp
        · simpa using q2
      · cases h

theorem items_eq {e : TypeId} {k1 : List Leaf} {m : Nat} {g : Bool} (hsp : EqSp P m e k1) (hg : isAggT P e = some g) (hg1 : g = false → k1.length = 1) (hsz : sizeT P e = some k1.length) :
    ∀ (n i : Nat) (K : Kn) (J : Jn) (w : World) (xs ys : List L) (us vs : List Value) (b : Bool), RepC K J xs us → RepC K J ys vs → leavesEq ((List.replicate n k1).flatten) (xs.drop (i * k1.length)) (ys.drop (i * k1.length)) = some b →
      (Op.eqItems m e k1.length us.toArray vs.toArray (List.range' i n)).run P w = .ok b w
  | 0, i, K, J, w, xs, ys, us, vs, b, hx, hy, he => by
    simp only [List.replicate_zero, List.flatten_nil] at he
    cases hxd : xs.drop (i * k1.length) <;> cases hyd : ys.drop (i * k1.length) <;> rw [hxd, hyd] at he <;> simp [leavesEq] at he
    subst he
    simp [Op.eqItems]
  | n + 1, i, K, J, w, xs, ys, us, vs, b, hx, hy, he => by
    rw [List.replicate_succ, List.flatten_cons] at he
    obtain ⟨b1, b2, e1, e2, rfl⟩ := leavesEq_append he
    have l1 := leavesEq_len e1
    have hxl := hx.len
    have hyl := hy.len
    simp at l1
    obtain ⟨v1, p1, f1⟩ := part_formed (P := P) (w := w) (us := us) (off := i * k1.length) hg hsz (by simp; omega) hg1
    obtain ⟨v2, p2, f2⟩ := part_formed (P := P) (w := w) (us := vs) (off := i * k1.length) hg hsz (by simp; omega) hg1
    have q1 := hsp K J w _ _ _ _ v1 v2 b1 ((hx.drop _).take k1.length) ((hy.drop _).take k1.length) f1 f2 e1
    rw [List.drop_drop, List.drop_drop, show i * k1.length + k1.length = (i + 1) * k1.length by rw [Nat.add_mul]; omega] at e2
    have q2 := items_eq hsp hg hg1 hsz n (i + 1) K J w xs ys us vs b2 hx hy e2
    rw [List.range'_succ]
    simp only [Op.eqItems, Sem.run_bind, p1, p2, q1, Result.andThen_ok]
    cases b1
    · simp
    · simpa using q2

theorem leafK_eq : ∀ (d : Nat) (t : TypeId) (ks : List Leaf), leafK P d t = some ks → ∀ m, EqSp P (m + d) t ks
  | 0, _, _, h => by cases h
  | d + 1, t, ks, h => by
    intro m K J w xs ys us vs x y b hx hy fx fy he
    have hsh := leafK_shape h
    unfold leafK at h
    rw [← Nat.add_assoc]
    split at h
    · rename_i hu
      cases h
      have hg : isAggT P t = some false := by unfold isAggT; rw [hu]; rfl
      obtain ⟨l, r, rfl, rfl, hl⟩ := leaf1 he
      obtain ⟨_, rx⟩ := formed1 hg hx fx
      obtain ⟨_, ry⟩ := formed1 hg hy fy
      obtain ⟨p, q, rfl, rfl, rfl⟩ := leafEq_bool hl
      cases rx; cases ry
      exact run_equalIn_bool w _ t _ _ hu
    · rename_i k hu
      cases h
      have hg : isAggT P t = some false := by unfold isAggT; rw [hu]; rfl
      obtain ⟨l, r, rfl, rfl, hl⟩ := leaf1 he
      obtain ⟨_, rx⟩ := formed1 hg hx fx
      obtain ⟨_, ry⟩ := formed1 hg hy fy
      obtain ⟨p, q, rfl, rfl, rfl⟩ := leafEq_int hl
      cases rx; cases ry
      exact run_equalIn_int w _ t _ _ _ _ hu
    · rename_i hu
      cases h
      have hg : isAggT P t = some false := by unfold isAggT; rw [hu]; rfl
      obtain ⟨l, r, rfl, rfl, hl⟩ := leaf1 he
      obtain ⟨_, rx⟩ := formed1 hg hx fx
      obtain ⟨_, ry⟩ := formed1 hg hy fy
      obtain ⟨p, q, rfl, rfl, rfl⟩ := leafEq_str hl
      cases rx; cases ry
      rw [run_equalIn_string w _ t _ _ hu, ByteArray.toList_eq, ByteArray.toList_eq]
    · rename_i fs hu
      split at h
      · cases h
      · rename_i hst
        have hg : isAggT P t = some true := by unfold isAggT; rw [hu]; rfl
        have hfx := fx true hg
        have hfy := fy true hg
        simp only [if_true] at hfx hfy
        subst hfx; subst hfy
        have hfo : P.fieldsOf t = fs := by simp [Program.fieldsOf, hu]
        rw [run_equalIn_struct w _ t _ _ (by rw [hfo]; exact hu) (by simpa using hst), hfo]
        exact structK_eq (fun t' ks' ht' => ⟨leafK_eq d t' ks' ht' m, leafK_shape ht'⟩) fs.toList 0 ks K J w xs ys us vs b h hx hy (by simpa using he)
    · rename_i n e hu
      rw [Option.bind_eq_some_iff] at h
      obtain ⟨k1, hk1, h⟩ := h
      split at h
      · rename_i hsz
        cases h
        have hg : isAggT P t = some true := by unfold isAggT; rw [hu]; rfl
        have hfx := fx true hg
        have hfy := fy true hg
        simp only [if_true] at hfx hfy
        subst hfx; subst hfy
        obtain ⟨g, hge, hg1⟩ := leafK_shape hk1
        have hsz0 := hsz
        unfold sizeT at hsz
        rw [Option.map_eq_some_iff] at hsz
        obtain ⟨inf, hi, hsi⟩ := hsz
        have hco : P.cellsOf e = k1.length := by simp [Program.cellsOf, hi, hsi]
        rw [run_equalIn_array w _ _ _ hu hi, hco, List.range_eq_range']
        exact items_eq (leafK_eq d e k1 hk1 m) hge hg1 hsz0 n 0 K J w xs ys us vs b hx hy (by simpa using he)
      · cases h
    · cases h

end
end Lb
