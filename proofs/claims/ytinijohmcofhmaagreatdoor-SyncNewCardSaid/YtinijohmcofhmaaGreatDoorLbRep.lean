/- What abstract values and heaps say of the model's values and worlds. -/
import Derived.Test.YtinijohmcofhmaaGreatDoorLbComp
import Derived.Calls
import Derived.Below
import Derived.Laws.IdiomCopy
import Derived.Laws.Cells
import Derived.Laws.Append
namespace Lb
open Go

/-- a window of a block: where it begins, and how many cells it has (to the block's end) -/
structure Win where
  blk : Nat
  base : Nat
  size : Nat

/-- blocks that never change any more -/
structure Kn where
  blk : Nat → Option Obj
  /-- the values that are looked at no further -/
  sym : Nat → Value

instance : CoeFun Kn (fun _ => Nat → Option Obj) := ⟨Kn.blk⟩

/-- numbers, texts -/
def plainV : Value → Bool
  | .int _ _ | .string _ => true
  | _ => false

abbrev Jn := Nat → Option Win

def Kn.cell (K : Kn) (a : Addr) : Option Value :=
  match K a.block with
  | some (.cells c _ _) => if a.spot.isSome then none else c[a.off]?
  | _ => none

def Kn.le (K K' : Kn) : Prop := (∀ b o, K b = some o → K' b = some o) ∧ K'.sym = K.sym
def Jn.le (J J' : Jn) : Prop := ∀ b o, J b = some o → J' b = some o

theorem Kn.le_refl (K : Kn) : K.le K := ⟨fun _ _ h => h, rfl⟩
theorem Jn.le_refl (J : Jn) : J.le J := fun _ _ h => h
theorem Kn.le_trans {A B C : Kn} (h : A.le B) (k : B.le C) : A.le C := ⟨fun b o x => k.1 b o (h.1 b o x), k.2.trans h.2⟩
theorem Jn.le_trans {A B C : Jn} (h : A.le B) (k : B.le C) : A.le C := fun b o x => k b o (h b o x)

theorem Kn.cell_mono {K K' : Kn} (h : K.le K') {a : Addr} {v : Value} (e : K.cell a = some v) : K'.cell a = some v := by
  unfold Kn.cell at *
  cases hb : K a.block with
  | none => simp [hb] at e
  | some o => rw [h.1 _ _ hb]; simpa [hb] using e

inductive Rep (K : Kn) (J : Jn) : L → Value → Prop
  | v (x : Value) (h : x.oneCell' = true) : Rep K J (.v x) x
  | agg (cs : List L) (us : List Value) (hl : us.length = cs.length) (h1 : ∀ u ∈ us, u.oneCell' = true)
      (h : ∀ k (h : k < cs.length) (h' : k < us.length), Rep K J cs[k] us[k]) : Rep K J (.agg cs) (.agg us.toArray)
  | tup (cs : List L) (us : List Value) (hl : us.length = cs.length)
      (h : ∀ k (h : k < cs.length) (h' : k < us.length), Rep K J cs[k] us[k]) : Rep K J (.tup cs) (.tuple us.toArray)
  | ref (o off : Nat) (w : Win) (h : J o = some w) : Rep K J (.ref o off) (.pointer (some ⟨w.blk, w.base + off, none⟩))
  | osl (o off len esz cap : Nat) (w : Win) (h : J o = some w) (hc : len ≤ cap) (hw : off + cap * esz ≤ w.size) (hm : cap ≤ 9223372036854775807) :
      Rep K J (.osl o off len esz) (.slice (some ⟨w.blk, w.base + off, none⟩) len cap)
  | sl (cs : List L) (len esz cap : Nat) (a : Addr) (us : List Value) (ha : a.spot = none) (hcl : cs.length = len * esz) (hl : us.length = cs.length) (hc : len ≤ cap) (hm : cap ≤ 9223372036854775807)
      (h1 : ∀ u ∈ us, u.oneCell' = true) (hK : ∀ k (h' : k < us.length), K.cell ⟨a.block, a.off + k, none⟩ = some us[k])
      (h : ∀ k (h : k < cs.length) (h' : k < us.length), Rep K J cs[k] us[k]) : Rep K J (.sl cs len esz) (.slice (some a) len cap)
  | cp (cs : List L) (a : Addr) (us : List Value) (ha : a.spot = none) (hl : us.length = cs.length)
      (h1 : ∀ u ∈ us, u.oneCell' = true) (hK : ∀ k (h' : k < us.length), K.cell ⟨a.block, a.off + k, none⟩ = some us[k])
      (h : ∀ k (h : k < cs.length) (h' : k < us.length), Rep K J cs[k] us[k]) : Rep K J (.cp cs) (.pointer (some a))
  | omap (o : Nat) (w : Win) (h : J o = some w) : Rep K J (.omap o) (.map (some w.blk))
  | mit (o m : Nat) (w : Win) (h : J o = some w) (hb : w.base = 0) : Rep K J (.mit o m) (.pointer (some ⟨w.blk, 0, none⟩))
  | fn (f : Fn) (xs ys : List L) (us ws : List Value) (hl : us.length = xs.length) (hl' : ws.length = ys.length)
      (h : ∀ k (h : k < xs.length) (h' : k < us.length), Rep K J xs[k] us[k])
      (h2 : ∀ k (h : k < ys.length) (h' : k < ws.length), Rep K J ys[k] ws[k]) : Rep K J (.fn f xs ys) (.func f us.toArray ws.toArray)
  | ifc (t : TypeId) (x : L) (v : Value) (h : Rep K J x v) : Rep K J (.ifc t x) (.iface t v)
  | sym (i : Nat) (h : plainV (K.sym i) = true) : Rep K J (.sym i) (K.sym i)
  | dead (v : Value) : Rep K J .dead v

/-- a list of values -/
def RepL (K : Kn) (J : Jn) (cs : List L) (us : List Value) : Prop :=
  us.length = cs.length ∧ ∀ k (h : k < cs.length) (h' : k < us.length), Rep K J cs[k] us[k]

/-- a list of cells -/
def RepC (K : Kn) (J : Jn) (cs : List L) (us : List Value) : Prop := RepL K J cs us ∧ ∀ u ∈ us, u.oneCell' = true

theorem Rep.monoC {K K' : Kn} {J J' : Jn} (hK : ∀ a v, K.cell a = some v → K'.cell a = some v) (hS : K'.sym = K.sym) (hJ : J.le J') {l : L} {v : Value} (h : Rep K J l v) : Rep K' J' l v := by
  induction h with
  | v x h => exact .v x h
  | agg cs us hl h1 _ ih => exact .agg cs us hl h1 ih
  | tup cs us hl _ ih => exact .tup cs us hl ih
  | ref o off w h => exact .ref o off w (hJ _ _ h)
  | osl o off len esz cap w h hc hw hm => exact .osl o off len esz cap w (hJ _ _ h) hc hw hm
  | sl cs len esz cap a us ha hcl hl hc hm h1 hk _ ih => exact .sl cs len esz cap a us ha hcl hl hc hm h1 (fun k h' => hK _ _ (hk k h')) ih
  | cp cs a us ha hl h1 hk _ ih => exact .cp cs a us ha hl h1 (fun k h' => hK _ _ (hk k h')) ih
  | omap o w h => exact .omap o w (hJ _ _ h)
  | mit o m w h hb => exact .mit o m w (hJ _ _ h) hb
  | fn f xs ys us ws hl hl' _ _ ih ih2 => exact .fn f xs ys us ws hl hl' ih ih2
  | ifc t x v _ ih => exact .ifc t x v ih
  | sym i h => rw [← hS] at h ⊢; exact .sym i h
  | dead v => exact .dead v

theorem Rep.mono {K K' : Kn} {J J' : Jn} (hK : K.le K') (hJ : J.le J') {l : L} {v : Value} (h : Rep K J l v) : Rep K' J' l v :=
  h.monoC (fun _ _ e => Kn.cell_mono hK e) hK.2 hJ

section lists
variable {K K' : Kn} {J J' : Jn}

theorem RepL.mono (hK : K.le K') (hJ : J.le J') {cs : List L} {us : List Value} (h : RepL K J cs us) : RepL K' J' cs us :=
  ⟨h.1, fun k a b => (h.2 k a b).mono hK hJ⟩

theorem RepC.mono (hK : K.le K') (hJ : J.le J') {cs : List L} {us : List Value} (h : RepC K J cs us) : RepC K' J' cs us := ⟨h.1.mono hK hJ, h.2⟩

theorem RepL.nil : RepL K J [] [] := ⟨rfl, fun k h => absurd h (by simp)⟩

theorem RepL.cons {c : L} {cs : List L} {u : Value} {us : List Value} (h : Rep K J c u) (t : RepL K J cs us) : RepL K J (c :: cs) (u :: us) :=
  ⟨by simp [t.1], fun k a b => by cases k with | zero => exact h | succ k => exact t.2 k (by simpa using a) (by simpa using b)⟩

theorem RepL.head {c : L} {cs : List L} {u : Value} {us : List Value} (h : RepL K J (c :: cs) (u :: us)) : Rep K J c u := h.2 0 (by simp) (by simp)
theorem RepL.tail {c : L} {cs : List L} {u : Value} {us : List Value} (h : RepL K J (c :: cs) (u :: us)) : RepL K J cs us :=
  ⟨by simpa using h.1, fun k a b => h.2 (k + 1) (by simpa using a) (by simpa using b)⟩

theorem RepL.out {cs : List L} {us : List Value} (h : RepL K J cs us) : (cs = [] ∧ us = []) ∨ ∃ c cs' u us', cs = c :: cs' ∧ us = u :: us' ∧ Rep K J c u ∧ RepL K J cs' us' := by
  cases cs with
  | nil => cases us with
    | nil => exact .inl ⟨rfl, rfl⟩
    | cons u us => simp [RepL] at h
  | cons c cs => cases us with
    | nil => simp [RepL] at h
    | cons u us => exact .inr ⟨c, cs, u, us, rfl, rfl, h.head, h.tail⟩

theorem RepL.out_cons {c : L} {cs : List L} {us : List Value} (h : RepL K J (c :: cs) us) : ∃ u us', us = u :: us' ∧ Rep K J c u ∧ RepL K J cs us' := by
  rcases h.out with ⟨a, _⟩ | ⟨c', cs', u, us', e, f, g, i⟩
  · cases a
  · cases e; exact ⟨u, us', f, g, i⟩

theorem RepL.out_nil {us : List Value} (h : RepL K J [] us) : us = [] := by
  cases us with
  | nil => rfl
  | cons u us => simp [RepL] at h

theorem RepL.getElem? {cs : List L} {us : List Value} (h : RepL K J cs us) {k : Nat} {c : L} (e : cs[k]? = some c) : ∃ u, us[k]? = some u ∧ Rep K J c u := by
  obtain ⟨hk, rfl⟩ := List.getElem?_eq_some_iff.1 e
  have hk' : k < us.length := by rw [h.1]; exact hk
  exact ⟨us[k], List.getElem?_eq_getElem hk', h.2 k hk hk'⟩

theorem RepL.append {a b : List L} {x y : List Value} (h : RepL K J a x) (g : RepL K J b y) : RepL K J (a ++ b) (x ++ y) := by
  refine ⟨by simp [h.1, g.1], fun k hk hk' => ?_⟩
  by_cases hlt : k < a.length
  · rw [List.getElem_append_left hlt, List.getElem_append_left (by rw [h.1]; exact hlt)]; exact h.2 _ _ _
  · have e := h.1
    rw [List.getElem_append_right (by omega), List.getElem_append_right (by omega)]
    have := g.2 (k - a.length) (by simp at hk; omega) (by simp at hk'; omega)
    simpa only [e] using this

theorem RepL.take {a : List L} {x : List Value} (h : RepL K J a x) (n : Nat) : RepL K J (a.take n) (x.take n) :=
  ⟨by simp [h.1], fun k hk hk' => by rw [List.getElem_take, List.getElem_take]; exact h.2 _ _ _⟩

theorem RepL.drop {a : List L} {x : List Value} (h : RepL K J a x) (n : Nat) : RepL K J (a.drop n) (x.drop n) :=
  ⟨by simp [h.1], fun k hk hk' => by rw [List.getElem_drop, List.getElem_drop]; exact h.2 _ _ _⟩

theorem RepL.set {a : List L} {x : List Value} (h : RepL K J a x) (n : Nat) {l : L} {v : Value} (r : Rep K J l v) : RepL K J (a.set n l) (x.set n v) := by
  refine ⟨by simp [h.1], fun k hk hk' => ?_⟩
  rw [List.getElem_set, List.getElem_set]
  split
  · exact r
  · exact h.2 _ _ _

theorem RepL.replicate {n : Nat} {l : L} {v : Value} (r : Rep K J l v) : RepL K J (List.replicate n l) (List.replicate n v) :=
  ⟨by simp, fun k hk hk' => by rw [List.getElem_replicate, List.getElem_replicate]; exact r⟩

theorem RepC.append {a b : List L} {x y : List Value} (h : RepC K J a x) (g : RepC K J b y) : RepC K J (a ++ b) (x ++ y) :=
  ⟨h.1.append g.1, fun u hu => (List.mem_append.1 hu).elim (h.2 u) (g.2 u)⟩
theorem RepC.take {a : List L} {x : List Value} (h : RepC K J a x) (n : Nat) : RepC K J (a.take n) (x.take n) := ⟨h.1.take n, fun u hu => h.2 u (List.mem_of_mem_take hu)⟩
theorem RepC.drop {a : List L} {x : List Value} (h : RepC K J a x) (n : Nat) : RepC K J (a.drop n) (x.drop n) := ⟨h.1.drop n, fun u hu => h.2 u (List.mem_of_mem_drop hu)⟩
theorem RepC.nil : RepC K J [] [] := ⟨RepL.nil, by simp⟩

theorem RepC.len {a : List L} {x : List Value} (h : RepC K J a x) : x.length = a.length := h.1.1
theorem RepL.len {a : List L} {x : List Value} (h : RepL K J a x) : x.length = a.length := h.1

/-- plain values are what they are -/
theorem RepL.vs {xs : List Value} (h : ∀ x ∈ xs, x.oneCell' = true) : RepL K J (xs.map .v) xs := by
  induction xs with
  | nil => exact RepL.nil
  | cons x xs ih => exact RepL.cons (.v x (h x (by simp))) (ih fun y hy => h y (by simp [hy]))

theorem RepC.flatten_replicate {n : Nat} {a : List L} {x : List Value} (h : RepC K J a x) : RepC K J (List.replicate n a).flatten (List.replicate n x).flatten := by
  induction n with
  | zero => exact RepC.nil
  | succ n ih => simp only [List.replicate_succ, List.flatten_cons]; exact h.append ih

end lists

/-- what a value's cells are -/
theorem Rep.cells {K : Kn} {J : Jn} {l : L} {v : Value} (h : Rep K J l v) (ht : l.good = true) : ∃ us, v.cells = us.toArray ∧ RepC K J l.cells us := by
  cases h with
  | v _ h =>
    refine ⟨[v], ?_, ⟨RepL.cons (.v _ h) RepL.nil, by simpa using h⟩⟩
    cases v <;> first | rfl | simp [Value.oneCell'] at h
  | agg cs us hl h1 h => exact ⟨us, rfl, ⟨hl, h⟩, h1⟩
  | tup cs us => cases ht
  | sym i h =>
    have hc : (K.sym i).cells = #[K.sym i] := by generalize K.sym i = v at h; cases v <;> first | rfl | simp [plainV] at h
    exact ⟨_, hc, ⟨RepL.cons (.sym i h) RepL.nil, by generalize K.sym i = v at h; cases v <;> simp_all [Value.oneCell', plainV]⟩⟩
  | dead => cases ht
  | ref o off w h => exact ⟨_, rfl, ⟨RepL.cons (.ref o off w h) RepL.nil, by simp [Value.oneCell']⟩⟩
  | osl o off len esz cap w h hc hw hm => exact ⟨_, rfl, ⟨RepL.cons (.osl o off len esz cap w h hc hw hm) RepL.nil, by simp [Value.oneCell']⟩⟩
  | sl cs len esz cap a us ha hcl hl hc hm h1 hk h => exact ⟨_, rfl, ⟨RepL.cons (.sl cs len esz cap a us ha hcl hl hc hm h1 hk h) RepL.nil, by simp [Value.oneCell']⟩⟩
  | cp cs a us ha hl h1 hk h => exact ⟨_, rfl, ⟨RepL.cons (.cp cs a us ha hl h1 hk h) RepL.nil, by simp [Value.oneCell']⟩⟩
  | omap o w h => exact ⟨_, rfl, ⟨RepL.cons (.omap o w h) RepL.nil, by simp [Value.oneCell']⟩⟩
  | mit o m w h hb => exact ⟨_, rfl, ⟨RepL.cons (.mit o m w h hb) RepL.nil, by simp [Value.oneCell']⟩⟩
  | fn f xs ys us ws hl hl' h h2 => exact ⟨_, rfl, ⟨RepL.cons (.fn f xs ys us ws hl hl' h h2) RepL.nil, by simp [Value.oneCell']⟩⟩
  | ifc t x v h => exact ⟨_, rfl, ⟨RepL.cons (.ifc t x v h) RepL.nil, by simp [Value.oneCell']⟩⟩

theorem RepC.ext {K : Kn} {J : Jn} {c cs : List L} {us : List Value} {off n : Nat} (h : RepC K J c us) (e : ext c off n = some cs) :
    RepC K J cs ((us.drop off).take n) ∧ off + n ≤ c.length ∧ cs.length = n := by
  unfold Lb.ext at e
  split at e
  · cases e; exact ⟨(h.drop off).take n, by assumption, by simp; omega⟩
  · cases e

end Lb
