/- The heap's relation, and what reading, making and writing does to it. -/
import Derived.Test.YtinijohmcofhmaaGreatDoorLbRep
namespace Lb
open Go

def Ob.live : Ob → Bool
  | .cells _ | .map _ _ | .siter _ _ | .miter .. | .miter0 => true
  | _ => false

def MapRel (K : Kn) (J : Jn) (es : List (L × L × Nat)) (arr : List MapEntry) : Prop :=
  arr.length = es.length ∧ ∀ k (h : k < es.length) (h' : k < arr.length), Rep K J es[k].1 arr[k].key ∧ Rep K J es[k].2.1 arr[k].val ∧ arr[k].born = es[k].2.2

theorem MapRel.mono {K K' : Kn} {J J' : Jn} (hK : K.le K') (hJ : J.le J') {es : List (L × L × Nat)} {arr : List MapEntry} (h : MapRel K J es arr) : MapRel K' J' es arr :=
  ⟨h.1, fun k a b => let ⟨x, y, z⟩ := h.2 k a b; ⟨x.mono hK hJ, y.mono hK hJ, z⟩⟩

/-- no cell of a block of so many cells is frozen -/
def Thaw (fz : Nat × Nat) (n : Nat) : Prop := ∀ k, k < n → ¬ (fz.1 ≤ k ∧ k < fz.2)

theorem thaw (n : Nat) : Thaw (0, 0) n := fun k _ hk => by simp at hk

def CellsAt (K : Kn) (J : Jn) (w : World) (win : Win) (c : List L) : Prop :=
  ∃ arr e fz us, w.heap[win.blk]? = some (.cells arr e fz) ∧ arr.size = win.base + win.size ∧ Thaw fz arr.size ∧ RepC K J c us ∧ us.length ≤ win.size ∧
    ∀ k (_ : k < us.length), arr[win.base + k]? = some us[k]

def ObAt (K : Kn) (J : Jn) (w : World) (win : Win) : Ob → Prop
  | .cells c => CellsAt K J w win c
  | .map es clock => ∃ arr, w.heap[win.blk]? = some (.map arr clock) ∧ MapRel K J es arr.toList
  | .siter s pos => w.heap[win.blk]? = some (.stringIter s pos) ∧ win.base = 0
  | .miter m since seen last => ∃ wm, J m = some wm ∧ w.heap[win.blk]? = some (.mapIter (some wm.blk) since seen.toArray last) ∧ win.base = 0
  | .miter0 => w.heap[win.blk]? = some (.mapIter none 0 #[] 0) ∧ win.base = 0
  | _ => True

/-- what never changes -/
def CstAt (K : Kn) (J : Jn) (o : Nat) : Ob → Prop
  | .glob gs => ∀ g c, (g, c) ∈ gs → ∃ us, RepC K J c us ∧ ∀ k (_ : k < us.length), K.cell ⟨g, k, none⟩ = some us[k]
  | .const c => ∃ win us arr e, J o = some win ∧ K win.blk = some (.cells arr e (0, 0)) ∧ RepC K J c us ∧ ∀ k (_ : k < us.length), arr[win.base + k]? = some us[k]
  | _ => True

theorem CstAt.mono {K K' : Kn} {J J' : Jn} (hK : K.le K') (hJ : J.le J') {o : Nat} {b : Ob} (h : CstAt K J o b) : CstAt K' J' o b := by
  cases b with
  | glob gs => exact fun g c hg => let ⟨us, h1, h2⟩ := h g c hg; ⟨us, h1.mono hK hJ, fun k hk => Kn.cell_mono hK (h2 k hk)⟩
  | const c => exact let ⟨win, us, arr, e, h0, h1, h2, h3⟩ := h; ⟨win, us, arr, e, hJ _ _ h0, hK.1 _ _ h1, h2.mono hK hJ, h3⟩
  | _ => trivial

theorem CstAt.live {K : Kn} {J : Jn} {o : Nat} {b : Ob} (h : b.live = true) : CstAt K J o b := by
  cases b <;> first | trivial | simp [Ob.live] at h

structure HRel (K : Kn) (J : Jn) (hp : List Ob) (w : World) : Prop where
  hold : ∀ b o, K b = some o → w.heap[b]? = some o
  ob : ∀ o b, hp[o]? = some b → b.live = true → ∃ win, J o = some win ∧ ObAt K J w win b
  hole : ∀ o, hp[o]? = some .hole → J o = none
  dom : ∀ o, hp.length ≤ o → J o = none
  inj : ∀ o o' b b' win win', hp[o]? = some b → hp[o']? = some b' → b.live = true → b'.live = true → J o = some win → J o' = some win' → win.blk = win'.blk → o = o'
  free : ∀ o b win, hp[o]? = some b → b.live = true → J o = some win → K win.blk = none
  bnd : ∀ o win, J o = some win → win.blk < w.heap.size
  cst : ∀ (o : Nat) b, hp[o]? = some b → CstAt K J o b

/-- the blocks that may be written, by a barrier -/
def Mod (lo : Nat) (J : Jn) (hp : List Ob) (b : Nat) : Prop := ∃ o x win, lo ≤ o ∧ hp[o]? = some x ∧ x.live = true ∧ J o = some win ∧ win.blk = b

structure Post (lo : Nat) (K : Kn) (J : Jn) (hp : List Ob) (w : World) (K' : Kn) (J' : Jn) (hp' : List Ob) (w' : World) : Prop where
  rel : HRel K' J' hp' w'
  kle : K.le K'
  jle : J.le J'
  len : hp.length ≤ hp'.length
  os : w'.os = w.os
  tape : w'.tape = w.tape
  output : w'.output = w.output
  size : w.heap.size ≤ w'.heap.size
  frame : ∀ b, b < w.heap.size → ¬ Mod lo J hp b → w'.heap[b]? = w.heap[b]?
  mods : ∀ b, Mod lo J' hp' b → Mod lo J hp b ∨ w.heap.size ≤ b
  knew : ∀ b, K' b ≠ none → K b ≠ none ∨ Mod lo J hp b ∨ w.heap.size ≤ b
  jold : ∀ o : Nat, o < hp.length → hp[o]? ≠ some Ob.hole → J' o = J o
  nohole : ∀ o : Nat, hp'[o]? = some Ob.hole → hp[o]? = some Ob.hole

theorem Post.refl {lo : Nat} {K : Kn} {J : Jn} {hp : List Ob} {w : World} (h : HRel K J hp w) : Post lo K J hp w K J hp w :=
  ⟨h, K.le_refl, J.le_refl, Nat.le_refl _, rfl, rfl, rfl, Nat.le_refl _, fun _ _ _ => rfl, fun _ h => .inl h, fun _ h => .inl h, fun _ _ _ => rfl, fun _ h => h⟩

theorem Post.trans {lo : Nat} {K K1 K2 : Kn} {J J1 J2 : Jn} {hp hp1 hp2 : List Ob} {w w1 w2 : World}
    (a : Post lo K J hp w K1 J1 hp1 w1) (b : Post lo K1 J1 hp1 w1 K2 J2 hp2 w2) : Post lo K J hp w K2 J2 hp2 w2 where
  rel := b.rel
  kle := Kn.le_trans a.kle b.kle
  jle := Jn.le_trans a.jle b.jle
  len := Nat.le_trans a.len b.len
  os := b.os.trans a.os
  tape := b.tape.trans a.tape
  output := b.output.trans a.output
  size := Nat.le_trans a.size b.size
  frame := fun k hk hm => by
    rw [b.frame k (Nat.lt_of_lt_of_le hk a.size) (fun h => (a.mods k h).elim hm (fun h => by omega)), a.frame k hk hm]
  mods := fun k hk => (b.mods k hk).elim (a.mods k) (fun h => .inr (Nat.le_trans a.size h))
  knew := fun k hk => by
    rcases b.knew k hk with h | h | h
    · exact a.knew k h
    · exact .inr (a.mods k h)
    · exact .inr (.inr (Nat.le_trans a.size h))
  jold := fun o ho hh => by rw [b.jold o (Nat.lt_of_lt_of_le ho a.len) (fun e => hh (a.nohole o e)), a.jold o ho hh]
  nohole := fun o e => a.nohole o (b.nohole o e)

/-- a lower barrier lets more be written -/
theorem Mod.mono {lo lo' : Nat} (h : lo ≤ lo') {J : Jn} {hp : List Ob} {b : Nat} (m : Mod lo' J hp b) : Mod lo J hp b :=
  let ⟨o, x, win, a, c⟩ := m; ⟨o, x, win, Nat.le_trans h a, c⟩

section
variable {K K' : Kn} {J J' : Jn} {hp : List Ob} {w w' : World}

theorem ObAt.mono (hK : K.le K') (hJ : J.le J') {win : Win} {b : Ob} (hw : w'.heap[win.blk]? = w.heap[win.blk]?) (h : ObAt K J w win b) : ObAt K' J' w' win b := by
  cases b with
  | cells c =>
    obtain ⟨arr, e, fz, us, h1, h2, h3, h4, h5, h6⟩ := h
    exact ⟨arr, e, fz, us, by rw [hw, h1], h2, h3, h4.mono hK hJ, h5, h6⟩
  | map es clock =>
    obtain ⟨arr, h1, h2⟩ := h
    exact ⟨arr, by rw [hw, h1], h2.mono hK hJ⟩
  | siter s pos => exact ⟨by rw [hw]; exact h.1, h.2⟩
  | miter m since seen last =>
    obtain ⟨wm, h1, h2, h3⟩ := h
    exact ⟨wm, hJ _ _ h1, by rw [hw]; exact h2, h3⟩
  | miter0 => exact ⟨by rw [hw]; exact h.1, h.2⟩
  | glob gs => trivial
  | const c => trivial
  | hole => trivial
  | gone => trivial

/-- a draw turns no block -/
theorem HRel.same (h : HRel K J hp w) (hw : w'.heap = w.heap) : HRel K J hp w' where
  hold := fun b o e => by rw [hw]; exact h.hold b o e
  ob := fun o b e l => let ⟨win, a, c⟩ := h.ob o b e l; ⟨win, a, c.mono K.le_refl J.le_refl (by rw [hw])⟩
  hole := h.hole
  dom := h.dom
  inj := h.inj
  free := h.free
  bnd := fun o win e => by rw [hw]; exact h.bnd o win e
  cst := h.cst

theorem Post.draw {lo : Nat} (h : HRel K J hp w) : Post lo K J hp w K J hp { w with drawn := w.drawn + 1 } :=
  ⟨h.same rfl, K.le_refl, J.le_refl, Nat.le_refl _, rfl, rfl, rfl, Nat.le_refl _, fun _ _ _ => rfl, fun _ h => .inl h, fun _ h => .inl h, fun _ _ _ => rfl, fun _ h => h⟩

/-- the windows with one more -/
def Jn.upd (J : Jn) (r : Nat) (win : Win) : Jn := fun o => if o = r then some win else J o

theorem Jn.le_upd {r : Nat} {win : Win} (h : J r = none) : J.le (J.upd r win) := fun o x e => by
  unfold Jn.upd
  split
  · rename_i he; subst he; rw [h] at e; cases e
  · exact e

/-- where a new object goes -/
def putOb (hp : List Ob) (b : Ob) : Option Nat → List Ob
  | some r => hp.set r b
  | none => hp ++ [b]

def slotOf (hp : List Ob) : Option Nat → Nat
  | some r => r
  | none => hp.length

def SlotOk (hp : List Ob) : Option Nat → Prop
  | some r => hp[r]? = some .hole
  | none => True

theorem HRel.slot_none (h : HRel K J hp w) {slot : Option Nat} (hs : SlotOk hp slot) : J (slotOf hp slot) = none := by
  cases slot with
  | none => exact h.dom _ (Nat.le_refl _)
  | some r => exact h.hole r hs

theorem putOb_get {b : Ob} {slot : Option Nat} (hs : SlotOk hp slot) (o : Nat) :
    (putOb hp b slot)[o]? = if o = slotOf hp slot then some b else hp[o]? := by
  cases slot with
  | none =>
    show (hp ++ [b])[o]? = _
    by_cases h : o = slotOf hp none
    · rw [if_pos h, h]; simp [slotOf]
    · rw [if_neg h]
      have h' : o ≠ hp.length := h
      by_cases hl : o < hp.length
      · rw [List.getElem?_append_left hl]
      · rw [List.getElem?_eq_none (by simp; omega), List.getElem?_eq_none (by omega)]
  | some r =>
    have hr : r < hp.length := (List.getElem?_eq_some_iff.1 hs).1
    show (hp.set r b)[o]? = _
    rw [List.getElem?_set]
    by_cases h : o = slotOf hp (some r)
    · have h' : r = o := h.symm
      rw [if_pos h, if_pos h']; simp [hr]
    · have h' : ¬ r = o := fun e => h e.symm
      rw [if_neg h, if_neg h']

theorem putOb_len {b : Ob} {slot : Option Nat} (hs : SlotOk hp slot) : hp.length ≤ (putOb hp b slot).length ∧ slotOf hp slot < (putOb hp b slot).length := by
  cases slot with
  | none => simp [putOb, slotOf]
  | some r =>
    have hr : r < hp.length := (List.getElem?_eq_some_iff.1 hs).1
    simp [putOb, slotOf, hr]

theorem heap_push_lt {w : World} {o : Obj} {k : Nat} (h : k < w.heap.size) : (w.alloc o).heap[k]? = w.heap[k]? := by
  show (w.heap.push o)[k]? = _
  rw [Array.getElem?_push, if_neg (by omega)]

theorem heap_push_eq {w : World} {o : Obj} : (w.alloc o).heap[w.heap.size]? = some o := by
  show (w.heap.push o)[w.heap.size]? = _
  simp

theorem Jn.upd_old {slot : Option Nat} {win : Win} (hs : SlotOk hp slot) : ∀ o : Nat, o < hp.length → hp[o]? ≠ some Ob.hole → J.upd (slotOf hp slot) win o = J o := by
  intro o ho hh
  unfold Jn.upd
  rw [if_neg]
  intro e
  cases slot with
  | none => simp [slotOf] at e; omega
  | some r => subst e; exact hh hs

/-- a new object in a new block -/
theorem Post.new' {lo : Nat} (h : HRel K J hp w) {slot : Option Nat} (hs : SlotOk hp slot) (b : Ob) (base size : Nat)
    (hold : ∀ k, k < w.heap.size → w'.heap[k]? = w.heap[k]?) (hsz : w'.heap.size = w.heap.size + 1) (ho : w'.os = w.os) (ht : w'.tape = w.tape) (hout : w'.output = w.output)
    (hb : ObAt K (J.upd (slotOf hp slot) ⟨w.heap.size, base, size⟩) w' ⟨w.heap.size, base, size⟩ b) (hlive : b.live = true) :
    Post lo K J hp w K (J.upd (slotOf hp slot) ⟨w.heap.size, base, size⟩) (putOb hp b slot) w' := by
  have hj := h.slot_none hs
  have jle : J.le (J.upd (slotOf hp slot) ⟨w.heap.size, base, size⟩) := Jn.le_upd hj
  have old : ∀ o win, o ≠ slotOf hp slot → (J.upd (slotOf hp slot) ⟨w.heap.size, base, size⟩) o = some win → J o = some win := by
    intro o win ho e; unfold Jn.upd at e; rwa [if_neg ho] at e
  have new : ∀ win, (J.upd (slotOf hp slot) ⟨w.heap.size, base, size⟩) (slotOf hp slot) = some win → win = ⟨w.heap.size, base, size⟩ := by
    intro win e; unfold Jn.upd at e; rw [if_pos rfl] at e; cases e; rfl
  refine ⟨?_, K.le_refl, jle, (putOb_len hs).1, ho, ht, hout, by omega, fun k hk _ => hold k hk, ?_, fun _ h => .inl h, Jn.upd_old hs, fun o e => by
    rw [putOb_get hs] at e
    split at e
    · cases e; simp [Ob.live] at hlive
    · exact e⟩
  · refine ⟨?_, ?_, ?_, ?_, ?_, ?_, ?_, fun o b' e => by
      rw [putOb_get hs] at e
      split at e
      · cases e; exact CstAt.live hlive
      · exact (h.cst o b' e).mono K.le_refl jle⟩
    · intro k o e
      have hk := h.hold k o e
      rw [hold k (Array.getElem?_eq_some_iff.1 hk).1]; exact hk
    · intro o b' e l
      rw [putOb_get hs] at e
      split at e
      · rename_i ho; subst ho; cases e
        exact ⟨_, by unfold Jn.upd; rw [if_pos rfl], hb⟩
      · obtain ⟨win, a, c⟩ := h.ob o b' e l
        exact ⟨win, jle _ _ a, c.mono K.le_refl jle (hold _ (h.bnd _ _ a))⟩
    · intro o e
      rw [putOb_get hs] at e
      split at e
      · cases e; simp [Ob.live] at hlive
      · rename_i ho; unfold Jn.upd; rw [if_neg ho]; exact h.hole o e
    · intro o ho
      have := putOb_len (b := b) hs
      have hne : o ≠ slotOf hp slot := by omega
      unfold Jn.upd; rw [if_neg hne]
      exact h.dom o (by omega)
    · intro o o' b1 b2 win win' e e' l l' j j' hbk
      rw [putOb_get hs] at e e'
      by_cases ho : o = slotOf hp slot
      · by_cases ho' : o' = slotOf hp slot
        · rw [ho, ho']
        · rw [if_neg ho'] at e'
          have j2 := old _ _ ho' j'
          subst ho
          have := new _ j
          subst this
          have := h.bnd _ _ j2
          simp at hbk; omega
      · by_cases ho' : o' = slotOf hp slot
        · have j1 := old _ _ ho j
          subst ho'
          have := new _ j'
          subst this
          have := h.bnd _ _ j1
          simp at hbk; omega
        · rw [if_neg ho] at e
          rw [if_neg ho'] at e'
          exact h.inj o o' b1 b2 win win' e e' l l' (old _ _ ho j) (old _ _ ho' j') hbk
    · intro o b1 win e l j
      rw [putOb_get hs] at e
      by_cases ho : o = slotOf hp slot
      · subst ho
        have := new _ j
        subst this
        cases hk : K w.heap.size with
        | none => rfl
        | some x => have := (Array.getElem?_eq_some_iff.1 (h.hold _ _ hk)).1; omega
      · rw [if_neg ho] at e
        exact h.free o b1 win e l (old _ _ ho j)
    · intro o win j
      rw [hsz]
      by_cases ho : o = slotOf hp slot
      · subst ho
        have := new _ j
        subst this
        simp
      · have := h.bnd _ _ (old _ _ ho j); omega
  · rintro k ⟨o, x, win, ho, e, l, j, rfl⟩
    rw [putOb_get hs] at e
    by_cases ho' : o = slotOf hp slot
    · subst ho'
      have := new _ j
      subst this
      exact .inr (Nat.le_refl _)
    · rw [if_neg ho'] at e
      exact .inl ⟨o, x, win, ho, e, l, old _ _ ho' j, rfl⟩

theorem Post.new {lo : Nat} (h : HRel K J hp w) {slot : Option Nat} (hs : SlotOk hp slot) (obj : Obj) (b : Ob) (base size : Nat)
    (hb : ObAt K (J.upd (slotOf hp slot) ⟨w.heap.size, base, size⟩) (w.alloc obj) ⟨w.heap.size, base, size⟩ b) (hlive : b.live = true) :
    Post lo K J hp w K (J.upd (slotOf hp slot) ⟨w.heap.size, base, size⟩) (putOb hp b slot) (w.alloc obj) :=
  Post.new' h hs b base size (fun _ hk => heap_push_lt hk) (by simp) rfl rfl rfl hb hlive

/-- an object's contents, written in its own block -/
theorem Post.write {lo : Nat} (h : HRel K J hp w) {o : Nat} {b b' : Ob} (e : hp[o]? = some b) (hlo : lo ≤ o) (l : b.live = true) (l' : b'.live = true) {win : Win} (j : J o = some win)
    (hw : ∀ k, k ≠ win.blk → w'.heap[k]? = w.heap[k]?) (hsz : w'.heap.size = w.heap.size) (ho : w'.os = w.os) (ht : w'.tape = w.tape) (hout : w'.output = w.output)
    (hb : ObAt K J w' win b') : Post lo K J hp w K J (hp.set o b') w' := by
  have hol : o < hp.length := (List.getElem?_eq_some_iff.1 e).1
  have get : ∀ o', (hp.set o b')[o']? = if o' = o then some b' else hp[o']? := by
    intro o'
    rw [List.getElem?_set]
    by_cases h : o = o'
    · subst h; simp [hol]
    · rw [if_neg h, if_neg (fun e => h e.symm)]
  refine ⟨⟨?_, ?_, ?_, ?_, ?_, ?_, ?_, fun o' x ex => by
      rw [get] at ex
      split at ex
      · cases ex; exact CstAt.live l'
      · exact h.cst o' x ex⟩, K.le_refl, J.le_refl, by simp, ho, ht, hout, by omega, ?_, ?_, fun _ h => .inl h, fun _ _ _ => rfl, fun o' ex => by
    rw [get] at ex
    split at ex
    · cases ex; simp [Ob.live] at l'
    · exact ex⟩
  · intro k x ek
    have hk : k ≠ win.blk := fun hk => by rw [hk, h.free o b win e l j] at ek; cases ek
    rw [hw k hk]; exact h.hold k x ek
  · intro o' x ex lx
    rw [get] at ex
    split at ex
    · rename_i ho; subst ho; cases ex; exact ⟨win, j, hb⟩
    · rename_i ho
      obtain ⟨win', a, c⟩ := h.ob o' x ex lx
      exact ⟨win', a, c.mono K.le_refl J.le_refl (hw _ (fun hk => ho (h.inj o' o x b win' win ex e lx l a j hk)))⟩
  · intro o' ex
    rw [get] at ex
    split at ex
    · cases ex; simp [Ob.live] at l'
    · exact h.hole o' ex
  · intro o' hh; exact h.dom o' (by simpa using hh)
  · intro o1 o2 b1 b2 w1 w2 e1 e2 l1 l2 j1 j2 hbk
    rw [get] at e1 e2
    by_cases h1 : o1 = o
    · by_cases h2 : o2 = o
      · rw [h1, h2]
      · rw [if_neg h2] at e2
        subst h1
        exact h.inj o1 o2 b b2 w1 w2 e e2 l l2 j1 j2 hbk
    · rw [if_neg h1] at e1
      by_cases h2 : o2 = o
      · subst h2
        exact h.inj o1 o2 b1 b w1 w2 e1 e l1 l j1 j2 hbk
      · rw [if_neg h2] at e2
        exact h.inj o1 o2 b1 b2 w1 w2 e1 e2 l1 l2 j1 j2 hbk
  · intro o' x win' ex lx jx
    rw [get] at ex
    by_cases h1 : o' = o
    · subst h1; exact h.free o' b win' e l jx
    · rw [if_neg h1] at ex; exact h.free o' x win' ex lx jx
  · intro o' win' jx; rw [hsz]; exact h.bnd _ _ jx
  · intro k _ hm
    exact hw k (fun hk => hm ⟨o, b, win, hlo, e, l, j, hk.symm⟩)
  · rintro k ⟨o', x, win', ho', ex, lx, jx, rfl⟩
    rw [get] at ex
    by_cases h1 : o' = o
    · subst h1; exact .inl ⟨o', b, win', ho', e, l, jx, rfl⟩
    · rw [if_neg h1] at ex; exact .inl ⟨o', x, win', ho', ex, lx, jx, rfl⟩

/-- an object that is no longer to be used -/
theorem HRel.drop (h : HRel K J hp w) (o : Nat) : HRel K J (hp.set o .gone) w := by
  have get : ∀ (o' : Nat) (x : Ob), (hp.set o .gone)[o']? = some x → x.live = true ∨ x = .hole → hp[o']? = some x := by
    intro o' x ex hx
    rw [List.getElem?_set] at ex
    split at ex
    · split at ex
      · cases ex; rcases hx with hx | hx
        · simp [Ob.live] at hx
        · cases hx
      · cases ex
    · exact ex
  refine ⟨h.hold, fun o' x ex lx => h.ob o' x (get _ _ ex (.inl lx)) lx, fun o' ex => h.hole o' (get _ _ ex (.inr rfl)), fun o' hh => h.dom o' (by simpa using hh), ?_, ?_, h.bnd, fun o' x ex => by
    rw [List.getElem?_set] at ex
    split at ex
    · split at ex
      · cases ex; trivial
      · cases ex
    · exact h.cst o' x ex⟩
  · intro o1 o2 b1 b2 w1 w2 e1 e2 l1 l2 j1 j2
    exact h.inj o1 o2 b1 b2 w1 w2 (get _ _ e1 (.inl l1)) (get _ _ e2 (.inl l2)) l1 l2 j1 j2
  · intro o1 b1 w1 e1 l1 j1
    exact h.free o1 b1 w1 (get _ _ e1 (.inl l1)) l1 j1

end

section
variable {K : Kn} {J : Jn} {hp : List Ob} {w w' : World}

/-- a block that nobody has becomes an object's -/
theorem HRel.adopt (h : HRel K J hp w) {slot : Option Nat} (hs : SlotOk hp slot) {b : Ob} {win : Win} (hK : K win.blk = none) (hno : ∀ (o : Nat) (x : Ob) (win' : Win), hp[o]? = some x → x.live = true → J o = some win' → win'.blk ≠ win.blk)
    (hlt : win.blk < w.heap.size) (hw : ∀ k, k ≠ win.blk → w'.heap[k]? = w.heap[k]?) (hsz : w'.heap.size = w.heap.size) (hb : ObAt K (J.upd (slotOf hp slot) win) w' win b) (hlive : b.live = true) :
    HRel K (J.upd (slotOf hp slot) win) (putOb hp b slot) w' := by
  have hj := h.slot_none hs
  have jle : J.le (J.upd (slotOf hp slot) win) := Jn.le_upd hj
  have old : ∀ o x, o ≠ slotOf hp slot → (J.upd (slotOf hp slot) win) o = some x → J o = some x := by
    intro o x ho e; unfold Jn.upd at e; rwa [if_neg ho] at e
  have new : ∀ x, (J.upd (slotOf hp slot) win) (slotOf hp slot) = some x → x = win := by
    intro x e; unfold Jn.upd at e; rw [if_pos rfl] at e; cases e; rfl
  refine ⟨?_, ?_, ?_, ?_, ?_, ?_, ?_, fun o b' e => by
    rw [putOb_get hs] at e
    split at e
    · cases e; exact CstAt.live hlive
    · exact (h.cst o b' e).mono K.le_refl jle⟩
  · intro k o e
    have : k ≠ win.blk := fun hk => by rw [hk, hK] at e; cases e
    rw [hw k this]; exact h.hold k o e
  · intro o b' e l
    rw [putOb_get hs] at e
    split at e
    · rename_i ho; subst ho; cases e
      exact ⟨_, by unfold Jn.upd; rw [if_pos rfl], hb⟩
    · obtain ⟨win', a, c⟩ := h.ob o b' e l
      exact ⟨win', jle _ _ a, c.mono K.le_refl jle (hw _ (hno o b' win' e l a))⟩
  · intro o e
    rw [putOb_get hs] at e
    split at e
    · cases e; simp [Ob.live] at hlive
    · rename_i ho; unfold Jn.upd; rw [if_neg ho]; exact h.hole o e
  · intro o ho
    have := putOb_len (b := b) hs
    have hne : o ≠ slotOf hp slot := by omega
    unfold Jn.upd; rw [if_neg hne]
    exact h.dom o (by omega)
  · intro o o' b1 b2 w1 w2 e e' l l' j j' hbk
    rw [putOb_get hs] at e e'
    by_cases ho : o = slotOf hp slot
    · by_cases ho' : o' = slotOf hp slot
      · rw [ho, ho']
      · rw [if_neg ho'] at e'
        have j2 := old _ _ ho' j'
        subst ho
        have := new _ j
        subst this
        exact absurd hbk.symm (hno _ _ _ e' l' j2)
    · by_cases ho' : o' = slotOf hp slot
      · rw [if_neg ho] at e
        have j1 := old _ _ ho j
        subst ho'
        have := new _ j'
        subst this
        exact absurd hbk (hno _ _ _ e l j1)
      · rw [if_neg ho] at e
        rw [if_neg ho'] at e'
        exact h.inj o o' b1 b2 w1 w2 e e' l l' (old _ _ ho j) (old _ _ ho' j') hbk
  · intro o b1 w1 e l j
    rw [putOb_get hs] at e
    by_cases ho : o = slotOf hp slot
    · subst ho
      have := new _ j
      subst this
      exact hK
    · rw [if_neg ho] at e
      exact h.free o b1 w1 e l (old _ _ ho j)
  · intro o w1 j
    rw [hsz]
    by_cases ho : o = slotOf hp slot
    · subst ho
      have := new _ j
      subst this
      exact hlt
    · exact h.bnd _ _ (old _ _ ho j)

/-- an object's block goes over to a new object -/
theorem Post.takeOver {lo : Nat} (h : HRel K J hp w) {slot : Option Nat} (hs : SlotOk hp slot) {o : Nat} {b b' : Ob} (e : hp[o]? = some b) (hlo : lo ≤ o) (l : b.live = true) (l' : b'.live = true) {win : Win} (j : J o = some win)
    (hw : ∀ k, k ≠ win.blk → w'.heap[k]? = w.heap[k]?) (hsz : w'.heap.size = w.heap.size) (ho : w'.os = w.os) (ht : w'.tape = w.tape) (hout : w'.output = w.output)
    (hb : ObAt K (J.upd (slotOf hp slot) win) w' win b') : Post lo K J hp w K (J.upd (slotOf hp slot) win) (putOb (hp.set o .gone) b' slot) w' := by
  have hol : o < hp.length := (List.getElem?_eq_some_iff.1 e).1
  have hs' : SlotOk (hp.set o .gone) slot := by
    cases slot with
    | none => trivial
    | some r =>
      show (hp.set o .gone)[r]? = some .hole
      rw [List.getElem?_set]
      have hr : hp[r]? = some .hole := hs
      split
      · rename_i hor; subst hor; rw [e] at hr; cases hr; simp [Ob.live] at l
      · exact hr
  have hso : slotOf (hp.set o .gone) slot = slotOf hp slot := by cases slot <;> simp [slotOf]
  have back : ∀ (o' : Nat) (x : Ob), (hp.set o .gone)[o']? = some x → x.live = true → o' ≠ o ∧ hp[o']? = some x := by
    intro o' x ex hx
    rw [List.getElem?_set] at ex
    split at ex
    · cases ex; simp [Ob.live] at hx
    · rename_i hne; exact ⟨fun e => hne e.symm, ex⟩
  have rel := HRel.adopt (h.drop o) hs' (b := b') (win := win) (h.free o b win e l j) (fun o' x win' ex lx jx hbk => by
      obtain ⟨hne, ex'⟩ := back o' x ex lx
      exact hne (h.inj o' o x b win' win ex' e lx l jx j hbk)) (h.bnd o win j) hw hsz (by rw [hso]; exact hb) l'
  rw [hso] at rel
  have hj := h.slot_none hs
  refine ⟨rel, K.le_refl, Jn.le_upd hj, ?_, ho, ht, hout, by omega, ?_, ?_, fun _ h => .inl h, Jn.upd_old hs, fun o' ex => by
    rw [putOb_get hs', hso] at ex
    split at ex
    · cases ex; simp [Ob.live] at l'
    · rw [List.getElem?_set] at ex
      split at ex
      · first | cases ex | (split at ex <;> cases ex)
      · exact ex⟩
  · have := (putOb_len (b := b') hs').1
    simpa using this
  · intro k _ hm
    exact hw k (fun hk => hm ⟨o, b, win, hlo, e, l, j, hk.symm⟩)
  · rintro k ⟨o', x, win', ho', ex, lx, jx, rfl⟩
    rw [putOb_get hs', hso] at ex
    by_cases h1 : o' = slotOf hp slot
    · subst h1
      unfold Jn.upd at jx
      rw [if_pos rfl] at jx
      cases jx
      exact .inl ⟨o, b, win, hlo, e, l, j, rfl⟩
    · rw [if_neg h1] at ex
      obtain ⟨_, ex'⟩ := back o' x ex lx
      unfold Jn.upd at jx
      rw [if_neg h1] at jx
      exact .inl ⟨o', x, win', ho', ex', lx, jx, rfl⟩

end

/-- reading cells of an object -/
theorem HRel.read {K : Kn} {J : Jn} {hp : List Ob} {w : World} (h : HRel K J hp w) {o : Nat} {c cs : List L} (e : hp[o]? = some (.cells c)) {off n : Nat} (he : ext c off n = some cs) :
    ∃ win us, J o = some win ∧ RepC K J cs us ∧ us.length = n ∧ ∀ k (_ : k < us.length), w.cell? ⟨win.blk, win.base + off + k, none⟩ = some us[k] := by
  obtain ⟨win, j, arr, el, fz, us, h1, h2, h3, h4, h5, h6⟩ := h.ob o _ e rfl
  obtain ⟨r, hl, hn⟩ := h4.ext he
  refine ⟨win, (us.drop off).take n, j, r, by rw [r.len, hn], fun k hk => ?_⟩
  have hk' : off + k < us.length := by simp at hk; omega
  have := h6 (off + k) hk'
  unfold World.cell?
  simp only [h1, Option.isSome_none, Bool.false_eq_true, if_false]
  rw [Nat.add_assoc, this]
  simp

section
variable {K K' : Kn} {J J' : Jn} {hp m : List Ob} {w w' : World} {lo : Nat}

/-- objects that are put out of sight -/
theorem HRel.mask (h : HRel K J hp w) (hl : m.length = hp.length) (hm : ∀ o : Nat, m[o]? = hp[o]? ∨ m[o]? = some .gone) : HRel K J m w := by
  have get : ∀ (o : Nat) (x : Ob), m[o]? = some x → x.live = true ∨ x = .hole → hp[o]? = some x := by
    intro o x e hx
    rcases hm o with h1 | h1
    · rw [← h1]; exact e
    · rw [h1] at e; cases e; rcases hx with hx | hx
      · simp [Ob.live] at hx
      · cases hx
  exact ⟨h.hold, fun o x e l => h.ob o x (get o x e (.inl l)) l, fun o e => h.hole o (get o _ e (.inr rfl)), fun o ho => h.dom o (by omega),
    fun o o' b b' x y e e' l l' j j' => h.inj o o' b b' x y (get _ _ e (.inl l)) (get _ _ e' (.inl l')) l l' j j', fun o b x e l j => h.free o b x (get _ _ e (.inl l)) l j, h.bnd, fun o b e => by
      rcases hm o with h1 | h1
      · exact h.cst o b (by rw [← h1]; exact e)
      · rw [h1] at e; cases e; trivial⟩

/-- a call that saw part of the heap and could write none of it -/
theorem Post.merge (h : HRel K J hp w) (hl : m.length = hp.length) (hnh : ∀ o : Nat, m[o]? ≠ some .hole)
    {hp' : List Ob} (p : Post hp.length K J m w K' J' hp' w') : Post lo K J hp w K' J' (hp ++ hp'.drop hp.length) w' := by
  have hlen : hp.length ≤ hp'.length := by rw [← hl]; exact p.len
  have old : ∀ o, o < hp.length → (hp ++ hp'.drop hp.length)[o]? = hp[o]? := fun o ho => List.getElem?_append_left ho
  have new : ∀ o, hp.length ≤ o → (hp ++ hp'.drop hp.length)[o]? = hp'[o]? := fun o ho => by
    rw [List.getElem?_append_right ho, List.getElem?_drop]; congr 1; omega
  have jo : ∀ o, o < hp.length → J' o = J o := fun o ho => p.jold o (by omega) (hnh o)
  have nomod : ∀ b, ¬ Mod hp.length J m b := by
    rintro b ⟨o, x, win, h1, h2, _⟩
    have := (List.getElem?_eq_some_iff.1 h2).1
    omega
  have far : ∀ (o : Nat) (x : Ob) (win : Win), hp.length ≤ o → hp'[o]? = some x → x.live = true → J' o = some win → w.heap.size ≤ win.blk := fun o x win ho e l j =>
    (p.mods win.blk ⟨o, x, win, ho, e, l, j, rfl⟩).elim (fun h => absurd h (nomod _)) id
  have near : ∀ (o : Nat) (x : Ob) (win : Win), o < hp.length → J' o = some win → win.blk < w.heap.size := fun o x win ho j => h.bnd o win (by rw [← jo o ho]; exact j)
  refine ⟨⟨p.rel.hold, ?_, ?_, ?_, ?_, ?_, p.rel.bnd, fun o b e => by
    by_cases ho : o < hp.length
    · rw [old o ho] at e; exact (h.cst o b e).mono p.kle p.jle
    · rw [new o (by omega)] at e; exact p.rel.cst o b e⟩, p.kle, p.jle, by simp, p.os, p.tape, p.output, p.size, fun b hb _ => p.frame b hb (nomod b), ?_, ?_, fun o ho _ => jo o ho, ?_⟩
  · intro o b e l
    by_cases ho : o < hp.length
    · rw [old o ho] at e
      obtain ⟨win, j, ha⟩ := h.ob o b e l
      exact ⟨win, p.jle _ _ j, ha.mono p.kle p.jle (p.frame _ (h.bnd _ _ j) (nomod _))⟩
    · rw [new o (by omega)] at e
      exact p.rel.ob o b e l
  · intro o e
    by_cases ho : o < hp.length
    · rw [old o ho] at e
      rw [jo o ho]; exact h.hole o e
    · rw [new o (by omega)] at e
      exact p.rel.hole o e
  · intro o ho
    exact p.rel.dom o (by simp at ho; omega)
  · intro o o' b b' x y e e' l l' j j' hb
    by_cases ho : o < hp.length
    · by_cases ho' : o' < hp.length
      · rw [old o ho] at e
        rw [old o' ho'] at e'
        exact h.inj o o' b b' x y e e' l l' (by rw [← jo o ho]; exact j) (by rw [← jo o' ho']; exact j') hb
      · rw [new o' (by omega)] at e'
        have h1 := near o b x ho j
        have h2 := far o' b' y (by omega) e' l' j'
        omega
    · rw [new o (by omega)] at e
      by_cases ho' : o' < hp.length
      · have h1 := near o' b' y ho' j'
        have h2 := far o b x (by omega) e l j
        omega
      · rw [new o' (by omega)] at e'
        exact p.rel.inj o o' b b' x y e e' l l' j j' hb
  · intro o b x e l j
    by_cases ho : o < hp.length
    · rw [old o ho] at e
      have h1 := near o b x ho j
      have h2 := h.free o b x e l (by rw [← jo o ho]; exact j)
      cases hk : K' x.blk with
      | none => rfl
      | some y =>
        rcases p.knew x.blk (by rw [hk]; simp) with h3 | h3 | h3
        · exact absurd h2 h3
        · exact absurd h3 (nomod _)
        · omega
    · rw [new o (by omega)] at e
      exact p.rel.free o b x e l j
  · rintro b ⟨o, x, win, h1, e, l, j, rfl⟩
    by_cases ho : o < hp.length
    · rw [old o ho] at e
      exact .inl ⟨o, x, win, h1, e, l, by rw [← jo o ho]; exact j, rfl⟩
    · rw [new o (by omega)] at e
      exact .inr (far o x win (by omega) e l j)
  · intro b hb
    rcases p.knew b hb with h3 | h3 | h3
    · exact .inl h3
    · exact absurd h3 (nomod _)
    · exact .inr (.inr h3)
  · intro o e
    by_cases ho : o < hp.length
    · rw [old o ho] at e; exact e
    · rw [new o (by omega)] at e
      have := p.nohole o e
      exact absurd this (hnh o)

/-- more holes at the end -/
theorem HRel.holes (h : HRel K J hp w) (n : Nat) : HRel K J (hp ++ List.replicate n .hole) w := by
  have get : ∀ (o : Nat) (x : Ob), (hp ++ List.replicate n .hole)[o]? = some x → (o < hp.length ∧ hp[o]? = some x) ∨ (hp.length ≤ o ∧ x = .hole) := by
    intro o x e
    by_cases ho : o < hp.length
    · rw [List.getElem?_append_left ho] at e; exact .inl ⟨ho, e⟩
    · rw [List.getElem?_append_right (by omega), List.getElem?_replicate] at e
      split at e
      · cases e; exact .inr ⟨by omega, rfl⟩
      · cases e
  have live : ∀ (o : Nat) (x : Ob), (hp ++ List.replicate n .hole)[o]? = some x → x.live = true → hp[o]? = some x := by
    intro o x e l
    rcases get o x e with h1 | ⟨_, rfl⟩
    · exact h1.2
    · simp [Ob.live] at l
  exact ⟨h.hold, fun o x e l => h.ob o x (live o x e l) l, fun o e => by
      rcases get o _ e with h1 | h1
      · exact h.hole o h1.2
      · exact h.dom o h1.1, fun o ho => h.dom o (by simp at ho; omega),
    fun o o' b b' x y e e' l l' j j' => h.inj o o' b b' x y (live _ _ e l) (live _ _ e' l') l l' j j', fun o b x e l j => h.free o b x (live _ _ e l) l j, h.bnd, fun o b e => by
      rcases get o b e with h1 | ⟨_, rfl⟩
      · exact h.cst o b h1.2
      · trivial⟩

/-- from a heap with holes at its end to a heap whose holes are sealed -/
theorem Post.shut {n : Nat} {hp1 hp2 : List Ob} (p : Post lo K J (hp ++ List.replicate n .hole) w K' J' hp1 w') (hl : hp2.length = hp1.length)
    (hm : ∀ o : Nat, hp2[o]? = hp1[o]? ∨ hp2[o]? = some .gone) (hnh : ∀ o : Nat, hp2[o]? ≠ some .hole) : Post lo K J hp w K' J' hp2 w' := by
  have get : ∀ b, Mod lo J (hp ++ List.replicate n .hole) b → Mod lo J hp b := by
    rintro b ⟨o, x, win, h1, e, l, j, rfl⟩
    refine ⟨o, x, win, h1, ?_, l, j, rfl⟩
    by_cases ho : o < hp.length
    · rwa [List.getElem?_append_left ho] at e
    · rw [List.getElem?_append_right (by omega), List.getElem?_replicate] at e
      split at e
      · cases e; simp [Ob.live] at l
      · cases e
  have get' : ∀ b, Mod lo J hp b → Mod lo J (hp ++ List.replicate n .hole) b := by
    rintro b ⟨o, x, win, h1, e, l, j, rfl⟩
    exact ⟨o, x, win, h1, by rw [List.getElem?_append_left (List.getElem?_eq_some_iff.1 e).1]; exact e, l, j, rfl⟩
  have hlen := p.len
  simp at hlen
  refine ⟨p.rel.mask hl hm, p.kle, p.jle, by omega, p.os, p.tape, p.output, p.size, fun b hb hm' => p.frame b hb (fun h => hm' (get b h)), ?_, ?_, ?_, fun o e => absurd e (hnh o)⟩
  · rintro b ⟨o, x, win, h1, e, l, j, rfl⟩
    rcases hm o with h2 | h2
    · rw [h2] at e
      exact (p.mods _ ⟨o, x, win, h1, e, l, j, rfl⟩).elim (fun h => .inl (get _ h)) .inr
    · rw [h2] at e; cases e; simp [Ob.live] at l
  · intro b hb
    rcases p.knew b hb with h3 | h3 | h3
    · exact .inl h3
    · exact .inr (.inl (get _ h3))
    · exact .inr (.inr h3)
  · intro o ho hh
    refine p.jold o (by simp; omega) ?_
    rw [List.getElem?_append_left ho]; exact hh

/-- a call that is bound to all others of its region: the later places are open again behind it -/
theorem Post.alone (h : HRel K J hp w) (hl : m.length = hp.length) (hm : ∀ o : Nat, m[o]? = hp[o]? ∨ m[o]? = some .gone) (hnh : ∀ o : Nat, m[o]? ≠ some .hole) {hp2 hp3 : List Ob}
    (p : Post lo K J m w K' J' hp2 w') (hl3 : hp3.length = hp2.length) (h3 : ∀ o : Nat, hp3[o]? = hp2[o]? ∨ (hp3[o]? = some .hole ∧ hp[o]? = some .hole)) : Post lo K J hp w K' J' hp3 w' := by
  have back : ∀ (o : Nat) (x : Ob), m[o]? = some x → x.live = true → hp[o]? = some x := by
    intro o x e l
    rcases hm o with h1 | h1
    · rw [← h1]; exact e
    · rw [h1] at e; cases e; simp [Ob.live] at l
  have fwd : ∀ (o : Nat) (x : Ob), hp3[o]? = some x → x.live = true → hp2[o]? = some x := by
    intro o x e l
    rcases h3 o with h1 | ⟨h1, _⟩
    · rw [← h1]; exact e
    · rw [h1] at e; cases e; simp [Ob.live] at l
  have mods : ∀ b, Mod lo J m b → Mod lo J hp b := fun b ⟨o, x, win, a, c, l, j, e⟩ => ⟨o, x, win, a, back o x c l, l, j, e⟩
  have jn : ∀ o : Nat, hp[o]? = some .hole → J' o = none := fun o e => by
    rw [p.jold o (by rw [hl]; exact (List.getElem?_eq_some_iff.1 e).1) (hnh o)]; exact h.hole o e
  refine ⟨⟨p.rel.hold, fun o b e l => p.rel.ob o b (fwd o b e l) l, fun o e => ?_, fun o ho => p.rel.dom o (by omega), fun o o' b b' x y e e' l l' => p.rel.inj o o' b b' x y (fwd _ _ e l) (fwd _ _ e' l') l l',
    fun o b x e l => p.rel.free o b x (fwd _ _ e l) l, p.rel.bnd, fun o b e => ?_⟩, p.kle, p.jle, ?_, p.os, p.tape, p.output, p.size, fun b hb hmm => p.frame b hb (fun q => hmm (mods b q)), ?_, ?_, ?_, ?_⟩
  · rcases h3 o with h1 | ⟨_, h1⟩
    · rw [h1] at e; exact p.rel.hole o e
    · exact jn o h1
  · rcases h3 o with h1 | ⟨h1, _⟩
    · exact p.rel.cst o b (by rw [← h1]; exact e)
    · rw [h1] at e; cases e; trivial
  · have := p.len; omega
  · rintro b ⟨o, x, win, a, c, l, j, e⟩
    exact (p.mods b ⟨o, x, win, a, fwd o x c l, l, j, e⟩).imp (mods b) id
  · intro b hb
    rcases p.knew b hb with q | q | q
    · exact .inl q
    · exact .inr (.inl (mods b q))
    · exact .inr (.inr q)
  · intro o ho _
    exact p.jold o (by omega) (hnh o)
  · intro o e
    rcases h3 o with h1 | ⟨_, h1⟩
    · rw [h1] at e
      exact absurd (p.nohole o e) (hnh o)
    · exact h1

end

end Lb
