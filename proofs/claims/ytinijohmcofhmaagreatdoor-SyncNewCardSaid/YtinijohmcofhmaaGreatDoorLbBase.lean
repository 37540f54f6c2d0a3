/- The first heap, out of what a row lists; and what the frame gives at the end. -/
import Derived.Test.YtinijohmcofhmaaGreatDoorLbOrc
import Derived.Stop.LaidErr
import Derived.RowKit3
import Derived.ChangeSame
namespace Lb
open Go

section
variable {P : Program} {W : World} {ρ : Nat → Value}

/-- a variable that holds an error of errors.New's make -/
def SentAt (W : World) (tp : TypeId) (p : Nat × List UInt8) : Prop :=
  ∃ (a : Addr) (s : ByteArray) (c : Array Value) (t : TypeId), a.spot = none ∧ W.cell? ⟨p.1, 0, none⟩ = some (.iface tp (.pointer (some a))) ∧ W.cell? a = some (.string s) ∧ s.data.toList = p.2 ∧
    W.heap[a.block]? = some (.cells c t (0, 0))

theorem laid_each {nm : String} {ti tp te ts : TypeId} {ms : Array (String × TypeId)} {f : Field} (hi : P.underlying ti = some (.interface ms)) (hrow : ∀ u, P.typeName? 3 u = some nm → u = tp)
    (hp : P.underlying tp = some (.pointer te)) (he : P.underlying te = some (.struct #[f])) (hft : f.type = ts) (hfo : f.offset = 0) (hs : P.underlying ts = some .string) (hc : P.cellsOf te = 1) (hcs : P.cellsOf ts = 1) :
    ∀ (laid : List (String × DataW Unit)) (ps : List MemPlace), DataW.LaidVars P W laid ps →
      (∀ b off, MemPlace.cell b off ∈ ps → (∃ c t, W.heap[b]? = some (.cells c t (0, 0))) ∧ ∀ u v, W.cell? ⟨b, off, none⟩ = some (.iface u v) → Value.okWide P W .any 0 u v) →
      ∀ (n : String) (text : List UInt8) (g : Nat), (n, DataW.iface nm (.ptr (.agg [.lit (.string text)]))) ∈ laid → P.globalNamed n = some g → (P.globals[g]?).map (·.type) = some ti → SentAt W tp (g, text)
  | [], ps, _, _, n, text, g, hm, _, _ => by cases hm
  | (n', d') :: r, ps, h, hrows, n, text, g, hm, hg, ht => by
    obtain ⟨g0, t0, cs0, f0, p0, q0, hg0, ht0, hv0, hd0, hr, e0⟩ := h
    rcases List.mem_cons.1 hm with e | hm
    · cases e
      obtain rfl := Option.some.inj (hg.symm.trans hg0)
      obtain rfl := Option.some.inj (ht.symm.trans ht0)
      subst e0
      obtain ⟨l0⟩ := cs0
      have ok0 : ∀ u v, l0 = [.iface u v] → Value.okWide P W .any 0 u v := fun u v e => by
        subst e
        exact (hrows g 0 (by simp [MemPlace.row])).2 u v (by simpa using World.var?_cell hg0 hv0 0)
      obtain ⟨a0, s0, rfl, hc0, hs0, hz0, rfl⟩ := errorString_of_trod hi hrow hp he hft hfo hs hc hcs hd0 ok0
      obtain ⟨c0, t0, hb0⟩ := (hrows a0.block a0.off (by simp [MemPlace.row])).1
      refine ⟨a0, s0, c0, t0, ?_, by simpa using World.var?_cell hg0 hv0 0, hc0, hs0, hb0⟩
      cases hsp : a0.spot with
      | none => rfl
      | some x =>
        exfalso
        unfold World.cell? at hc0
        rw [hb0] at hc0
        simp [hsp] at hc0
    · exact laid_each hi hrow hp he hft hfo hs hc hcs r q0 hr (fun b off hb => hrows b off (by rw [e0]; simp [hb])) n text g hm hg ht

def baseGs (tp : TypeId) : List (Nat × List UInt8) → Nat → List (Nat × List L)
  | [], _ => []
  | p :: r, i => (p.1, [.ifc tp (.ref i 0)]) :: baseGs tp r (i + 1)

def baseHp (tp : TypeId) (S : List (Nat × List UInt8)) : List Ob := .glob (baseGs tp S 1) :: S.map fun p => .const [.v (.string ⟨p.2.toArray⟩)]

theorem baseGs_mem {tp : TypeId} {g : Nat} {c : List L} : ∀ {S : List (Nat × List UInt8)} {i : Nat}, (g, c) ∈ baseGs tp S i → ∃ (k : Nat) (p : Nat × List UInt8), S[k]? = some p ∧ g = p.1 ∧ c = [.ifc tp (.ref (i + k) 0)]
  | [], i, h => by cases h
  | p :: S, i, h => by
    rcases List.mem_cons.1 h with h | h
    · cases h; exact ⟨0, p, rfl, rfl, rfl⟩
    · obtain ⟨k, q, h1, h2, h3⟩ := baseGs_mem h
      exact ⟨k + 1, q, by simpa using h1, h2, by rw [h3]; congr 3; omega⟩

/-- all that is there when a call begins stays -/
def K0 (W : World) (ρ : Nat → Value) : Kn := ⟨fun b => W.heap[b]?, ρ⟩

theorem K0_cell {a : Addr} {v : Value} (h : W.cell? a = some v) : (K0 W ρ).cell a = some v := by
  unfold World.cell? at h
  unfold Kn.cell
  show (match W.heap[a.block]? with | some (.cells c _ _) => if a.spot.isSome then none else c[a.off]? | _ => none) = _
  cases hb : W.heap[a.block]? with
  | none => rw [hb] at h; cases h
  | some o => rw [hb] at h; cases o <;> simp_all

theorem base_rel (tp : TypeId) (S : List (Nat × List UInt8)) (h : ∀ p ∈ S, SentAt W tp p) : ∃ J, HRel (K0 W ρ) J (baseHp tp S) W ∧ NoHole (baseHp tp S) := by
  classical
  have hget : ∀ k (hk : k < S.length), SentAt W tp S[k] := fun k hk => h _ (List.getElem_mem hk)
  let ad : Nat → Option Addr := fun k => if hk : k < S.length then some (Classical.choose (hget k hk)) else none
  let J : Jn := fun o => match o with
    | 0 => none
    | k + 1 => (ad k).map fun a => ⟨a.block, a.off, 1⟩
  have had : ∀ k (hk : k < S.length), ∃ (a : Addr) (s : ByteArray) (c : Array Value) (t : TypeId), ad k = some a ∧ a.spot = none ∧ W.cell? ⟨S[k].1, 0, none⟩ = some (.iface tp (.pointer (some a))) ∧ W.cell? a = some (.string s) ∧
      s.data.toList = S[k].2 ∧ W.heap[a.block]? = some (.cells c t (0, 0)) := by
    intro k hk
    obtain ⟨s, c, t, h1, h2, h3, h4, h5⟩ := Classical.choose_spec (hget k hk)
    exact ⟨_, s, c, t, by simp [ad, hk], h1, h2, h3, h4, h5⟩
  have nolive : ∀ (o : Nat) (b : Ob), (baseHp tp S)[o]? = some b → b.live = true → False := by
    intro o b e l
    cases o with
    | zero => simp [baseHp] at e; subst e; simp [Ob.live] at l
    | succ k =>
      simp [baseHp] at e
      obtain ⟨p, q, _, rfl⟩ := e
      simp [Ob.live] at l
  refine ⟨J, ⟨fun b o e => e, fun o b e l => (nolive o b e l).elim, ?_, ?_, fun o _ b _ _ _ e _ l => (nolive o b e l).elim, fun o b _ e l => (nolive o b e l).elim, ?_, ?_⟩, ?_⟩
  · intro o e
    cases o with
    | zero => simp [baseHp] at e
    | succ k => simp [baseHp] at e
  · intro o ho
    cases o with
    | zero => rfl
    | succ k =>
      have hk : ¬ k < S.length := by simp [baseHp] at ho; omega
      simp [J, ad, hk]
  · intro o win j
    cases o with
    | zero => cases j
    | succ k =>
      simp only [J, Option.map_eq_some_iff] at j
      obtain ⟨a, ha, rfl⟩ := j
      by_cases hk : k < S.length
      · obtain ⟨a', s, c, t, h0, h1, h2, h3, h4, h5⟩ := had k hk
        rw [ha] at h0
        cases h0
        exact (Array.getElem?_eq_some_iff.1 h5).1
      · simp [ad, hk] at ha
  · intro o b e
    cases o with
    | zero =>
      simp [baseHp] at e
      subst e
      intro g c hg
      obtain ⟨k, p, h1, rfl, rfl⟩ := baseGs_mem hg
      obtain ⟨hk, rfl⟩ := List.getElem?_eq_some_iff.1 h1
      obtain ⟨a, s, c, t, h0, hsp, h2, h3, h4, h5⟩ := had k hk
      refine ⟨[.iface tp (.pointer (some a))], ⟨RepL.cons (.ifc _ _ _ ?_) RepL.nil, by simp [Value.oneCell']⟩, fun j hj => ?_⟩
      · have ea : a = ⟨a.block, a.off + 0, none⟩ := by cases a; simp_all
        rw [ea]
        exact Rep.ref (1 + k) 0 ⟨a.block, a.off, 1⟩ (by rw [Nat.add_comm 1 k]; simp [J, h0])
      · simp at hj
        subst hj
        exact K0_cell h2
    | succ k =>
      simp [baseHp] at e
      obtain ⟨p, q, hp, rfl⟩ := e
      obtain ⟨hk, hpe⟩ := List.getElem?_eq_some_iff.1 hp
      obtain ⟨a, s, c, t, h0, hsp, h2, h3, h4, h5⟩ := had k hk
      rw [hpe] at h4
      have hs : (⟨q.toArray⟩ : ByteArray) = s := by
        apply ByteArray.ext; apply Array.toList_inj.1; rw [h4]
      refine ⟨⟨a.block, a.off, 1⟩, [.string s], c, t, by simp [J, h0], h5, ⟨RepL.cons (by rw [hs]; exact .v _ rfl) RepL.nil, by simp [Value.oneCell']⟩, fun j hj => ?_⟩
      simp at hj
      subst hj
      unfold World.cell? at h3
      rw [h5] at h3
      simp [hsp] at h3
      simpa using h3
  · intro o e
    cases o with
    | zero => simp [baseHp] at e
    | succ k => simp [baseHp] at e

/-- nothing that was there is turned -/
theorem kept_of_post {K K' : Kn} {J J' : Jn} {hp hp' : List Ob} {W' : World} (p : Post hp.length K J hp W K' J' hp' W') (may : MemPlace → Prop) :
    W.keptBut W' may ∧ ∀ a : Addr, a.block < W.heap.size → W'.frozen? a = W.frozen? a := by
  have same : ∀ b, b < W.heap.size → W'.heap[b]? = W.heap[b]? := fun b hb => p.frame b hb fun ⟨o, x, win, h1, h2, _⟩ => by
    have := (List.getElem?_eq_some_iff.1 h2).1
    omega
  refine ⟨⟨p.os, p.output, fun i hi => ?_⟩, fun a ha => ?_⟩
  · rw [same i hi]
    cases W.heap[i]? with
    | none => rfl
    | some o => cases o <;> first | exact ⟨rfl, rfl, rfl, fun _ _ => rfl⟩ | exact .inr ⟨rfl, rfl⟩ | rfl
  · unfold World.frozen?
    rw [same _ ha]

end
end Lb
