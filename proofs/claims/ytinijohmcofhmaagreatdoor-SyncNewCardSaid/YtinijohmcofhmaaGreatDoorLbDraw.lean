/- Operations of a region that draws its order: what may be swapped. Abstract states alone. -/
import Derived.Test.YtinijohmcofhmaaGreatDoorLbRun
namespace Lb
open Go

def putAll : List (Nat × Ob) → List Ob → List Ob
  | [], hp => hp
  | (o, b) :: r, hp => putAll r (hp.set o b)

def Eff.sets (e : Eff) (r : Nat) : List (Nat × Ob) := e.wr.toList ++ (e.nw.map fun b => (r, b)).toList

def Eff.resAt (e : Eff) (r : Nat) : L := e.res (if e.nw.isSome then r else 0)

theorem putAll_len : ∀ (ws : List (Nat × Ob)) (hp : List Ob), (putAll ws hp).length = hp.length
  | [], _ => rfl
  | (o, b) :: r, hp => by rw [putAll, putAll_len r]; simp

theorem putAll_set : ∀ (ws : List (Nat × Ob)) (hp : List Ob) (o : Nat) (b : Ob), (∀ p ∈ ws, p.1 ≠ o) → putAll ws (hp.set o b) = (putAll ws hp).set o b
  | [], _, _, _, _ => rfl
  | (p, c) :: r, hp, o, b, h => by
    have h1 : p ≠ o := h (p, c) (by simp)
    rw [putAll, putAll, List.set_comm _ _ (fun e => h1 e.symm), putAll_set r _ o b (fun q hq => h q (by simp [hq]))]

theorem putAll_comm : ∀ (ws vs : List (Nat × Ob)) (hp : List Ob), (∀ p ∈ ws, ∀ q ∈ vs, p.1 ≠ q.1) → putAll ws (putAll vs hp) = putAll vs (putAll ws hp)
  | [], _, _, _ => rfl
  | (o, b) :: r, vs, hp, h => by
    rw [putAll, putAll, ← putAll_set vs hp o b (fun q hq e => h (o, b) (by simp) q hq e.symm), putAll_comm r vs _ (fun p hp q hq => h p (by simp [hp]) q hq)]

theorem putAll_append : ∀ (ws : List (Nat × Ob)) (hp t : List Ob), (∀ p ∈ ws, p.1 < hp.length) → putAll ws (hp ++ t) = putAll ws hp ++ t
  | [], _, _, _ => rfl
  | (o, b) :: r, hp, t, h => by
    rw [putAll, putAll, List.set_append_left _ _ (h (o, b) (by simp)), putAll_append r _ t (fun p hq => by simpa using h p (by simp [hq]))]

theorem putAll_get : ∀ (ws : List (Nat × Ob)) (hp : List Ob) (o : Nat), (∀ p ∈ ws, p.1 ≠ o) → (putAll ws hp)[o]? = hp[o]?
  | [], _, _, _ => rfl
  | (p, b) :: r, hp, o, h => by
    rw [putAll, putAll_get r _ o (fun q hq => h q (by simp [hq])), List.getElem?_set_ne (h (p, b) (by simp))]

theorem look_putAll {ws : List (Nat × Ob)} {hp : List Ob} {ids : List Nat} (h : ∀ p ∈ ws, p.1 ∉ ids) : look (putAll ws hp) ids = look hp ids := by
  unfold look
  exact List.map_congr_left fun o ho => putAll_get ws hp o fun p hp e => h p hp (e ▸ ho)

theorem look_append {hp t : List Ob} {ids : List Nat} (h : ∀ o ∈ ids, o < hp.length) : look (hp ++ t) ids = look hp ids := by
  unfold look
  exact List.map_congr_left fun o ho => List.getElem?_append_left (h o ho)

theorem free_iff {hp : List Ob} {r : Nat} : free hp r = true ↔ hp[r]? = some .hole := by
  unfold free
  split <;> simp_all

theorem enact_free {lo : Nat} {hp : List Ob} {e : Eff} {r : Nat} {x : L × List Ob} (h : (if free hp r then enact lo hp e (some r) else none) = some x) : hp[r]? = some .hole ∧ enact lo hp e (some r) = some x := by
  split at h
  · rename_i hf; exact ⟨free_iff.1 hf, h⟩
  · cases h

theorem enact_slot {lo : Nat} {hp hp' : List Ob} {e : Eff} {r : Nat} {d : L} : enact lo hp e (some r) = some (d, hp') ↔ (∀ o b, e.wr = some (o, b) → lo ≤ o) ∧ d = e.resAt r ∧ hp' = putAll (e.sets r) hp := by
  unfold enact fresh Eff.resAt Eff.sets
  cases hw : e.wr with
  | none => cases hn : e.nw <;> simp [putAll, eq_comm]
  | some p =>
    obtain ⟨o, b⟩ := p
    by_cases hl : lo ≤ o
    · cases hn : e.nw <;> simp [putAll, hl, eq_comm]
    · simp [hl]

theorem maskL_set (pre n : Nat) : ∀ (l : List Ob) (i k : Nat) (b : Ob), i + k < n → pre.testBit (i + k) = false → maskL pre n i (l.set k b) = maskL pre n i l
  | [], _, _, _, _, _ => rfl
  | c :: l, i, 0, b, h, hp => by
    simp only [Nat.add_zero] at h hp
    have key : ∀ x, seenAs pre i x = .gone := fun x => by cases x <;> simp [seenAs, hp]
    simp [maskL, h, key]
  | c :: l, i, k + 1, b, h, hp => by
    simp only [List.set_cons_succ, maskL]
    split
    · rw [maskL_set pre n l (i + 1) k b (by omega) (by rw [show i + 1 + k = i + (k + 1) by omega]; exact hp)]
    · omega

theorem mask_putAll {base n pre i : Nat} (hi : i < n) (hp : pre.testBit i = false) : ∀ (ws : List (Nat × Ob)) (hp : List Ob), (∀ p ∈ ws, p.1 = base + i) → base + n ≤ hp.length → mask base n pre (putAll ws hp) = mask base n pre hp
  | [], _, _, _ => rfl
  | (o, b) :: r, l, h, hl => by
    have ho : o = base + i := h (o, b) (by simp)
    rw [putAll, mask_putAll hi hp r _ (fun q hq => h q (by simp [hq])) (by simpa using hl)]
    unfold mask
    rw [List.take_set_of_le (by omega), List.drop_set, if_neg (by omega), ho, Nat.add_sub_cancel_left, maskL_set pre n _ 0 i b (by omega) (by simpa using hp)]

section
variable {cf : CallF} {lo base n : Nat}

theorem reopenL_len (pre n : Nat) : ∀ (l : List Ob) (i : Nat), (reopenL pre n i l).length = l.length
  | [], _ => rfl
  | b :: l, i => by unfold reopenL; split <;> simp [reopenL_len pre n l]

theorem reopen_len {pre : Nat} {hp : List Ob} : (reopen base n pre hp).length = hp.length := by
  unfold reopen; simp [reopenL_len]; omega

theorem actD_len {i pre : Nat} {solo : Bool} {op : ROp} {args : List L} {hp hp' : List Ob} {d : L} {fp : Fp} (h : actD cf lo base n i pre solo op args hp = some (d, hp', fp)) : hp.length ≤ hp'.length := by
  unfold actD at h
  split at h
  · simp only [Option.bind_eq_some_iff] at h
    obtain ⟨fa, _, h⟩ := h
    split at h
    · simp only [Option.bind_eq_some_iff] at h
      obtain ⟨r, _, h⟩ := h
      split at h
      · cases h; rw [reopen_len]; assumption
      · cases h
    · simp only [Option.bind_eq_some_iff] at h
      obtain ⟨r, _, e⟩ := h
      cases e; simp
  · simp only [Option.bind_eq_some_iff] at h
    obtain ⟨e, _, ⟨d', hp''⟩, h3, e4⟩ := h
    cases e4
    rw [(enact_slot.1 (enact_free h3).2).2.2, putAll_len]; exact Nat.le_refl _

theorem stepD_len {i : Nat} {o : ROper} {s s' : St} {fp : Fp} (h : stepD cf lo base n i o s = some (s', fp)) : s.hp.length ≤ s'.hp.length := by
  unfold stepD at h
  simp only [Option.bind_eq_some_iff] at h
  obtain ⟨w, _, h⟩ := h
  split at h
  · simp only [Option.bind_eq_some_iff] at h
    obtain ⟨args, _, r, h3, e⟩ := h
    cases e
    exact actD_len h3
  · cases h; exact Nat.le_refl _

/-- the sets of an operation's effect, far from another operation's -/
theorem sets_mem {e : Eff} {r : Nat} {p : Nat × Ob} (h : p ∈ e.sets r) : (∃ b, e.wr = some (p.1, b)) ∨ p.1 = r := by
  unfold Eff.sets at h
  rcases List.mem_append.1 h with h | h
  · cases hw : e.wr with
    | none => simp [hw] at h
    | some q => simp [hw] at h; subst h; exact .inl ⟨_, rfl⟩
  · cases hw : e.nw with
    | none => simp [hw] at h
    | some q => simp [hw] at h; subst h; exact .inr rfl

theorem actD_swap {i j pa pb : Nat} {sa' sb' : Bool} {opa opb : ROp} {xa xb : List L} {hp hp1 hp2 : List Ob} {da db : L} {fa fb : Fp} (hi : i < n) (hj : j < n) (hij : i ≠ j) (hl : base + n ≤ hp.length)
    (ha : actD cf lo base n i pa sa' opa xa hp = some (da, hp1, fa)) (hb : actD cf lo base n j pb sb' opb xb hp1 = some (db, hp2, fb)) (hc : noConf base i j fa fb = true)
    (h1 : pb.testBit i = false) (h2 : pa.testBit j = false) :
    ∃ hp1', actD cf lo base n j pb sb' opb xb hp = some (db, hp1', fb) ∧ actD cf lo base n i pa sa' opa xa hp1' = some (da, hp2, fa) := by
  unfold actD at ha hb
  split at ha
  · rename_i ca
    simp only [Option.bind_eq_some_iff] at ha
    obtain ⟨ga, hga, ha⟩ := ha
    have hfb : fb ≠ .idle := by
      intro e
      subst e
      split at hb
      · simp only [Option.bind_eq_some_iff] at hb
        obtain ⟨gb, hgb, hb⟩ := hb
        split at hb
        · simp only [Option.bind_eq_some_iff] at hb
          obtain ⟨rb, hrb, hb⟩ := hb
          split at hb <;> cases hb
        · simp only [Option.bind_eq_some_iff] at hb
          obtain ⟨rb, hrb, hb⟩ := hb
          cases hb
      · simp only [Option.bind_eq_some_iff] at hb
        obtain ⟨gb, hgb, rb, hrb, hb⟩ := hb
        cases hb
    split at ha
    · simp only [Option.bind_eq_some_iff] at ha
      obtain ⟨ra, _, ha⟩ := ha
      split at ha
      · cases ha
        cases fb <;> first | exact absurd rfl hfb | simp [noConf] at hc
      · cases ha
    rename_i sa0
    simp only [Option.bind_eq_some_iff] at ha
    obtain ⟨⟨ra, ta⟩, hra, e⟩ := ha
    cases e
    split at hb
    · simp only [Option.bind_eq_some_iff] at hb
      obtain ⟨gb, hgb, hb⟩ := hb
      split at hb
      · simp only [Option.bind_eq_some_iff] at hb
        obtain ⟨rb, _, hb⟩ := hb
        split at hb
        · cases hb; simp [noConf] at hc
        · cases hb
      · simp only [Option.bind_eq_some_iff] at hb
        obtain ⟨⟨rb, tb⟩, hrb, e⟩ := hb
        cases e
        simp [noConf] at hc
    · rename_i cb
      simp only [Option.bind_eq_some_iff] at hb
      obtain ⟨eb, heb, ⟨rb, tb⟩, hrb, e⟩ := hb
      cases e
      obtain ⟨hfree, hrb⟩ := enact_free hrb
      obtain ⟨q1, rfl, rfl⟩ := enact_slot.1 hrb
      rw [List.getElem?_append_left (by omega)] at hfree
      simp only [noConf, Bool.and_eq_true, List.all_eq_true, decide_eq_true_eq, Option.isNone_iff_eq_none, Option.map_eq_none_iff] at hc
      obtain ⟨hw, hids⟩ := hc
      have hs : ∀ p ∈ eb.sets (base + j), p.1 = base + j := fun p hp => (sets_mem hp).elim (fun ⟨b, e⟩ => by rw [hw] at e; cases e) id
      rw [look_append hids] at heb
      refine ⟨putAll (eb.sets (base + j)) hp, ?_, ?_⟩
      · unfold actD
        rw [if_neg cb]
        simp only [heb, Option.bind_some, free_iff.2 hfree, if_true, enact_slot.2 ⟨q1, rfl, rfl⟩]
      · unfold actD
        rw [if_pos ca]
        simp only [hga, Option.bind_some, if_neg sa0, putAll_len, mask_putAll hj h2 _ _ hs hl, hra]
        rw [putAll_append _ _ _ (fun p hp => by rw [hs p hp]; omega)]
  · rename_i ca
    simp only [Option.bind_eq_some_iff] at ha
    obtain ⟨ea, hea, ⟨ra, ta⟩, hra, e⟩ := ha
    cases e
    obtain ⟨hfa, hra⟩ := enact_free hra
    obtain ⟨q1, rfl, rfl⟩ := enact_slot.1 hra
    split at hb
    · rename_i cb
      simp only [Option.bind_eq_some_iff] at hb
      obtain ⟨gb, hgb, hb⟩ := hb
      split at hb
      · simp only [Option.bind_eq_some_iff] at hb
        obtain ⟨rb, _, hb⟩ := hb
        split at hb
        · cases hb; simp [noConf] at hc
        · cases hb
      rename_i sb0
      simp only [Option.bind_eq_some_iff] at hb
      obtain ⟨⟨rb, tb⟩, hrb, e⟩ := hb
      cases e
      simp only [noConf, Bool.and_eq_true, List.all_eq_true, decide_eq_true_eq, Option.isNone_iff_eq_none, Option.map_eq_none_iff, putAll_len] at hc
      obtain ⟨hw, hids⟩ := hc
      have hs : ∀ p ∈ ea.sets (base + i), p.1 = base + i := fun p hp => (sets_mem hp).elim (fun ⟨b, e⟩ => by rw [hw] at e; cases e) id
      simp only [putAll_len, mask_putAll hi h1 _ _ hs hl] at hrb
      refine ⟨hp ++ tb.drop hp.length, ?_, ?_⟩
      · unfold actD
        rw [if_pos cb]
        simp only [hgb, Option.bind_some, if_neg sb0, hrb, putAll_len]
      · unfold actD
        rw [if_neg ca, look_append hids]
        have hfa' : (hp ++ tb.drop hp.length)[base + i]? = some .hole := by rw [List.getElem?_append_left (by omega)]; exact hfa
        simp only [hea, Option.bind_some, free_iff.2 hfa', if_true, enact_slot.2 ⟨q1, rfl, rfl⟩, putAll_len]
        rw [putAll_append _ _ _ (fun p hp => by rw [hs p hp]; omega)]
    · rename_i cb
      simp only [Option.bind_eq_some_iff] at hb
      obtain ⟨eb, heb, ⟨rb, tb⟩, hrb, e⟩ := hb
      cases e
      obtain ⟨hfb, hrb⟩ := enact_free hrb
      obtain ⟨q2, rfl, rfl⟩ := enact_slot.1 hrb
      simp only [noConf, Bool.and_eq_true, Bool.not_eq_true', List.contains_eq_mem, decide_eq_false_iff_not] at hc
      obtain ⟨⟨⟨c1, c2⟩, c3⟩, c4⟩ := hc
      have wa : ∀ o b, ea.wr = some (o, b) → o ∉ rds opb xb ∧ (∀ b', eb.wr ≠ some (o, b')) ∧ base + j ≠ o := by
        intro o b e
        rw [e] at c1
        simp only [farW, Option.map_some, Bool.and_eq_true, Bool.not_eq_true', List.contains_eq_mem, decide_eq_false_iff_not, bne_iff_ne, ne_eq] at c1
        exact ⟨c1.1.1, fun b' e' => c1.1.2 (by rw [e']; rfl), c1.2⟩
      have wb : ∀ o b, eb.wr = some (o, b) → o ∉ rds opa xa ∧ base + i ≠ o := by
        intro o b e
        rw [e] at c2
        simp only [farW, Option.map_some, Bool.and_eq_true, Bool.not_eq_true', List.contains_eq_mem, decide_eq_false_iff_not, bne_iff_ne, ne_eq] at c2
        exact ⟨c2.1.1, c2.2⟩
      have sa : ∀ p ∈ ea.sets (base + i), p.1 ∉ rds opb xb := fun p hp => (sets_mem hp).elim (fun ⟨b, e⟩ => (wa _ _ e).1) (fun e => by rw [e]; exact c3)
      have sb : ∀ p ∈ eb.sets (base + j), p.1 ∉ rds opa xa := fun p hp => (sets_mem hp).elim (fun ⟨b, e⟩ => (wb _ _ e).1) (fun e => by rw [e]; exact c4)
      have sab : ∀ p ∈ eb.sets (base + j), ∀ q ∈ ea.sets (base + i), p.1 ≠ q.1 := by
        intro p hp q hq e
        rcases sets_mem hp with ⟨b, hb⟩ | hb <;> rcases sets_mem hq with ⟨c, hc⟩ | hc
        · exact (wa _ _ hc).2.1 b (by rw [hb, e])
        · exact (wb _ _ hb).2 (by rw [e, hc])
        · exact (wa _ _ hc).2.2 (by rw [← hb, e])
        · omega
      rw [look_putAll sa] at heb
      have hfb' : hp[base + j]? = some .hole := by
        rw [← hfb]
        exact (putAll_get _ _ _ fun p hp e => (sets_mem hp).elim (fun ⟨b, hb⟩ => (wa _ _ hb).2.2 e.symm) (fun hb => by omega)).symm
      have hfa' : (putAll (eb.sets (base + j)) hp)[base + i]? = some .hole := by
        rw [← hfa]
        exact putAll_get _ _ _ fun p hp e => (sets_mem hp).elim (fun ⟨b, hb⟩ => (wb _ _ hb).2 e.symm) (fun hb => by omega)
      refine ⟨putAll (eb.sets (base + j)) hp, ?_, ?_⟩
      · unfold actD
        rw [if_neg cb]
        simp only [heb, Option.bind_some, free_iff.2 hfb', if_true, enact_slot.2 ⟨q2, rfl, rfl⟩]
      · unfold actD
        rw [if_neg ca, look_putAll sb]
        simp only [hea, Option.bind_some, free_iff.2 hfa', if_true, enact_slot.2 ⟨q1, rfl, rfl⟩]
        rw [putAll_comm _ _ _ (fun p hp q hq e => sab q hq p hp e.symm)]

theorem wanted_put {g : Option (Nat × Bool)} {env : List L} {dst : Option Nat} {d : L} (h : ∀ t w, g = some (t, w) → dst ≠ some t) : wanted g (putE env dst d) = wanted g env := by
  cases g with
  | none => rfl
  | some p =>
    obtain ⟨t, w⟩ := p
    cases dst with
    | none => rfl
    | some u =>
      have hne : u ≠ t := fun e => h t w rfl (by rw [e])
      simp only [wanted, putE, List.getElem?_set_ne hne]

theorem opds_put {xs : List Opd} {env : List L} {dst : Option Nat} {d : L} (h : ∀ t ∈ tmpsOf xs, dst ≠ some t) : opds (putE env dst d) xs = opds env xs := by
  cases dst with
  | none => rfl
  | some u =>
    unfold opds
    induction xs with
    | nil => rfl
    | cons x xs ih =>
      have ih' := ih (fun t ht => h t (by unfold tmpsOf at ht ⊢; rw [List.mem_filterMap] at ht ⊢; obtain ⟨a, b, c⟩ := ht; exact ⟨a, by simp [b], c⟩))
      simp only [omapO, ih']
      cases x with
      | c l => rfl
      | t m =>
        have hne : u ≠ m := fun e => h m (by simp [tmpsOf]) (by rw [e])
        simp only [opd, putE, List.getElem?_set_ne hne]

theorem putE_comm {env : List L} {a b : Option Nat} {x y : L} (h : ∀ t, a = some t → b ≠ some t) : putE (putE env a x) b y = putE (putE env b y) a x := by
  cases a with
  | none => rfl
  | some t => cases b with
    | none => rfl
    | some u => exact List.set_comm _ _ (fun e => h t rfl (by rw [e]))

theorem apart_spec {a b : ROper} (h : apart a b = true) : (∀ t, a.dst = some t → t ∉ seesT b ∧ b.dst ≠ some t) ∧ (∀ t, b.dst = some t → t ∉ seesT a) := by
  unfold apart at h
  simp only [Bool.and_eq_true] at h
  constructor
  · intro t e
    have := h.1
    rw [e] at this
    simp only [Bool.and_eq_true, Bool.not_eq_true', List.contains_eq_mem, decide_eq_false_iff_not, bne_iff_ne, ne_eq] at this
    exact this
  · intro t e
    have := h.2
    rw [e] at this
    simpa only [Bool.not_eq_true', List.contains_eq_mem, decide_eq_false_iff_not] using this

theorem sees_ops {o : ROper} {t : Nat} (h : t ∈ tmpsOf (rargs o.op)) : t ∈ seesT o := List.mem_append.2 (.inl h)
theorem sees_guard {o : ROper} {t : Nat} {w : Bool} (h : o.guard = some (t, w)) : t ∈ seesT o := List.mem_append.2 (.inr (by rw [h]; simp))

theorem stepD_swap {i j : Nat} {a b : ROper} {s s1 s2 : St} {fa fb : Fp} (hi : i < n) (hj : j < n) (hij : i ≠ j) (hl : base + n ≤ s.hp.length)
    (ha : stepD cf lo base n i a s = some (s1, fa)) (hb : stepD cf lo base n j b s1 = some (s2, fb)) (hap : apart a b = true) (hc : noConf base i j fa fb = true)
    (h1 : b.pre.testBit i = false) (h2 : a.pre.testBit j = false) :
    ∃ s1', stepD cf lo base n j b s = some (s1', fb) ∧ stepD cf lo base n i a s1' = some (s2, fa) := by
  obtain ⟨p1, p2⟩ := apart_spec hap
  have wA : ∀ d env, wanted a.guard (putE env b.dst d) = wanted a.guard env := fun d env => wanted_put fun t w e e' => p2 t e' (sees_guard e)
  have wB : ∀ d env, wanted b.guard (putE env a.dst d) = wanted b.guard env := fun d env => wanted_put fun t w e e' => (p1 t e').1 (sees_guard e)
  have oA : ∀ d env, opds (putE env b.dst d) (rargs a.op) = opds env (rargs a.op) := fun d env => opds_put fun t ht e' => p2 t e' (sees_ops ht)
  have oB : ∀ d env, opds (putE env a.dst d) (rargs b.op) = opds env (rargs b.op) := fun d env => opds_put fun t ht e' => (p1 t e').1 (sees_ops ht)
  have cE : ∀ env x y, putE (putE env a.dst x) b.dst y = putE (putE env b.dst y) a.dst x := fun env x y => putE_comm fun t e => (p1 t e).2
  unfold stepD at ha hb
  simp only [Option.bind_eq_some_iff] at ha hb
  obtain ⟨wa, hwa, ha⟩ := ha
  obtain ⟨wb, hwb, hb⟩ := hb
  cases wa with
  | false =>
    simp only [Bool.false_eq_true, if_false, Option.some.injEq, Prod.mk.injEq] at ha
    obtain ⟨rfl, rfl⟩ := ha
    rw [wB] at hwb
    cases wb with
    | false =>
      simp only [Bool.false_eq_true, if_false, Option.some.injEq, Prod.mk.injEq] at hb
      obtain ⟨rfl, rfl⟩ := hb
      refine ⟨⟨putE s.env b.dst (.tup []), s.hp⟩, by unfold stepD; simp [hwb], ?_⟩
      unfold stepD
      simp [wA, hwa, cE]
    | true =>
      simp only [if_true, Option.bind_eq_some_iff, oB] at hb
      obtain ⟨xb, hxb, r, hr, e⟩ := hb
      cases e
      refine ⟨⟨putE s.env b.dst r.1, r.2.1⟩, by unfold stepD; simp [hwb, hxb, hr], ?_⟩
      unfold stepD
      simp [wA, hwa, cE]
  | true =>
    simp only [if_true, Option.bind_eq_some_iff] at ha
    obtain ⟨xa, hxa, ra, hra, e⟩ := ha
    cases e
    rw [wB] at hwb
    cases wb with
    | false =>
      simp only [Bool.false_eq_true, if_false, Option.some.injEq, Prod.mk.injEq] at hb
      obtain ⟨rfl, rfl⟩ := hb
      refine ⟨⟨putE s.env b.dst (.tup []), s.hp⟩, by unfold stepD; simp [hwb], ?_⟩
      unfold stepD
      simp [wA, hwa, cE, oA, hxa, hra]
    | true =>
      simp only [if_true, Option.bind_eq_some_iff, oB] at hb
      obtain ⟨xb, hxb, rb, hrb, e⟩ := hb
      cases e
      obtain ⟨hp1', g1, g2⟩ := actD_swap hi hj hij hl (show actD cf lo base n i a.pre a.solo a.op xa s.hp = some (ra.1, ra.2.1, ra.2.2) from hra) (show actD cf lo base n j b.pre b.solo b.op xb ra.2.1 = some (rb.1, rb.2.1, rb.2.2) from hrb) hc h1 h2
      refine ⟨⟨putE s.env b.dst rb.1, hp1'⟩, by unfold stepD; simp [hwb, hxb, g1], ?_⟩
      unfold stepD
      simp [wA, hwa, cE, oA, hxa, g2]

/-- operations one after another, each with its number and what it touches -/
def RunL (cf : CallF) (lo base n : Nat) : List (Nat × ROper × Fp) → St → St → Prop
  | [], s, s' => s = s'
  | x :: l, s, s' => ∃ s1, stepD cf lo base n x.1 x.2.1 s = some (s1, x.2.2) ∧ RunL cf lo base n l s1 s'

/-- an operation whose forerunners are done goes to the front -/
theorem RunL.bubble {x : Nat × ROper × Fp} {q : List (Nat × ROper × Fp)} (hx : x.1 < n) : ∀ {p : List (Nat × ROper × Fp)} {s s' : St}, base + n ≤ s.hp.length → RunL cf lo base n (p ++ x :: q) s s' →
    (∀ y ∈ p, y.1 < n ∧ okPair base y x = true ∧ x.2.1.pre.testBit y.1 = false) → RunL cf lo base n (x :: (p ++ q)) s s'
  | [], _, _, _, h, _ => h
  | y :: p, s, s', hl, h, hp => by
    obtain ⟨s1, hy, h⟩ := h
    have ih := RunL.bubble hx (Nat.le_trans hl (stepD_len hy)) h (fun z hz => hp z (by simp [hz]))
    obtain ⟨s2, hx2, h⟩ := ih
    obtain ⟨hn, hok, hpre⟩ := hp y (by simp)
    simp only [okPair, hpre, Bool.false_or, Bool.and_eq_true, decide_eq_true_eq, Bool.not_eq_true'] at hok
    obtain ⟨hlt, ⟨hap, hc⟩, hp2⟩ := hok
    obtain ⟨s1', g1, g2⟩ := stepD_swap hn hx (by omega) hl hy hx2 hap hc hpre hp2
    exact ⟨s1', g1, s2, g2, h⟩

/-- the run in the text's order -/
theorem runD_run : ∀ (os : List ROper) (i : Nat) (done : List (Nat × ROper × Fp)) (s s' : St), runD cf lo base n i os done s = some s' → i + os.length ≤ n →
    ∃ tr : List (Nat × ROper × Fp), tr.length = os.length ∧ (∀ (k : Nat) x, tr[k]? = some x → x.1 = i + k ∧ os[k]? = some x.2.1) ∧ RunL cf lo base n tr s s' ∧ tr.Pairwise (fun x y => okPair base x y = true) ∧
      ∀ x ∈ done, ∀ y ∈ tr, okPair base x y = true
  | [], _, _, s, s', h, _ => by
    cases h
    exact ⟨[], rfl, by simp, rfl, List.Pairwise.nil, by simp⟩
  | o :: os, i, done, s, s', h, hn => by
    rw [runD, Option.bind_eq_some_iff] at h
    obtain ⟨⟨s1, fp⟩, h1, h2⟩ := h
    simp only at h2
    split at h2
    · rename_i hok
      obtain ⟨tr, g1, g2, g3, g4, g5⟩ := runD_run os (i + 1) _ s1 s' h2 (by simp at hn; omega)
      refine ⟨(i, o, fp) :: tr, by simp [g1], ?_, ⟨s1, h1, g3⟩, List.Pairwise.cons (fun y hy => g5 _ (by simp) y hy) g4, ?_⟩
      · intro k x hk
        cases k with
        | zero => simp at hk; subst hk; simp
        | succ k => have := g2 k x (by simpa using hk); simp; exact ⟨by omega, this.2⟩
      · intro x hx y hy
        rw [List.all_eq_true] at hok
        rcases List.mem_cons.1 hy with rfl | hy
        · exact hok x hx
        · exact g5 x (by simp [hx]) y hy
    · cases h2

end
end Lb
