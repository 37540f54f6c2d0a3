/- Maps. -/
import Derived.Test.YtinijohmcofhmaaGreatDoorLbOps10
namespace Lb
open Go

section
variable {P : Program} {w : World} {K : Kn} {J : Jn} {hp hp' : List Ob} {lo : Nat} {slot : Option Nat} {d : L} {a : Act} {env : List L} {o : Oper}

theorem keyK_spec {t : TypeId} {ks : List Leaf} {g : Bool} (h : keyK P t = some (ks, g)) : ∃ kt et, P.underlying t = some (.map kt et) ∧ leafK P 20 kt = some ks ∧ isAggT P kt = some g := by
  unfold keyK at h
  split at h
  · rename_i kt et hu
    rw [Option.bind_eq_some_iff] at h
    obtain ⟨ks', hk, h⟩ := h
    rw [Option.map_eq_some_iff] at h
    obtain ⟨g', hg, e⟩ := h
    cases e
    exact ⟨kt, et, hu, hk, hg⟩
  · cases h

theorem kinds_len : ∀ {ks : List Leaf} {cs : List L}, kinds ks cs = true → cs.length = ks.length
  | [], [], _ => rfl
  | [], _ :: _, h => by simp [kinds] at h
  | _ :: _, [], h => by simp [kinds] at h
  | k :: ks, c :: cs, h => by
    simp only [kinds, Bool.and_eq_true] at h
    simp [kinds_len h.2]

theorem kinds_append : ∀ {ks js : List Leaf} {cs : List L}, kinds (ks ++ js) cs = true → kinds ks (cs.take ks.length) = true ∧ kinds js (cs.drop ks.length) = true
  | [], js, cs, h => ⟨by simp [kinds], by simpa using h⟩
  | k :: ks, js, cs, h => by
    cases cs with
    | nil => simp [kinds] at h
    | cons c cs =>
      simp only [List.cons_append, kinds, Bool.and_eq_true] at h
      have := kinds_append h.2
      exact ⟨by simp [kinds, h.1, this.1], by simpa using this.2⟩

def CheckSp (P : Program) (em : Bool) (m : Nat) (t : TypeId) (ks : List Leaf) : Prop :=
  ∀ (K : Kn) (J : Jn) (w : World) (cs : List L) (us : List Value) (v : Value), RepC K J cs us → Formed P t us v → kinds ks cs = true → (Instr.checkKey em m t v).run P w = .ok () w

theorem structK_check {em : Bool} {body : Field → List Value → PUnit → Sem (ForInStep PUnit)} {rec : TypeId → Option (List Leaf)} {m : Nat} (hrec : ∀ t ks, rec t = some ks → CheckSp P em m t ks ∧ ∃ g, isAggT P t = some g ∧ (g = false → ks.length = 1)) :
    ∀ (fs : List Field) (off : Nat) (ks : List Leaf) (K : Kn) (J : Jn) (w : World) (cs : List L) (us : List Value), leafK.structK P rec fs off = some ks → RepC K J cs us → kinds ks (cs.drop off) = true →
      (∀ (f : Field) (w : World) (v : Value), f.name ≠ "_" → (part f.type us.toArray f.offset).run P w = .ok v w → (Instr.checkKey em m f.type v).run P w = .ok () w → (body f us PUnit.unit).run P w = .ok (ForInStep.yield PUnit.unit) w) →
      (forIn fs PUnit.unit (body · us)).run P w = .ok PUnit.unit w
  | [], off, ks, K, J, w, cs, us, h, hx, he, hb => by simp
  | f :: fs, off, ks, K, J, w, cs, us, h, hx, he, hb => by
    unfold leafK.structK at h
    split at h
    · cases h
    · rename_i hn
      simp only [not_or, Decidable.not_not, ne_eq] at hn
      rw [Option.bind_eq_some_iff] at h
      obtain ⟨k1, hk1, h⟩ := h
      split at h
      · rename_i hsz
        rw [Option.map_eq_some_iff] at h
        obtain ⟨k2, hk2, rfl⟩ := h
        obtain ⟨e1, e2⟩ := kinds_append he
        obtain ⟨hsp, g, hg, hg1⟩ := hrec f.type k1 hk1
        have l1 := kinds_len e1
        have hxl := hx.len
        simp at l1
        obtain ⟨v1, p1, f1⟩ := part_formed (P := P) (w := w) (us := us) (off := off) hg hsz (by simp; omega) hg1
        have q1 := hsp K J w _ _ v1 ((hx.drop off).take k1.length) f1 e1
        rw [List.drop_drop] at e2
        have q2 := structK_check hrec fs (off + k1.length) k2 K J w cs us hk2 hx e2 hb
        have q3 := hb f w v1 hn.1 (by rw [hn.2]; exact p1) q1
        simp only [List.forIn_cons, Sem.run_bind, q3, Result.andThen_ok]
        exact q2
      · cases h

theorem items_check {em : Bool} {body : Nat → List Value → PUnit → Sem (ForInStep PUnit)} {e : TypeId} {k1 : List Leaf} {m : Nat} {g : Bool} (hsp : CheckSp P em m e k1) (hg : isAggT P e = some g) (hg1 : g = false → k1.length = 1) (hsz : sizeT P e = some k1.length) :
    ∀ (n i : Nat) (K : Kn) (J : Jn) (w : World) (cs : List L) (us : List Value), RepC K J cs us → kinds ((List.replicate n k1).flatten) (cs.drop (i * k1.length)) = true →
      (∀ (i : Nat) (w : World) (v : Value), (part e us.toArray (i * k1.length)).run P w = .ok v w → (Instr.checkKey em m e v).run P w = .ok () w → (body i us PUnit.unit).run P w = .ok (ForInStep.yield PUnit.unit) w) →
      (forIn (List.range' i n) PUnit.unit (body · us)).run P w = .ok PUnit.unit w
  | 0, i, K, J, w, cs, us, hx, he, hb => by simp
  | n + 1, i, K, J, w, cs, us, hx, he, hb => by
    rw [List.replicate_succ, List.flatten_cons] at he
    obtain ⟨e1, e2⟩ := kinds_append he
    have l1 := kinds_len e1
    have hxl := hx.len
    simp at l1
    obtain ⟨v1, p1, f1⟩ := part_formed (P := P) (w := w) (us := us) (off := i * k1.length) hg hsz (by simp; omega) hg1
    have q1 := hsp K J w _ _ v1 ((hx.drop _).take k1.length) f1 e1
    rw [List.drop_drop, show i * k1.length + k1.length = (i + 1) * k1.length by rw [Nat.add_mul]; omega] at e2
    have q2 := items_check hsp hg hg1 hsz n (i + 1) K J w cs us hx e2 hb
    have q3 := hb i w v1 p1 q1
    rw [List.range'_succ]
    simp only [List.forIn_cons, Sem.run_bind, q3, Result.andThen_ok]
    exact q2

theorem andThen_unit {r : Result PUnit} (h : r = .ok PUnit.unit w) : (r.andThen fun _ w' => (pure () : Sem Unit).run P w') = .ok () w := by rw [h]; rfl

theorem leafK_check (em : Bool) : ∀ (d : Nat) (t : TypeId) (ks : List Leaf), leafK P d t = some ks → ∀ m, CheckSp P em (m + d) t ks
  | 0, _, _, h => by cases h
  | d + 1, t, ks, h => by
    intro m K J w cs us v hx fx he
    rw [← Nat.add_assoc]
    unfold leafK at h
    unfold Instr.checkKey
    split at h
    · rename_i hu
      simp only [Sem.run_bind, run_underlying hu, Result.andThen_ok]
      cases v <;> simp
    · rename_i k hu
      simp only [Sem.run_bind, run_underlying hu, Result.andThen_ok]
      cases v <;> simp
    · rename_i hu
      simp only [Sem.run_bind, run_underlying hu, Result.andThen_ok]
      cases v <;> simp
    · rename_i fs hu
      split at h
      · cases h
      · have hg : isAggT P t = some true := by unfold isAggT; rw [hu]; rfl
        have hfx := fx true hg
        simp only [if_true] at hfx
        subst hfx
        simp only [Sem.run_bind, run_underlying hu, Result.andThen_ok]
        rw [← Array.forIn_toList]
        refine andThen_unit (structK_check (em := em) (m := m + d) (body := fun f us _ => _) (fun t' ks' ht' => ⟨leafK_check em d t' ks' ht' m, leafK_shape ht'⟩) fs.toList 0 ks K J w cs us h hx (by simpa using he) ?_)
        intro f w v hn h1 h2
        simp [hn, h1, h2]
    · rename_i n e hu
      rw [Option.bind_eq_some_iff] at h
      obtain ⟨k1, hk1, h⟩ := h
      split at h
      · rename_i hsz
        cases h
        have hg : isAggT P t = some true := by unfold isAggT; rw [hu]; rfl
        have hfx := fx true hg
        simp only [if_true] at hfx
        subst hfx
        obtain ⟨g, hge, hg1⟩ := leafK_shape hk1
        simp only [Sem.run_bind, run_underlying hu, Result.andThen_ok]
        simp only [Std.Legacy.Range.forIn_eq_forIn_range', Std.Legacy.Range.size, Nat.sub_zero, Nat.add_one_sub_one, Nat.div_one]
        refine andThen_unit (items_check (body := fun i us _ => _) (leafK_check em d e k1 hk1 m) hge hg1 hsz n 0 K J w cs us hx (by simpa using he) ?_)
        intro i w v h1 h2
        simp [run_sizeT hsz, h1, h2]
      · cases h
    · cases h

theorem key_check {kt : TypeId} {ks : List Leaf} {g : Bool} (hk : leafK P 20 kt = some ks) (hg : isAggT P kt = some g) (em : Bool) {k : L} {v : Value} (hr : Rep K J k v) (hki : kindOf ks g k = true) :
    (Instr.checkKey em 10000 kt v).run P w = .ok () w := by
  simp only [kindOf, Bool.and_eq_true, beq_iff_eq] at hki
  obtain ⟨us, c1, f1⟩ := rep_formed hg hki.1 hr
  exact leafK_check em 20 kt ks hk 9980 K J w _ us v c1 f1 hki.2

/-- kinds that a comparison goes by alone -/
def Leaf.plain : Leaf → Bool
  | .bool | .int _ | .str => true
  | _ => false

theorem structK_plain {rec : TypeId → Option (List Leaf)} (hrec : ∀ t ks, rec t = some ks → ∀ q ∈ ks, q.plain = true) : ∀ (fs : List Field) (off : Nat) (ks : List Leaf), leafK.structK P rec fs off = some ks → ∀ q ∈ ks, q.plain = true
  | [], off, ks, h => by cases h; simp
  | f :: fs, off, ks, h => by
    unfold leafK.structK at h
    split at h
    · cases h
    · rw [Option.bind_eq_some_iff] at h
      obtain ⟨k1, hk1, h⟩ := h
      split at h
      · rw [Option.map_eq_some_iff] at h
        obtain ⟨k2, hk2, rfl⟩ := h
        intro q hq
        rcases List.mem_append.1 hq with hq | hq
        · exact hrec _ _ hk1 q hq
        · exact structK_plain hrec fs _ k2 hk2 q hq
      · cases h

theorem leafK_plain : ∀ (d : Nat) (t : TypeId) (ks : List Leaf), leafK P d t = some ks → ∀ q ∈ ks, q.plain = true
  | 0, _, _, h => by cases h
  | d + 1, t, ks, h => by
    unfold leafK at h
    split at h
    · cases h; simp [Leaf.plain]
    · cases h; simp [Leaf.plain]
    · cases h; simp [Leaf.plain]
    · split at h
      · cases h
      · exact structK_plain (leafK_plain d) _ _ _ h
    · rw [Option.bind_eq_some_iff] at h
      obtain ⟨k1, hk1, h⟩ := h
      split at h
      · cases h
        intro q hq
        obtain ⟨l, hl, hq⟩ := List.mem_flatten.1 hq
        rw [(List.mem_replicate.1 hl).2] at hq
        exact leafK_plain d _ _ hk1 q hq
      · cases h
    · cases h

theorem leaf_same {q : Leaf} (hq : q.plain = true) {l r : L} {x y : Value} (h : leafEq q l r = some true) (rx : Rep K J l x) (ry : Rep K J r y) : x = y ∧ ∀ n, Instr.sameBits n x x = true := by
  cases q <;> simp [Leaf.plain] at hq
  · obtain ⟨p, q, rfl, rfl, e⟩ := leafEq_bool h
    cases rx; cases ry
    have : p = q := by simpa using e.symm
    subst this
    exact ⟨rfl, fun n => by cases n <;> simp [Instr.sameBits]⟩
  · obtain ⟨p, q, rfl, rfl, e⟩ := leafEq_int h
    cases rx; cases ry
    have : p = q := by simpa using e.symm
    subst this
    exact ⟨rfl, fun n => by cases n <;> simp [Instr.sameBits]⟩
  · obtain ⟨p, q, rfl, rfl, e⟩ := leafEq_str h
    cases rx; cases ry
    have : p = q := by
      apply ByteArray.ext; apply Array.toList_inj.1; simpa using e.symm
    subst this
    refine ⟨rfl, fun n => ?_⟩
    have hb : (p == p) = true := by rw [beq_toListBytes]; simp
    cases n <;> (simp only [Instr.sameBits]; exact hb)

theorem leaves_same : ∀ {ks : List Leaf} {xs ys : List L} {us vs : List Value}, (∀ q ∈ ks, q.plain = true) → leavesEq ks xs ys = some true → RepL K J xs us → RepL K J ys vs → us = vs ∧ ∀ u ∈ us, ∀ n, Instr.sameBits n u u = true
  | [], xs, ys, us, vs, _, h, hx, hy => by
    obtain ⟨h1, h2⟩ := leavesEq_len h
    have e1 : xs = [] := List.length_eq_zero_iff.1 h1
    have e2 : ys = [] := List.length_eq_zero_iff.1 h2
    subst e1; subst e2
    cases hx.out_nil; cases hy.out_nil
    exact ⟨rfl, by simp⟩
  | k :: ks, xs, ys, us, vs, hp, h, hx, hy => by
    cases xs with
    | nil => simp [leavesEq] at h
    | cons x xs => cases ys with
      | nil => simp [leavesEq] at h
      | cons y ys =>
        obtain ⟨u, us', rfl, hu, hus⟩ := hx.out_cons
        obtain ⟨v, vs', rfl, hv, hvs⟩ := hy.out_cons
        unfold leavesEq at h
        split at h
        · rename_i hl
          obtain ⟨e1, s1⟩ := leaf_same (hp k (by simp)) hl hu hv
          obtain ⟨e2, s2⟩ := leaves_same (fun q hq => hp q (by simp [hq])) h hus hvs
          subst e1; subst e2
          refine ⟨rfl, fun z hz => ?_⟩
          rcases List.mem_cons.1 hz with rfl | hz
          · exact s1
          · exact s2 z hz
        · rw [Option.map_eq_some_iff] at h; obtain ⟨_, _, h⟩ := h; cases h
        · cases h

/-- two keys, held against one another -/
theorem key_eq {kt : TypeId} {ks : List Leaf} {g : Bool} (hk : leafK P 20 kt = some ks) (hg : isAggT P kt = some g) {k c : L} {kv cv : Value} {b : Bool} (h : key1 ks g k c = some b) (rk : Rep K J k kv) (rc : Rep K J c cv) :
    (Op.equal kt kv cv).run P w = .ok b w ∧ (b = true → kv = cv ∧ Instr.sameBits 10000 kv kv = true) := by
  unfold key1 at h
  split at h
  · rename_i hgood
    obtain ⟨us, c1, f1⟩ := rep_formed hg hgood.1 rk
    obtain ⟨vs, c2, f2⟩ := rep_formed hg hgood.2 rc
    refine ⟨leafK_eq 20 kt ks hk 9980 K J w _ _ us vs kv cv b c1 c2 f1 f2 h, fun hb => ?_⟩
    subst hb
    obtain ⟨e, hs⟩ := leaves_same (leafK_plain 20 kt ks hk) h c1.1 c2.1
    subst e
    have h1 := f1 g hg
    have h2 := f2 g hg
    cases g with
    | true =>
      simp only [if_true] at h1 h2
      subst h1; subst h2
      refine ⟨rfl, ?_⟩
      rw [show (10000 : Nat) = 9999 + 1 from rfl]
      simp only [Instr.sameBits, beq_self_eq_true, Bool.true_and]
      have zz : ∀ l : List Value, (∀ u ∈ l, Instr.sameBits 9999 u u = true) → ((l.zip l).all fun (x, y) => Instr.sameBits 9999 x y) = true := by
        intro l
        induction l with
        | nil => intro _; rfl
        | cons u l ih =>
          intro hl
          simp only [List.zip_cons_cons, List.all_cons, Bool.and_eq_true]
          exact ⟨hl u (by simp), ih fun y hy => hl y (by simp [hy])⟩
      exact zz us fun u hu => hs u hu 9999
    | false =>
      simp only [Bool.false_eq_true, if_false] at h1 h2
      rw [h1] at h2
      cases h2
      exact ⟨rfl, hs kv (by rw [h1]; simp) 10000⟩
  · cases h

/-- where the look of the elder form answers, it answers the same -/
theorem now_eq {kt : TypeId} {ks : List Leaf} {g : Bool} {D : TypeDesc} (hD : P.underlying kt = some D) (hk : leafK P 20 kt = some ks) {k c : L} {kv cv : Value} {b : Bool} (h : key1 ks g k c = some b) (rk : Rep K J k kv) (rc : Rep K J c cv) :
    Instr.sameNow D kv cv = none ∨ Instr.sameNow D kv cv = some b := by
  have one : ∀ q, ks = [q] → g = false → leafEq q k c = some b := by
    intro q hq hg
    subst hq; subst hg
    unfold key1 at h
    split at h
    · rename_i hgood
      obtain ⟨l', r', e1, e2, e3⟩ := leaf1 h
      have c1 : k = l' := by cases k <;> first | (simp [L.isA] at hgood; done) | (simpa [L.cells] using e1)
      have c2 : c = r' := by cases c <;> first | (simp [L.isA] at hgood; done) | (simpa [L.cells] using e2)
      rw [c1, c2]; exact e3
    · cases h
  have hagg : ∀ q, ks = [q] → (D = .bool ∨ (∃ i, D = .int i) ∨ D = .string) → g = true → Instr.sameNow D kv cv = none := by
    intro q hq hd hg
    subst hg
    unfold key1 at h
    split at h
    · rename_i hgood
      cases k <;> simp [L.isA] at hgood
      cases rk
      cases D <;> simp [Instr.sameNow]
    · cases h
  unfold leafK at hk
  rw [hD] at hk
  cases D <;> try (left; cases kv <;> cases cv <;> rfl)
  · cases hk
    cases g with
    | true => exact .inl (hagg _ rfl (.inl rfl) rfl)
    | false =>
      obtain ⟨p, q, rfl, rfl, rfl⟩ := leafEq_bool (one _ rfl rfl)
      cases rk; cases rc
      exact .inr rfl
  · rename_i i
    cases hk
    cases g with
    | true => exact .inl (hagg _ rfl (.inr (.inl ⟨i, rfl⟩)) rfl)
    | false =>
      obtain ⟨p, q, rfl, rfl, rfl⟩ := leafEq_int (one _ rfl rfl)
      cases rk; cases rc
      exact .inr (by simp [Instr.sameNow])
  · cases hk
    cases g with
    | true => exact .inl (hagg _ rfl (.inr (.inr rfl)) rfl)
    | false =>
      obtain ⟨p, q, rfl, rfl, rfl⟩ := leafEq_str (one _ rfl rfl)
      cases rk; cases rc
      have hb : (p == q) = (p.data.toList == q.data.toList) := by rw [beq_toListBytes, ByteArray.toList_eq, ByteArray.toList_eq]
      exact .inr (by simp only [Instr.sameNow, hb])

theorem find_run {kt : TypeId} {ks : List Leaf} {g : Bool} {D : TypeDesc} (hD : P.underlying kt = some D) (hk : leafK P 20 kt = some ks) (hg : isAggT P kt = some g) {k : L} {kv : Value} (rk : Rep K J k kv) :
    ∀ (es : List (L × L × Nat)) (arr : List MapEntry) (i : Nat) (r : Option (Nat × L)), MapRel K J es arr → findKey ks g k es i = some r →
    ∃ r', (Instr.findAsking kt kv arr i).run P w = .ok r' w ∧ (Instr.findNow D kv arr i = none ∨ Instr.findNow D kv arr i = some r') ∧
      ((r = none ∧ r' = none) ∨ ∃ (j : Nat) (l : L) (h : j < arr.length) (h' : j < es.length), r = some (i + j, l) ∧ r' = some (i + j, arr[j].val) ∧ es[j].2.1 = l ∧ arr[j].key = kv ∧ Instr.sameBits 10000 kv kv = true)
  | [], arr, i, r, hm, h => by
    cases h
    have : arr = [] := by cases arr with | nil => rfl | cons x xs => simp [MapRel] at hm
    subst this
    exact ⟨none, by simp [Instr.findAsking], .inr rfl, .inl ⟨rfl, rfl⟩⟩
  | e :: es, arr, i, r, hm, h => by
    cases arr with
    | nil => simp [MapRel] at hm
    | cons x xs =>
      have hx := hm.2 0 (by simp) (by simp)
      have hxs : MapRel K J es xs := ⟨by simpa using hm.1, fun k h1 h2 => hm.2 (k + 1) (by simp; omega) (by simp; omega)⟩
      unfold findKey at h
      split at h
      · rename_i hl
        cases h
        obtain ⟨g1, g2⟩ := key_eq (w := w) hk hg hl rk hx.1
        obtain ⟨g3, g4⟩ := g2 rfl
        have g5 := now_eq hD hk hl rk hx.1
        simp only [List.getElem_cons_zero] at g1 g3 g5
        refine ⟨some (i, x.val), by simp [Instr.findAsking, g1], ?_, .inr ⟨0, _, by simp, by simp, rfl, rfl, rfl, g3.symm, g4⟩⟩
        rcases g5 with g5 | g5 <;> simp [Instr.findNow, g5]
      · rename_i hl
        obtain ⟨g1, _⟩ := key_eq (w := w) hk hg hl rk hx.1
        have g5 := now_eq hD hk hl rk hx.1
        simp only [List.getElem_cons_zero] at g1 g5
        obtain ⟨r', q1, q2, q3⟩ := find_run hD hk hg rk es xs (i + 1) r hxs h
        refine ⟨r', by simp [Instr.findAsking, g1, q1], ?_, ?_⟩
        · rcases g5 with g5 | g5
          · left; simp [Instr.findNow, g5]
          · rcases q2 with q2 | q2 <;> simp [Instr.findNow, g5, q2]
        · rcases q3 with ⟨h1, h2⟩ | ⟨j, l, j1, j2, h1, h2, h3, h4, h5⟩
          · exact .inl ⟨h1, h2⟩
          · refine .inr ⟨j + 1, l, by simp; omega, by simp; omega, by rw [h1]; congr 2; omega, ?_, by simpa using h3, by simpa using h4, h5⟩
            rw [h2]; simp; omega
      · cases h

/-- the look for a key -/
theorem run_find {kt : TypeId} {ks : List Leaf} {g : Bool} (hk : leafK P 20 kt = some ks) (hg : isAggT P kt = some g) {k : L} {kv : Value} (rk : Rep K J k kv) {es : List (L × L × Nat)} {arr : List MapEntry} {r : Option (Nat × L)}
    (hm : MapRel K J es arr) (h : findKey ks g k es 0 = some r) :
    ∃ r', (Instr.findKey kt kv arr).run P w = .ok r' w ∧
      ((r = none ∧ r' = none) ∨ ∃ (j : Nat) (l : L) (h : j < arr.length) (h' : j < es.length), r = some (j, l) ∧ r' = some (j, arr[j].val) ∧ es[j].2.1 = l ∧ arr[j].key = kv ∧ Instr.sameBits 10000 kv kv = true) := by
  have hD : ∃ D, P.underlying kt = some D := by
    unfold isAggT at hg
    rw [Option.map_eq_some_iff] at hg
    obtain ⟨D, hD, _⟩ := hg
    exact ⟨D, hD⟩
  obtain ⟨D, hD⟩ := hD
  obtain ⟨r', q1, q2, q3⟩ := find_run (w := w) hD hk hg rk es arr 0 r hm h
  refine ⟨r', ?_, by simpa using q3⟩
  unfold Instr.findKey
  simp only [Sem.run_bind, run_underlying hD, Result.andThen_ok]
  rcases q2 with q2 | q2 <;> simp [q2, q1]

theorem zeroL_rep {t : TypeId} {z : L} (h : zeroL P t = some z) : ∃ v, zeroT P t = some v ∧ Rep K J z v := by
  unfold zeroL at h
  rw [Option.map_eq_some_iff] at h
  obtain ⟨v, hv, rfl⟩ := h
  exact ⟨v, hv, rep_constL v⟩

theorem op_lookup {t : TypeId} {x y : Operand} {ok : Bool} {r : ROp} {args : List L} {e : Eff} (ho : o.op = .lookup t x y ok) (hrop : rop0 P (.lookup t x y ok) = some r) (h : HRel K J hp w)
    (he : RepL K J env a.tmps.toList) (ha : opds env (rargs r) = some args) (hn : nfn r args (look hp (rds r args)) = some e) (hx : enact lo hp e slot = some (d, hp')) :
    OpRes lo K J hp w d hp' ((execOp a.eval o).run P w) := by
  simp only [rop0, Option.bind_eq_some_iff, Option.map_eq_some_iff] at hrop
  obtain ⟨⟨ks, g⟩, hk, et, het, z, hz, rfl⟩ := hrop
  obtain ⟨kt, et', hu, hlk, hga⟩ := keyK_spec hk
  have : et = et' := by unfold mapElem at het; rw [hu] at het; simpa using het.symm
  subst this
  obtain ⟨zv, hzv, hzr⟩ := zeroL_rep (K := K) (J := J) hz
  obtain ⟨m, k, hm, hkk, rfl⟩ := opds2 ha
  have r1 := eval_rep he hm
  have r2 := eval_rep he hkk
  generalize hv1 : a.eval x = v1 at r1
  generalize hv2 : a.eval y = v2 at r2
  -- with the entries at hand
  have fin : ∀ (p : L × Bool) (v : Value), Rep K J p.1 v → e = val (if ok then .tup [p.1, .v (.bool p.2)] else p.1) → (Instr.lookup t v1 v2 ok).run P w = .ok (if ok then .tuple #[v, .bool p.2] else v) w →
      OpRes lo K J hp w d hp' ((execOp a.eval o).run P w) := by
    intro p v hr he2 hrun
    subst he2
    refine OpRes.pure h hx (v := if ok then .tuple #[v, .bool p.2] else v) (by simp [execOp, ho, hv1, hv2, hrun]) ?_
    cases ok with
    | true => exact Rep.tup _ [v, .bool p.2] rfl (RepL.cons hr (RepL.cons (.v _ rfl) RepL.nil)).2
    | false => exact hr
  cases m with
  | v mv =>
    cases mv with
    | map b =>
      cases b with
      | none =>
        simp only [nfn, nfn1] at hn
        split at hn
        · cases hn
          cases r1
          refine fin (z, false) zv hzr (by cases ok <;> rfl) ?_
          obtain ⟨r', q1, q2⟩ := run_find (w := w) hlk hga r2 (es := []) (arr := []) (r := none) ⟨rfl, fun k h => absurd h (by simp)⟩ rfl
          have hr' : r' = none := by rcases q2 with ⟨_, q2⟩ | ⟨_, _, h, _⟩
                                     · exact q2
                                     · simp at h
          subst hr'
          simp [Instr.lookup, run_underlying hu, key_check hlk hga _ r2 (by assumption), q1, run_zeroT hzv]
        · cases hn
      | some b => simp [nfn, nfn1] at hn
    | _ => simp [nfn, nfn1] at hn
  | omap ob =>
    simp only [nfn, nfn1, rds, look, List.map_cons, List.map_nil] at hn
    split at hn
    · split at hn
      · rename_i es clock heq
        simp only [List.cons.injEq, and_true] at heq
        rw [Option.map_eq_some_iff] at hn
        obtain ⟨rr, hfk, hee⟩ := hn
        obtain ⟨win, hj, arr, g1, g2⟩ := h.ob ob _ heq rfl
        cases r1 with
        | omap _ win' hj' =>
          rw [hj] at hj'
          cases hj'
          have hgo : (getObj win.blk).run P w = .ok (.map arr clock) w := by simp [getObj, Sem.run, g1]
          have hkc := fun em => key_check (w := w) hlk hga em r2 (by assumption)
          obtain ⟨r', hfind, hcase⟩ := run_find (w := w) hlk hga r2 g2 hfk
          rcases hcase with ⟨rfl, rfl⟩ | ⟨j, l, j1, j2, rfl, rfl, h3, h4, h5⟩
          · refine fin (z, false) zv hzr hee.symm ?_
            simp [Instr.lookup, run_underlying hu, hgo, hkc, hfind, run_zeroT hzv]
          · have hr := (g2.2 j j2 j1).2.1
            rw [h3] at hr
            refine fin (l, true) arr.toList[j].val hr hee.symm ?_
            simp [Instr.lookup, run_underlying hu, hgo, hkc, hfind]
      · cases hn
    · cases hn
  | _ => simp [nfn, nfn1] at hn

theorem MapRel.modify {es : List (L × L × Nat)} {arr : List MapEntry} (h : MapRel K J es arr) {i : Nat} {x : L} {v kv : Value} (hk : ∀ (h' : i < arr.length), arr[i].key = kv) (hx : Rep K J x v) :
    MapRel K J (es.modify i fun e => (e.1, x, e.2.2)) (arr.modify i fun e => { e with key := kv, val := v }) := by
  refine ⟨by simp [h.1], fun k h1 h2 => ?_⟩
  simp at h1 h2
  rw [List.getElem_modify, List.getElem_modify]
  have := h.2 k h1 h2
  by_cases hik : i = k
  · subst hik
    rw [if_pos rfl, if_pos rfl]
    exact ⟨hk h2 ▸ this.1, hx, this.2.2⟩
  · rw [if_neg hik, if_neg hik]; exact this

theorem MapRel.push {es : List (L × L × Nat)} {arr : List MapEntry} (h : MapRel K J es arr) {k x : L} {kv v : Value} {c : Nat} (hk : Rep K J k kv) (hx : Rep K J x v) :
    MapRel K J (es ++ [(k, x, c)]) (arr ++ [{ key := kv, val := v, born := c }]) := by
  refine ⟨by simp [h.1], fun j h1 h2 => ?_⟩
  by_cases hj : j < es.length
  · rw [List.getElem_append_left hj, List.getElem_append_left (by rw [h.1]; exact hj)]; exact h.2 _ _ _
  · have e := h.1
    rw [List.getElem_append_right (by omega), List.getElem_append_right (by omega)]
    simp
    exact ⟨hk, hx⟩

theorem MapRel.erase {es : List (L × L × Nat)} {arr : List MapEntry} (h : MapRel K J es arr) (i : Nat) : MapRel K J (es.eraseIdx i) (arr.eraseIdx i) := by
  have e := h.1
  refine ⟨by simp [List.length_eraseIdx, e], fun j h1 h2 => ?_⟩
  rw [List.getElem_eraseIdx, List.getElem_eraseIdx]
  split
  · exact h.2 _ _ _
  · exact h.2 _ _ _

/-- a map's new contents -/
theorem map_write (h : HRel K J hp w) {ob : Nat} {es es' : List (L × L × Nat)} {clock clock' : Nat} (heq : hp[ob]? = some (.map es clock)) (hlo : lo ≤ ob) {win : Win} (hj : J ob = some win) {arr : Array MapEntry}
    {arr' : Array MapEntry} (g1 : w.heap[win.blk]? = some (.map arr clock)) (g2 : MapRel K J es' arr'.toList) :
    (setObj win.blk (.map arr' clock')).run P w = .ok () { w with heap := w.heap.setIfInBounds win.blk (.map arr' clock') } ∧
      Post lo K J hp w K J (hp.set ob (.map es' clock')) { w with heap := w.heap.setIfInBounds win.blk (.map arr' clock') } := by
  refine ⟨by simp [setObj, Sem.run, g1], ?_⟩
  obtain ⟨k1, k2⟩ := heap_set' (o' := .map arr' clock') g1
  exact Post.write (w' := { w with heap := w.heap.setIfInBounds win.blk (.map arr' clock') }) h heq hlo rfl rfl hj k2 (by simp) rfl rfl rfl ⟨arr', k1, g2⟩

theorem op_mapUpdate {t : TypeId} {x y z : Operand} {r : ROp} {args : List L} {e : Eff} (ho : o.op = .mapUpdate t x y z ∨ o.op = .insert t x y z) (hrop : rop0 P (.mapUpdate t x y z) = some r) (h : HRel K J hp w)
    (he : RepL K J env a.tmps.toList) (ha : opds env (rargs r) = some args) (hn : nfn r args (look hp (rds r args)) = some e) (hx : enact lo hp e slot = some (d, hp')) :
    OpRes lo K J hp w d hp' ((execOp a.eval o).run P w) := by
  simp only [rop0, Option.map_eq_some_iff] at hrop
  obtain ⟨⟨ks, g⟩, hk, rfl⟩ := hrop
  obtain ⟨kt, et, hu, hlk, hga⟩ := keyK_spec hk
  obtain ⟨m, k, v, hm, hkk, hvv, rfl⟩ := opds3 ha
  have r1 := eval_rep he hm
  have r2 := eval_rep he hkk
  have r3 := eval_rep he hvv
  generalize hv1 : a.eval x = v1 at r1
  generalize hv2 : a.eval y = v2 at r2
  generalize hv3 : a.eval z = v3 at r3
  have exec : ∀ {w' : World}, (Instr.mapUpdate t v1 v2 v3).run P w = .ok () w' → (execOp a.eval o).run P w = .ok .skip w' := by
    intro w' hh
    rcases ho with ho | ho <;> simp [execOp, ho, hv1, hv2, hv3, hh]
  cases m with
  | omap ob =>
    simp only [nfn, nfn1, rds, look, List.map_cons, List.map_nil] at hn
    split at hn
    · split at hn
      · rename_i es clock heq
        simp only [List.cons.injEq, and_true] at heq
        rw [Option.map_eq_some_iff] at hn
        obtain ⟨rr, hfk, hee⟩ := hn
        obtain ⟨win, hj, arr, g1, g2⟩ := h.ob ob _ heq rfl
        cases r1 with
        | omap _ win' hj' =>
          rw [hj] at hj'
          cases hj'
          have hgo : (getObj win.blk).run P w = .ok (.map arr clock) w := by simp [getObj, Sem.run, g1]
          have hkc := fun em => key_check (w := w) hlk hga em r2 (by assumption)
          obtain ⟨r', hfind, hcase⟩ := run_find (w := w) hlk hga r2 g2 hfk
          rcases hcase with ⟨rfl, rfl⟩ | ⟨j, l, j1, j2, rfl, rfl, h3, h4, h5⟩
          · subst hee
            simp only [enact, fresh] at hx
            split at hx
            · rename_i hlo
              simp only [Option.some.injEq, Prod.mk.injEq] at hx
              obtain ⟨rfl, rfl⟩ := hx
              obtain ⟨s1, s2⟩ := map_write (P := P) (es' := es ++ [(k, v, clock)]) (clock' := clock + 1) (arr' := arr.push { key := v2, val := v3, born := clock }) h heq hlo hj g1 (by rw [Array.toList_push]; exact g2.push r2 r3)
              refine ⟨_, J, s2, .inr ⟨exec ?_, rfl⟩⟩
              simp [Instr.mapUpdate, run_underlying hu, hgo, hkc, hfind, s1]
            · cases hx
          · subst hee
            simp only [enact, fresh] at hx
            split at hx
            · rename_i hlo
              simp only [Option.some.injEq, Prod.mk.injEq] at hx
              obtain ⟨rfl, rfl⟩ := hx
              have hj1 : j < arr.size := by simpa using j1
              obtain ⟨s1, s2⟩ := map_write (P := P) (es' := es.modify j fun e => (e.1, v, e.2.2)) (clock' := clock) (arr' := arr.modify j fun e => { e with key := v2, val := v3 }) h heq hlo hj g1
                (by rw [Array.toList_modify]; exact g2.modify (fun h' => by simpa using h4) r3)
              have h5' : Instr.sameBits 10000 ((Option.map (fun x => x.key) arr[j]?).getD v2) v2 = true := by
                simp [hj1]
                simp at h4; rw [h4]; exact h5
              refine ⟨_, J, s2, .inr ⟨exec ?_, rfl⟩⟩
              simp only [Instr.mapUpdate, Sem.run_bind, run_underlying hu, hgo, hkc, hfind, Result.andThen_ok, Sem.run_pure, Instr.keyThatStays, h5', if_true, s1]
            · cases hx
      · cases hn
    · cases hn
  | _ => simp [nfn, nfn1] at hn

theorem op_mapDelete {t u : TypeId} {x y : Operand} {r : ROp} {args : List L} {e : Eff} (ho : o.op = .call { callee := .builtin .delete, args := #[x, y], argTypes := #[t, u] })
    (hrop : ropCall P { callee := .builtin .delete, args := #[x, y], argTypes := #[t, u] } = some r) (h : HRel K J hp w)
    (he : RepL K J env a.tmps.toList) (ha : opds env (rargs r) = some args) (hn : nfn r args (look hp (rds r args)) = some e) (hx : enact lo hp e slot = some (d, hp')) :
    OpRes lo K J hp w d hp' ((execOp a.eval o).run P w) := by
  simp only [ropCall, Option.map_eq_some_iff] at hrop
  obtain ⟨⟨ks, g⟩, hk, rfl⟩ := hrop
  obtain ⟨kt, et, hu, hlk, hga⟩ := keyK_spec hk
  obtain ⟨m, k, hm, hkk, rfl⟩ := opds2 ha
  have r1 := eval_rep he hm
  have r2 := eval_rep he hkk
  generalize hv1 : a.eval x = v1 at r1
  generalize hv2 : a.eval y = v2 at r2
  have exec : ∀ {w' : World}, (Builtin.delete_ #[t, u] o.type #[v1, v2]).run P w = .ok (.tuple #[]) w' → (execOp a.eval o).run P w = .ok (.value (.tuple #[])) w' := by
    intro w' hh
    simp [execOp, ho, resolve, invoke, builtin, hv1, hv2, hh]
  cases m with
  | v mv =>
    cases mv with
    | map b =>
      cases b with
      | none =>
        simp only [nfn, nfn1] at hn
        split at hn
        · cases hn
          cases r1
          refine OpRes.pure h hx (exec ?_) (Rep.tup [] [] rfl (fun k h => absurd h (by simp)))
          simp [Builtin.delete_, run_underlying hu, key_check hlk hga _ r2 (by assumption)]
        · cases hn
      | some b => simp [nfn, nfn1] at hn
    | _ => simp [nfn, nfn1] at hn
  | omap ob =>
    simp only [nfn, nfn1, rds, look, List.map_cons, List.map_nil] at hn
    split at hn
    · split at hn
      · rename_i es clock heq
        simp only [List.cons.injEq, and_true] at heq
        rw [Option.map_eq_some_iff] at hn
        obtain ⟨rr, hfk, hee⟩ := hn
        obtain ⟨win, hj, arr, g1, g2⟩ := h.ob ob _ heq rfl
        cases r1 with
        | omap _ win' hj' =>
          rw [hj] at hj'
          cases hj'
          have hgo : (getObj win.blk).run P w = .ok (.map arr clock) w := by simp [getObj, Sem.run, g1]
          have hkc := fun em => key_check (w := w) hlk hga em r2 (by assumption)
          obtain ⟨r', hfind, hcase⟩ := run_find (w := w) hlk hga r2 g2 hfk
          rcases hcase with ⟨rfl, rfl⟩ | ⟨j, l, j1, j2, rfl, rfl, h3, h4, h5⟩
          · subst hee
            simp only [enact, fresh] at hx
            split at hx
            · rename_i hlo
              simp only [Option.some.injEq, Prod.mk.injEq] at hx
              obtain ⟨rfl, rfl⟩ := hx
              obtain ⟨s1, s2⟩ := map_write (P := P) (es' := es) (clock' := clock) (arr' := arr) h heq hlo hj g1 g2
              refine ⟨_, J, s2, .inl ⟨_, exec ?_, Rep.tup [] [] rfl (fun k h => absurd h (by simp))⟩⟩
              simp [Builtin.delete_, run_underlying hu, hgo, hkc, hfind, s1]
            · cases hx
          · subst hee
            simp only [enact, fresh] at hx
            split at hx
            · rename_i hlo
              simp only [Option.some.injEq, Prod.mk.injEq] at hx
              obtain ⟨rfl, rfl⟩ := hx
              have hj1 : j < arr.size := by simpa using j1
              obtain ⟨s1, s2⟩ := map_write (P := P) (es' := es.eraseIdx j) (clock' := clock) (arr' := arr.eraseIdxIfInBounds j) h heq hlo hj g1
                (by simp [Array.eraseIdxIfInBounds, hj1]; exact g2.erase j)
              refine ⟨_, J, s2, .inl ⟨_, exec ?_, Rep.tup [] [] rfl (fun k h => absurd h (by simp))⟩⟩
              simp only [Builtin.delete_, List.getElem?_toArray, List.getElem?_cons_zero, List.getElem?_cons_succ, Sem.run_bind, run_underlying hu, hgo, hkc, hfind, Result.andThen_ok, Sem.run_pure, s1]
            · cases hx
      · cases hn
    · cases hn
  | _ => simp [nfn, nfn1] at hn


/-- a package's variable, read -/
theorem glob_at (h : HRel K J hp w) {gs : List (Nat × List L)} (e : hp[0]? = some (.glob gs)) {g : Nat} {c : List L} (hg : findG gs g = some c) :
    ∃ us, RepC K J c us ∧ ∀ k (_ : k < us.length), K.cell ⟨g, k, none⟩ = some us[k] := by
  have mem : ∀ gs : List (Nat × List L), findG gs g = some c → (g, c) ∈ gs := by
    intro gs
    induction gs with
    | nil => intro h; cases h
    | cons p gs ih =>
      intro h
      unfold findG at h
      split at h
      · rename_i he; subst he; cases h; simp
      · simp [ih h]
  exact h.cst 0 _ e g c (mem gs hg)

theorem op_gload {t : TypeId} {b : Nat} {r : ROp} {args : List L} {e : Eff} (ho : o.op = .load t (.global b)) (hrop : rop0 P (.load t (.global b)) = some r) (h : HRel K J hp w)
    (ha : opds env (rargs r) = some args) (hn : nfn r args (look hp (rds r args)) = some e) (hx : enact lo hp e slot = some (d, hp')) :
    OpRes lo K J hp w d hp' ((execOp a.eval o).run P w) := by
  have e0 : rop0 P (.load t (.global b)) = (isAggT P t).bind fun g => (sizeT P t).bind fun n => if g ∨ n = 1 then some (.gload b n g) else none := rfl
  rw [e0] at hrop
  simp only [Option.bind_eq_some_iff] at hrop
  obtain ⟨g, hg, n, hs, hrop⟩ := hrop
  split at hrop
  · cases hrop
    cases omapO_nil ha
    simp only [nfn, nfnM, rds, look, List.map_cons, List.map_nil] at hn
    split at hn
    · rename_i gs heq
      simp only [List.cons.injEq, and_true] at heq
      rw [Option.bind_eq_some_iff] at hn
      obtain ⟨c, hc, hn⟩ := hn
      rw [Option.bind_eq_some_iff] at hn
      obtain ⟨cs, hcs, hn⟩ := hn
      rw [Option.map_eq_some_iff] at hn
      obtain ⟨l, hl, rfl⟩ := hn
      obtain ⟨us, hr, hK⟩ := glob_at h heq hc
      obtain ⟨hr2, hle, hlen⟩ := hr.ext hcs
      obtain ⟨v, hv1, hv2⟩ := Rep.ofCells hr2 hl
      refine OpRes.pure h hx (v := v) ?_ hv2
      have hl2 : ((us.drop 0).take n).length = n := by rw [hr2.len, hlen]
      have := run_loadVar_at (P := P) (w := w) (a := ⟨b, 0, none⟩) (us := (us.drop 0).take n) rfl hg (by rw [hs, hl2]) (fun k hk => by
        have hk' : k < us.length := by simp at hk; omega
        have := K_cell h (hK k hk')
        simpa using this) hv1
      have hev : a.eval (.global b) = .pointer (some ⟨b, 0, none⟩) := rfl
      simp [execOp, ho, hev, Instr.loadAt, Instr.sureAddr, this]
    · cases hn
  · cases hrop

theorem op_gidx {t : TypeId} {b : Nat} {y : Operand} {r : ROp} {args : List L} {e : Eff} (ho : o.op = .indexAddr t (.global b) y) (hrop : rop0 P (.indexAddr t (.global b) y) = some r) (h : HRel K J hp w)
    (he : RepL K J env a.tmps.toList) (ha : opds env (rargs r) = some args) (hn : nfn r args (look hp (rds r args)) = some e) (hx : enact lo hp e slot = some (d, hp')) :
    OpRes lo K J hp w d hp' ((execOp a.eval o).run P w) := by
  have e0 : rop0 P (.indexAddr t (.global b) y) = (match P.underlying t with
    | some (.array n e) => (sizeT P e).map fun s => .gidx b n s (ropd y)
    | _ => none) := rfl
  rw [e0] at hrop
  split at hrop
  · rename_i n el hu
    rw [Option.map_eq_some_iff] at hrop
    obtain ⟨esz, hs, rfl⟩ := hrop
    obtain ⟨l, hl, rfl⟩ := opds1 ha
    cases l with
    | v z =>
      cases z with
      | int q i =>
        simp only [nfn, nfnM, rds, look, List.map_cons, List.map_nil] at hn
        split at hn
        · rename_i gs heq
          simp only [List.cons.injEq, and_true] at heq
          split at hn
          · rename_i hi
            rw [Option.bind_eq_some_iff] at hn
            obtain ⟨c, hc, hn⟩ := hn
            split at hn
            · rename_i hle
              cases hn
              obtain ⟨us, hr, hK⟩ := glob_at h heq hc
              have hy := rep_int (eval_rep he hl) rfl
              have hev : a.eval (.global b) = .pointer (some ⟨b, 0, none⟩) := rfl
              have hrun := run_indexArr (P := P) (w := w) hu hs (b := ⟨b, 0, none⟩) rfl (k := q) hi.1 hi.2
              refine OpRes.pure h hx (v := .pointer (some ⟨b, 0 + i.toNat * esz, none⟩)) ?_ ?_
              · simp only [execOp, ho, hev, hy, Sem.run_bind, hrun, Result.andThen_ok, Sem.run_pure]
              · have hd := hr.drop (i.toNat * esz)
                exact .cp _ ⟨b, 0 + i.toNat * esz, none⟩ (us.drop (i.toNat * esz)) rfl hd.len hd.2 (fun k hk => by
                  have hk' : i.toNat * esz + k < us.length := by simp at hk; omega
                  have := hK (i.toNat * esz + k) hk'
                  simp only [Nat.zero_add, List.getElem_drop]
                  exact this) hd.1.2
            · cases hn
          · cases hn
        · cases hn
      | _ => simp [nfn, nfnM] at hn
    | _ => simp [nfn, nfnM] at hn
  · cases hrop

end
end Lb
