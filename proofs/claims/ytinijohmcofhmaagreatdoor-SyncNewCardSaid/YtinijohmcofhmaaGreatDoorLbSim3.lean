/- The abstract runs are the model's runs: regions whole. -/
import Derived.Test.YtinijohmcofhmaaGreatDoorLbSim2
namespace Lb
open Go

section
variable {P : Program} {I : Inv} {w : World} {K : Kn} {J : Jn} {lo : Nat} {a : Act} {Q : Exit → Act → World → Prop} {cf : CallF} {ops : Array Oper}

/-- resolved operations are a region's -/
structure RegOk (P : Program) (ops : Array Oper) (ros : List ROper) : Prop where
  len : ros.length = ops.size
  made : ∀ (i : Nat) (o : Oper) (ro : ROper), ops[i]? = some o → ros[i]? = some ro → Made P ops o ro
  fwd : ∀ (i : Nat) (o : Oper), ops[i]? = some o → ∀ e ∈ o.after.toList, Region.binds .any e = true → e.on < i
  pre : ∀ (i : Nat) (o : Oper) (ro : ROper), ops[i]? = some o → ros[i]? = some ro → ∀ k, ro.pre.testBit k = true →
    ∃ e ∈ o.after.toList, Region.binds .any e = true ∧ (k = e.on ∨ ∃ ro', ros[e.on]? = some ro' ∧ ro'.pre.testBit k = true)

theorem preBits_go {done : List Nat} {i : Nat} : ∀ (es : List Edge) (s s' : Nat),
    es.foldlM (fun s e => if Region.binds .any e then (if e.on < i then (done[e.on]?).map fun p => s ||| 2 ^ e.on ||| p else none) else some s) s = some s' →
    (∀ e ∈ es, Region.binds .any e = true → e.on < i) ∧
    ∀ k, s'.testBit k = true → s.testBit k = true ∨ ∃ e ∈ es, Region.binds .any e = true ∧ (k = e.on ∨ ∃ p, done[e.on]? = some p ∧ p.testBit k = true)
  | [], s, s', h => by cases h; exact ⟨by simp, fun k hk => .inl hk⟩
  | e :: es, s, s', h => by
    rw [List.foldlM_cons] at h
    simp only [bind, Option.bind_eq_some_iff] at h
    obtain ⟨s1, h1, h2⟩ := h
    obtain ⟨g1, g2⟩ := preBits_go es s1 s' h2
    split at h1
    · rename_i hb
      split at h1
      · rename_i hlt
        rw [Option.map_eq_some_iff] at h1
        obtain ⟨p, hp, rfl⟩ := h1
        refine ⟨fun x hx hbx => ?_, fun k hk => ?_⟩
        · rcases List.mem_cons.1 hx with rfl | hx
          · exact hlt
          · exact g1 x hx hbx
        · rcases g2 k hk with h3 | ⟨x, hx, hbx, h3⟩
          · rw [Nat.testBit_or, Nat.testBit_or, Nat.testBit_two_pow] at h3
            simp only [Bool.or_eq_true, decide_eq_true_eq] at h3
            rcases h3 with (h3 | h3) | h3
            · exact .inl h3
            · exact .inr ⟨e, by simp, hb, .inl h3.symm⟩
            · exact .inr ⟨e, by simp, hb, .inr ⟨p, hp, h3⟩⟩
          · exact .inr ⟨x, by simp [hx], hbx, h3⟩
      · cases h1
    · rename_i hb
      cases h1
      refine ⟨fun x hx hbx => ?_, fun k hk => ?_⟩
      · rcases List.mem_cons.1 hx with rfl | hx
        · exact absurd hbx hb
        · exact g1 x hx hbx
      · rcases g2 k hk with h3 | ⟨x, hx, hbx, h3⟩
        · exact .inl h3
        · exact .inr ⟨x, by simp [hx], hbx, h3⟩

theorem roper_spec {done : List Nat} {o : Oper} {i : Nat} {ro : ROper} {p : Nat} (h : roper P ops done o i = some (ro, p)) :
    Made P ops o ro ∧ ro.pre = p ∧ (∀ e ∈ o.after.toList, Region.binds .any e = true → e.on < i) ∧
      ∀ k, p.testBit k = true → ∃ e ∈ o.after.toList, Region.binds .any e = true ∧ (k = e.on ∨ ∃ q, done[e.on]? = some q ∧ q.testBit k = true) := by
  unfold roper at h
  simp only [Option.bind_eq_some_iff] at h
  obtain ⟨r, hr, pre, hp, h⟩ := h
  obtain ⟨g1, g2⟩ := preBits_go _ _ _ hp
  have g3 : ∀ k, pre.testBit k = true → ∃ e ∈ o.after.toList, Region.binds .any e = true ∧ (k = e.on ∨ ∃ q, done[e.on]? = some q ∧ q.testBit k = true) := fun k hk => by
    rcases g2 k hk with h3 | h3
    · simp at h3
    · exact h3
  split at h
  · rename_i hg
    cases h
    exact ⟨⟨hr, rfl, .inl ⟨hg, rfl⟩⟩, rfl, g1, g3⟩
  · rename_i j want hg
    rw [Option.map_eq_some_iff] at h
    obtain ⟨t, ht, e⟩ := h
    cases e
    exact ⟨⟨hr, rfl, .inr ⟨j, t, want, hg, ht, rfl⟩⟩, rfl, g1, g3⟩

theorem ropers_spec : ∀ (os : List Oper) (done : List Nat) (i : Nat) (ros : List ROper), ropers P ops os done i = some ros → done.length = i →
    ros.length = os.length ∧ ∀ (k : Nat) (o : Oper) (ro : ROper), os[k]? = some o → ros[k]? = some ro → Made P ops o ro ∧ (∀ e ∈ o.after.toList, Region.binds .any e = true → e.on < i + k) ∧
      ∀ j, ro.pre.testBit j = true → ∃ e ∈ o.after.toList, Region.binds .any e = true ∧ (j = e.on ∨ ∃ q, (done ++ ros.map (·.pre))[e.on]? = some q ∧ q.testBit j = true)
  | [], done, i, ros, h, _ => by cases h; exact ⟨rfl, by simp⟩
  | o :: os, done, i, ros, h, hl => by
    unfold ropers at h
    simp only [Option.bind_eq_some_iff, Option.map_eq_some_iff] at h
    obtain ⟨⟨ro, p⟩, h1, rs, h2, rfl⟩ := h
    obtain ⟨g1, g2, g3, g4⟩ := roper_spec h1
    obtain ⟨f1, f2⟩ := ropers_spec os (done ++ [p]) (i + 1) rs h2 (by simp [hl])
    refine ⟨by simp [f1], fun k o' ro' ho hro => ?_⟩
    cases k with
    | zero =>
      simp at ho hro
      subst ho; subst hro
      refine ⟨g1, g3, fun j hj => ?_⟩
      rw [g2] at hj
      obtain ⟨e, he, hb, h3⟩ := g4 j hj
      refine ⟨e, he, hb, h3.imp id fun ⟨q, hq, hqj⟩ => ⟨q, ?_, hqj⟩⟩
      rw [List.getElem?_append_left (List.getElem?_eq_some_iff.1 hq).1]; exact hq
    | succ k =>
      obtain ⟨q1, q2, q3⟩ := f2 k o' ro' (by simpa using ho) (by simpa using hro)
      refine ⟨q1, fun e he hb => by have := q2 e he hb; omega, fun j hj => ?_⟩
      obtain ⟨e, he, hb, h3⟩ := q3 j hj
      refine ⟨e, he, hb, h3.imp id fun ⟨q, hq, hqj⟩ => ⟨q, ?_, hqj⟩⟩
      rw [List.append_assoc] at hq
      simpa [g2] using hq

theorem regOk {ros : List ROper} (h : ropers P ops ops.toList [] 0 = some ros) : RegOk P ops ros := by
  obtain ⟨h1, h2⟩ := ropers_spec ops.toList [] 0 ros h rfl
  refine ⟨by simpa using h1, fun i o ro ho hro => (h2 i o ro (by simpa using ho) hro).1, fun i o ho e he hb => ?_, fun i o ro ho hro k hk => ?_⟩
  · have hi : i < ros.length := by rw [h1]; have := (Array.getElem?_eq_some_iff.1 ho).1; simpa using this
    have := (h2 i o ros[i] (by simpa using ho) (List.getElem?_eq_getElem hi)).2.1 e he hb
    omega
  · obtain ⟨e, he, hb, h3⟩ := (h2 i o ro (by simpa using ho) hro).2.2 k hk
    refine ⟨e, he, hb, h3.imp id fun ⟨q, hq, hqk⟩ => ?_⟩
    simp only [List.nil_append, List.getElem?_map, Option.map_eq_some_iff] at hq
    obtain ⟨ro', hro', rfl⟩ := hq
    exact ⟨ro', hro', hqk⟩

/-- the operations of a region that keeps the text's order -/
theorem stepOps_wp (hcf : CallSpec P I cf) : ∀ (ros : List ROper) (i : Nat) (s s' : St) (a : Act) (w : World) (K : Kn) (J : Jn), I.p K J → stepOps cf lo ros s = some s' → i + ros.length = ops.size →
    (∀ (k : Nat) (o : Oper) (ro : ROper), ops[i + k]? = some o → ros[k]? = some ro → Made P ops o ro) → HRel K J s.hp w → NoHole s.hp → RepL K J s.env a.tmps.toList →
    (∀ a' w' K' J', Post lo K J s.hp w K' J' s'.hp w' → RepL K' J' s'.env a'.tmps.toList → a'.defers = a.defers → Q .normal a' w') →
    wpOps P ops Q (List.range' i ros.length) a w
  | [], i, s, s', a, w, K, J, _, hs, _, _, h, _, he, hQ => by
    cases hs
    exact hQ a w K J (Post.refl h) he rfl
  | ro :: ros, i, s, s', a, w, K, J, hI, hs, hi, hm, h, hnh, he, hQ => by
    rw [stepOps, Option.bind_eq_some_iff] at hs
    obtain ⟨s1, h1, h2⟩ := hs
    rw [List.length_cons, List.range'_succ]
    rw [wpOps_cons]
    have hlt : i < ops.size := by simp at hi; omega
    unfold wpOp
    rw [Array.getElem?_eq_getElem hlt]
    refine stepOp_wp hcf hI (hm 0 ops[i] ro (by simp [hlt]) (by simp)) h1 h hnh he fun a' w' K' J' hp he' hd => ?_
    refine stepOps_wp hcf ros (i + 1) s1 s' a' w' K' J' (I.mono hI hp.kle hp.jle) h2 (by simp at hi; omega) (fun k o r ho hr => hm (k + 1) o r (by rw [← ho]; congr 1; omega) (by simpa using hr)) hp.rel
      (fun o e => hnh o (hp.nohole o e)) he' fun a2 w2 K2 J2 hp2 he2 hd2 => hQ a2 w2 K2 J2 (hp.trans hp2) he2 (hd2.trans hd)

theorem region_wp {id : Nat} {ros : List ROper} {s s' : St} (hcf : CallSpec P I cf) (hI : I.p K J) (hl : ros.length = ops.size) (hm : ∀ (i : Nat) (o : Oper) (ro : ROper), ops[i]? = some o → ros[i]? = some ro → Made P ops o ro) (hs : stepOps cf lo ros s = some s') (h : HRel K J s.hp w)
    (hnh : NoHole s.hp) (he : RepL K J s.env a.tmps.toList)
    (hQ : ∀ a' w' K' J', Post lo K J s.hp w K' J' s'.hp w' → RepL K' J' s'.env a'.tmps.toList → a'.defers = a.defers → Q .normal a' w') : (Code.region id ops false).wp P Q a w := by
  refine wp_region ?_
  have := stepOps_wp (Q := Q) hcf ros 0 s s' a w K J hI hs (by omega) (fun k o ro ho hr => hm k o ro (by simpa using ho) hr) h hnh he hQ
  rw [List.range_eq_range', ← hl]
  exact this

theorem any_wp {ros : List ROper} {base n : Nat} {s' : St} (hR : RegOk P ops ros) (hcf : CallSpec P I cf) (hsz : ops.size = n) : ∀ (fuel : Nat) (m : List (Nat × ROper × Fp)) (listed : Array Bool) (s : St) (a : Act) (w : World) (K : Kn) (J : Jn),
    I.p K J → m.length ≤ fuel → RunL cf lo base n m s s' → m.Pairwise (fun x y => okPair base x y = true) → (∀ x ∈ m, ros[x.1]? = some x.2.1) → (∀ i, i < n → (listed.getD i true = false ↔ ∃ x ∈ m, x.1 = i)) → listed.size = n →
    (∀ (i : Nat) (ro : ROper), ros[i]? = some ro → listed.getD i true = true → ∀ k, ro.pre.testBit k = true → listed.getD k true = true) →
    HRel K J s.hp w → base + n ≤ s.hp.length → HoleIn base n s.hp → RepL K J s.env a.tmps.toList →
    (∀ a' w' K' J', Post lo K J s.hp w K' J' s'.hp w' → RepL K' J' s'.env a'.tmps.toList → a'.defers = a.defers → Q .normal a' w') → wpAny P .any ops Q fuel listed a w := by
  -- nothing is ready when nothing is left
  have hnil : ∀ (m : List (Nat × ROper × Fp)) (listed : Array Bool), m.Pairwise (fun x y => okPair base x y = true) → (∀ x ∈ m, ros[x.1]? = some x.2.1) → (∀ i, i < n → (listed.getD i true = false ↔ ∃ x ∈ m, x.1 = i)) → listed.size = n →
      Region.ready .any ops listed = [] → m = [] := by
    intro m listed hpw hro hli hsize hr
    cases m with
    | nil => rfl
    | cons x m =>
      exfalso
      have hx : x.1 < n := by
        have := (List.getElem?_eq_some_iff.1 (hro x (by simp))).1
        rw [hR.len, hsz] at this; exact this
      have hmem : x.1 ∈ Region.ready .any ops listed := by
        unfold Region.ready
        rw [List.mem_filter]
        refine ⟨by simpa [hsz] using hx, ?_⟩
        rw [(hli x.1 hx).2 ⟨x, by simp, rfl⟩]
        have hlt : x.1 < ops.size := by omega
        rw [Array.getElem?_eq_getElem hlt]
        simp only [Bool.not_false, Bool.true_and, Option.map_some, Option.getD_some]
        rw [Array.all_eq_true_iff_forall_mem]
        intro e he
        by_cases hb : Region.binds .any e = true
        · have hlt2 := hR.fwd x.1 ops[x.1] (Array.getElem?_eq_getElem hlt) e (by simpa using he) hb
          have h3 : listed.getD e.on true ≠ false := by
            intro h4
            obtain ⟨y, hy, hye⟩ := (hli e.on (by omega)).1 h4
            rcases List.mem_cons.1 hy with rfl | hy
            · omega
            · have := (List.pairwise_cons.1 hpw).1 y hy
              simp only [okPair, Bool.and_eq_true, decide_eq_true_eq] at this
              omega
          have h5 : listed.getD e.on false = true := by
            have hs : e.on < listed.size := by omega
            have : listed.getD e.on true = true := by simpa using h3
            simp only [Array.getD, hs, dif_pos] at this ⊢
            exact this
          simp [h5]
        · simp [hb]
      rw [hr] at hmem
      simp at hmem
  intro fuel
  induction fuel with
  | zero =>
    intro m listed s a w K J hI hm hrun hpw hro hli hsize hcl h hb hhi he hQ
    have : m = [] := by cases m with | nil => rfl | cons x m => simp at hm
    subst this
    cases hrun
    refine ⟨?_, hQ a w K J (Post.refl h) he rfl⟩
    unfold Region.ready
    rw [List.filter_eq_nil_iff]
    intro i hi
    have hi' : i < n := by simpa [hsz] using hi
    have : listed.getD i true = true := by
      cases hc : listed.getD i true with
      | true => rfl
      | false => obtain ⟨x, hx, _⟩ := (hli i hi').1 hc; simp at hx
    simp [this]
  | succ fuel ih =>
    intro m listed s a w K J hI hm hrun hpw hro hli hsize hcl h hb hhi he hQ
    refine ⟨fun hr => ?_, fun i hi => ?_⟩
    · have := hnil m listed hpw hro hli hsize hr
      subst this
      cases hrun
      exact hQ a w K J (Post.refl h) he rfl
    · unfold Region.ready at hi
      rw [List.mem_filter] at hi
      obtain ⟨hi1, hi2⟩ := hi
      have hin : i < n := by simpa [hsz] using hi1
      have hlt : i < ops.size := by omega
      rw [Array.getElem?_eq_getElem hlt] at hi2
      simp only [Bool.and_eq_true, Bool.not_eq_true', Option.map_some, Option.getD_some] at hi2
      obtain ⟨hun, hall⟩ := hi2
      obtain ⟨x, hx, rfl⟩ := (hli i hin).1 hun
      obtain ⟨p, q, rfl⟩ := List.append_of_mem hx
      have hrox := hro x hx
      -- its forerunners are done
      have hpre : ∀ k, x.2.1.pre.testBit k = true → listed.getD k true = true := by
        intro k hk
        obtain ⟨e, he1, hb1, h3⟩ := hR.pre x.1 ops[x.1] x.2.1 (Array.getElem?_eq_getElem hlt) hrox k hk
        have hle : listed.getD e.on false = true := by
          rw [Array.all_eq_true_iff_forall_mem] at hall
          have := hall e (by simpa using he1)
          simpa [hb1] using this
        have hle' : listed.getD e.on true = true := by
          by_cases hs : e.on < listed.size
          · simp only [Array.getD, hs, dif_pos] at hle ⊢; exact hle
          · simp [Array.getD, hs]
        rcases h3 with rfl | ⟨ro', hro', h4⟩
        · exact hle'
        · exact hcl e.on ro' hro' hle' k h4
      have hidx : ∀ y ∈ p ++ x :: q, y.1 < n := fun y hy => by
        have := (List.getElem?_eq_some_iff.1 (hro y hy)).1
        rw [hR.len, hsz] at this; exact this
      have hpq := List.pairwise_append.1 hpw
      have hbub := RunL.bubble (q := q) (hidx x hx) hb hrun fun y hy => ⟨hidx y (by simp [hy]), hpq.2.2 y hy x (by simp), by
        cases hk : x.2.1.pre.testBit y.1 with
        | false => rfl
        | true =>
          have h1 := hpre y.1 hk
          have h2 := (hli y.1 (hidx y (by simp [hy]))).2 ⟨y, by simp [hy], rfl⟩
          rw [h1] at h2; cases h2⟩
      obtain ⟨s1, hst, hrest⟩ := hbub
      unfold wpOp
      rw [Array.getElem?_eq_getElem hlt]
      refine stepD_wp hcf hI (hR.made x.1 ops[x.1] x.2.1 (Array.getElem?_eq_getElem hlt) hrox) hst h (by omega) hhi he fun a' w' K' J' hp he' hd => ?_
      have hne : ∀ y ∈ p ++ q, y.1 ≠ x.1 := by
        intro y hy e
        rcases List.mem_append.1 hy with hy | hy
        · have := hpq.2.2 y hy x (by simp)
          simp only [okPair, Bool.and_eq_true, decide_eq_true_eq] at this
          omega
        · have := (List.pairwise_cons.1 hpq.2.1).1 y hy
          simp only [okPair, Bool.and_eq_true, decide_eq_true_eq] at this
          omega
      have hget : ∀ i, (listed.setIfInBounds x.1 true).getD i true = if i = x.1 then true else listed.getD i true := by
        intro i
        simp only [Array.getD_eq_getD_getElem?, Array.getElem?_setIfInBounds]
        by_cases h1 : x.1 = i
        · subst h1; simp; split <;> simp
        · rw [if_neg h1, if_neg (fun e => h1 e.symm)]
      refine ih (p ++ q) _ s1 a' w' K' J' (I.mono hI hp.kle hp.jle) (by simp at hm ⊢; omega) hrest ?_ (fun y hy => hro y (by rcases List.mem_append.1 hy with h | h <;> simp [h])) ?_ (by simpa using hsize) ?_ hp.rel
        (Nat.le_trans hb (stepD_len hst)) (fun o e => hhi o (hp.nohole o e)) he' fun a2 w2 K2 J2 hp2 he2 hd2 => hQ a2 w2 K2 J2 (hp.trans hp2) he2 (hd2.trans hd)
      · exact List.pairwise_append.2 ⟨hpq.1, (List.pairwise_cons.1 hpq.2.1).2, fun y hy z hz => hpq.2.2 y hy z (by simp [hz])⟩
      · intro j hj
        rw [hget]
        by_cases hjx : j = x.1
        · subst hjx
          simp only [if_true, Bool.true_eq_false, false_iff]
          rintro ⟨y, hy, e⟩
          exact hne y hy e
        · rw [if_neg hjx, hli j hj]
          constructor
          · rintro ⟨y, hy, rfl⟩
            refine ⟨y, ?_, rfl⟩
            rcases List.mem_append.1 hy with h1 | h1
            · simp [h1]
            · rcases List.mem_cons.1 h1 with rfl | h1
              · exact absurd rfl hjx
              · simp [h1]
          · rintro ⟨y, hy, rfl⟩
            exact ⟨y, by rcases List.mem_append.1 hy with h | h <;> simp [h], rfl⟩
      · intro j ro hro' hlj k hk
        rw [hget] at hlj ⊢
        split
        · rfl
        · split at hlj
          · rename_i hjx
            subst hjx
            rw [hrox] at hro'
            cases hro'
            exact hpre k hk
          · exact hcl j ro hro' hlj k hk

theorem draw_wp {id : Nat} {ros : List ROper} {s s' : St} (hmix : P.follows .mixedOrders = true) (hcf : CallSpec P I cf) (hI : I.p K J) (hR : RegOk P ops ros) (hs : runDraw cf lo ros s = some s') (h : HRel K J s.hp w)
    (hnh : NoHole s.hp) (he : RepL K J s.env a.tmps.toList)
    (hQ : ∀ a' w' K' J', Post lo K J s.hp w K' J' s'.hp w' → NoHole s'.hp → RepL K' J' s'.env a'.tmps.toList → a'.defers = a.defers → Q .normal a' w') : (Code.region id ops true).wp P Q a w := by
  unfold runDraw at hs
  rw [Option.map_eq_some_iff] at hs
  obtain ⟨s1, hs, rfl⟩ := hs
  obtain ⟨tr, t1, t2, t3, t4, _⟩ := runD_run ros 0 [] _ s1 hs (by simp)
  have hholes : HoleIn s.hp.length ros.length (s.hp ++ List.replicate ros.length .hole) := by
    intro o e
    by_cases ho : o < s.hp.length
    · rw [List.getElem?_append_left ho] at e; exact absurd e (hnh o)
    · have := (List.getElem?_eq_some_iff.1 e).1
      simp at this
      omega
  refine wp_region_any hmix ?_
  have hlen := hR.len
  refine any_wp (lo := lo) hR hcf hlen.symm ops.size tr _ _ a _ K J hI (by omega) t3 t4 (fun x hx => ?_) (fun i hi => ?_) (by simp [hlen]) ?_ (HRel.holes (w := { w with drawn := w.drawn + 1 }) (h.same rfl) ros.length) (by simp) hholes he ?_
  · obtain ⟨k, hk⟩ := List.mem_iff_getElem?.1 hx
    obtain ⟨h1, h2⟩ := t2 k x hk
    rw [h1, Nat.zero_add]; exact h2
  · have hlt : i < tr.length := by omega
    have hg := List.getElem?_eq_getElem hlt
    have := t2 i _ hg
    constructor
    · intro _; exact ⟨tr[i], List.getElem_mem hlt, by omega⟩
    · intro _
      simp [Array.getD_eq_getD_getElem?, Array.getElem?_replicate, ← hlen, hi]
  · intro i ro hro hli
    exfalso
    have hi : i < ros.length := (List.getElem?_eq_some_iff.1 hro).1
    simp [Array.getD_eq_getD_getElem?, Array.getElem?_replicate, ← hlen, hi] at hli
  · intro a' w' K' J' hp he' hd
    have hb : s.hp.length ≤ s1.hp.length := Nat.le_trans (by simp) hp.len
    have hmk : NoHole (mask s.hp.length ros.length (2 ^ ros.length - 1) s1.hp) := mask_nohole hb fun o e => hholes o (hp.nohole o e)
    have p1 : Post lo K J s.hp { w with drawn := w.drawn + 1 } K' J' _ w' := Post.shut hp (mask_len hb) (mask_get hb) hmk
    exact hQ a' w' K' J' ((Post.draw h).trans p1) hmk he' hd

end
end Lb
