/- Append, copy, conversions of texts, min and max. -/
import Derived.Test.YtinijohmcofhmaaGreatDoorLbOps6
namespace Lb
open Go

section
variable {P : Program} {w : World} {K : Kn} {J : Jn} {hp hp' : List Ob} {lo : Nat} {slot : Option Nat} {d : L} {a : Act} {env : List L} {o : Oper}

theorem grown_bd {need old : Nat} {e : TypeId} (h : need ≤ 9223372036854775807) : need ≤ grownCap w need old e ∧ grownCap w need old e ≤ 9223372036854775807 := by
  unfold grownCap Question.cut
  simp only
  have : w.tape w.drawn (.appendCap need old e) % (2 ^ 63 - need) < 2 ^ 63 - need := Nat.mod_lt _ (by omega)
  omega

theorem op_convS2B {s t el : TypeId} {x : Operand} {args : List L} {e : Eff} (ho : o.op = .convert s t x) (hs : P.underlying s = some .string) (ht : P.underlying t = some (.slice el)) (hel : P.underlying el = some (.int .u8)) (h : HRel K J hp w) (hsl : SlotOk hp slot)
    (he : RepL K J env a.tmps.toList) (ha : opds env [ropd x] = some args) (hn : nfn (.convS2B (ropd x)) args [] = some e) (hx : enact lo hp e slot = some (d, hp')) :
    OpRes lo K J hp w d hp' ((execOp a.eval o).run P w) := by
  obtain ⟨l, hl, rfl⟩ := opds1 ha
  have r1 := eval_rep he hl
  cases l with
  | v z =>
    cases z with
    | string str =>
      simp only [nfn, nfn1] at hn
      split at hn
      · rename_i hsz
        cases hn
        generalize hv : a.eval x = v at r1
        cases r1
        have hx' : d = .osl (slotOf hp slot) 0 str.size 1 ∧ hp' = putOb hp (.cells (str.data.toList.map fun b => .v (.int .u8 b.toNat))) slot := by
          cases slot with
          | none => simp only [enact, fresh, Option.some.injEq, Prod.mk.injEq] at hx; exact ⟨hx.1.symm, hx.2.symm⟩
          | some s => simp only [enact, fresh, Option.some.injEq, Prod.mk.injEq] at hx; exact ⟨hx.1.symm, hx.2.symm⟩
        obtain ⟨rfl, rfl⟩ := hx'
        obtain ⟨g1, g2⟩ := grown_bd (w := w) (old := 0) (e := el) hsz
        have hcs : (Lib.bytesCells w el str).size = grownCap w str.size 0 el := by
          unfold Lib.bytesCells
          simp only [Array.size_append, Array.size_map, Array.size_replicate]
          have : str.data.size = str.size := rfl
          omega
        refine ⟨Lib.bytesWorld w el str, _, Post.new' h hsl _ 0 (grownCap w str.size 0 el) (fun k hk => Lib.bytesWorld_at_old w el str k hk) (Lib.bytesWorld_size w el str) rfl rfl rfl ?_ rfl,
          .inl ⟨.slice (some ⟨w.heap.size, 0, none⟩) str.size (grownCap w str.size 0 el), ?_, Rep.osl _ 0 str.size 1 _ ⟨w.heap.size, 0, grownCap w str.size 0 el⟩ (by unfold Jn.upd; rw [if_pos rfl]) g1 (by simp) g2⟩⟩
        · refine ⟨_, el, _, str.data.toList.map fun b => .int .u8 b.toNat, Lib.bytesWorld_at_new w el str, by simp [hcs], fun k hk hk' => by simp at hk'; omega, ?_, ?_, fun k hk => ?_⟩
          · have := RepC.vs (K := K) (J := J.upd (slotOf hp slot) ⟨w.heap.size, 0, grownCap w str.size 0 el⟩) (us := str.data.toList.map fun b => Value.int .u8 b.toNat) (fun u hu => by
              obtain ⟨b, _, rfl⟩ := List.mem_map.1 hu; rfl)
            rw [List.map_map] at this
            exact this
          · simp only [List.length_map, Array.length_toList]
            have : str.data.size = str.size := rfl
            omega
          · simp only [Nat.zero_add]
            unfold Lib.bytesCells
            have hk' : k < str.data.size := by simpa using hk
            rw [Array.getElem?_append_left (by simpa using hk')]
            simp only [Array.getElem?_map, List.getElem_map, Array.getElem_toList]
            rw [Array.getElem?_eq_getElem hk']
            rfl
        · simp only [execOp, ho, hv, Sem.run_bind, Lib.run_convert_string_bytes w s t el str hs ht hel, Result.andThen_ok, Sem.run_pure]
      · cases hn
    | _ => simp [nfn, nfn1] at hn
  | _ => simp [nfn, nfn1] at hn

theorem bytesOf_rep {cs : List L} {us : List Value} {bs : List UInt8} (h : RepL K J cs us) (e : bytesOf cs = some bs) : ∃ ns : List Int, us = ns.map (Value.int .u8) ∧ bs = ns.map fun n => UInt8.ofNat n.toNat := by
  induction cs generalizing us bs with
  | nil => cases h.out_nil; cases e; exact ⟨[], rfl, rfl⟩
  | cons c cs ih =>
    obtain ⟨u, us', rfl, hr, ht⟩ := h.out_cons
    unfold bytesOf at e
    split at e
    · rename_i heq; cases heq
    · rename_i n r heq
      cases heq
      cases hb : bytesOf cs with
      | none => rw [hb] at e; cases e
      | some bs' =>
        rw [hb] at e
        cases e
        obtain ⟨ns, rfl, rfl⟩ := ih ht hb
        cases hr
        exact ⟨n :: ns, rfl, rfl⟩
    · cases e

theorem op_convB2S {s t el : TypeId} {x : Operand} {args : List L} {e : Eff} (ho : o.op = .convert s t x) (hs : P.underlying s = some (.slice el)) (ht : P.underlying t = some .string) (hel : P.underlying el = some (.int .u8)) (h : HRel K J hp w)
    (he : RepL K J env a.tmps.toList) (ha : opds env [ropd x] = some args) (hn : nfn (.convB2S (ropd x)) args (look hp (rds (.convB2S (ropd x)) args)) = some e) (hx : enact lo hp e slot = some (d, hp')) :
    OpRes lo K J hp w d hp' ((execOp a.eval o).run P w) := by
  obtain ⟨l, hl, rfl⟩ := opds1 ha
  have r1 := eval_rep he hl
  have hrun : ∀ {q : Option Addr} {n c : Nat} {us : List Value} {bs : List UInt8} {ns : List Int}, a.eval x = .slice q n c → (Builtin.firstCells 1 n (.slice q n c)).run P w = .ok us.toArray w → us = ns.map (Value.int .u8) →
      bs = ns.map (fun n => UInt8.ofNat n.toNat) → (execOp a.eval o).run P w = .ok (.value (.string ⟨bs.toArray⟩)) w := by
    intro q n c us bs ns hv hf hus hbs
    subst hus
    subst hbs
    have h1 : (convert s t (.slice q n c)).run P w = .ok (.string ⟨(ns.map fun n => UInt8.ofNat n.toNat).toArray⟩) w := by
      rw [run_convert_bytes_string w s t el q n c hs hel ht]
      cases q with
      | none =>
        simp only [Builtin.firstCells, Sem.run_pure, Result.ok.injEq, and_true] at hf
        have : ns = [] := by
          have := congrArg Array.size hf
          simp at this
          exact List.length_eq_zero_iff.1 this.symm
        subst this
        simp [Conv.bytesToString]
        rfl
      | some b =>
        simp only [Builtin.firstCells, Nat.mul_one] at hf
        rw [run_bytesToString w b n c ns hf]
        congr 2
        have key : ∀ (ns : List Int) (s : ByteArray), ns.foldl (fun r n => r.push (UInt8.ofNat n.toNat)) s = ⟨s.data ++ (ns.map fun n => UInt8.ofNat n.toNat).toArray⟩ := by
          intro ns
          induction ns with
          | nil => intro s; simp
          | cons n ns ih =>
            intro s
            simp only [List.foldl_cons, List.map_cons]
            rw [ih]
            congr 1
            apply Array.toList_inj.1
            simp [ByteArray.push]
        rw [key]
        congr 1
        apply Array.toList_inj.1
        simp [ByteArray.empty, ByteArray.emptyWithCapacity]
        try rfl
    simp only [execOp, ho, hv, Sem.run_bind, h1, Result.andThen_ok, Sem.run_pure]
  have hns : ∀ s, l ≠ .v (.string s) := by rintro s rfl; simp [nfn, nfn1] at hn
  have hn' : ((slCells (look hp (rds (.convB2S (ropd x)) [l])) 0 1 l).bind fun cs => (bytesOf cs).map fun bs => val (.v (.string ⟨bs.toArray⟩))) = some e := by
    rw [← hn]; cases l <;> first | rfl | (rename_i z; cases z <;> first | rfl | exact absurd rfl (hns _))
  replace hn := hn'
  clear hn'
  cases hsc : slCells (look hp (rds (.convB2S (ropd x)) [l])) 0 1 l with
  | none => rw [hsc] at hn; cases hn
  | some cs =>
    rw [hsc] at hn
    simp only [Option.bind_some] at hn
    cases hbs : bytesOf cs with
    | none => rw [hbs] at hn; cases hn
    | some bs =>
      rw [hbs] at hn
      cases hn
      have hob : ∀ ob off len e, l = .osl ob off len e → ∀ c, contents (look hp (rds (.convB2S (ropd x)) [l])) 0 = some c → hp[ob]? = some (.cells c) := by
        intro ob off len e he c hc
        subst he
        exact contents0 hc
      generalize hv : a.eval x = v at r1
      have fin : ∀ {q : Option Addr} {n c : Nat}, v = .slice q n c → slLen l = some n → OpRes lo K J hp w d hp' ((execOp a.eval o).run P w) := by
        intro q n c hvv hlen
        obtain ⟨_, us, hr, hul, hf⟩ := src_cells (P := P) h r1 hob hsc hlen
        obtain ⟨ns, hus, hb⟩ := bytesOf_rep hr.1 hbs
        subst hvv
        replace hf := hf w rfl n (Nat.le_refl _)
        rw [List.take_of_length_le (by omega)] at hf
        exact OpRes.pure h hx (hrun hv hf hus hb) (.v _ rfl)
      cases r1 with
      | v _ hx1 =>
        cases v with
        | slice q n c =>
          cases q with
          | none =>
            simp only [slCells] at hsc
            split at hsc
            · rename_i h0; subst h0; exact fin rfl (by simp [slLen])
            · cases hsc
          | some q => simp [slCells] at hsc
        | string str => exact absurd rfl (hns str)
        | _ => simp [slCells] at hsc
      | osl ob off len esz cap win hj hc hw hmx => exact fin rfl rfl
      | sl _ len esz cap b us hsp hcl hlen hc hmx h1 hK hr => exact fin rfl rfl
      | _ => simp [slCells] at hsc

theorem run_appendPre {t u el : TypeId} {inf : TypeInfo} {zv : Value} (hu : P.underlying t = some (.slice el)) (hi : P.info? el = some inf) (hz : inf.zero = some zv) (hb0 : inf.bytes ≠ 0)
    (hx : ∃ D, P.underlying u = some D ∧ ∀ k, D ≠ .int k) {ty : TypeId} {base : Option Addr} {n c m : Nat} {x : Value} {old new : List Value} (hlen : (Builtin.lenOf x).run P w = .ok m w) (hnew : (Builtin.firstCells inf.size m x).run P w = .ok new.toArray w) :
    (n + m ≤ c → (Builtin.append_ #[t, u] ty #[.slice base n c, x]).run P w =
        ((match base with | some b => storeCells (b.add (n * inf.size)) new | none => Pure.pure ()).run P w).andThen fun _ w' => .ok (.slice base (n + m) c) w') ∧
    (c < n + m → (n + m) * inf.bytes ≤ 140737488355328 → (∀ w' : World, w'.heap = w.heap → (Builtin.firstCells inf.size n (.slice base n c)).run P w' = .ok old.toArray w' ∧ (Builtin.firstCells inf.size m x).run P w' = .ok new.toArray w') →
      ∃ rest : List Value, rest.length = (grownCap w (n + m) c el - (n + m)) * zv.cells.size ∧ (Builtin.append_ #[t, u] ty #[.slice base n c, x]).run P w =
        .ok (.slice (some ⟨w.heap.size, 0, none⟩) (n + m) (grownCap w (n + m) c el)) (w.drew.alloc (.cells (old ++ new ++ rest).toArray el (0, 0)))) := by
  obtain ⟨D, hD, hDi⟩ := hx
  have hso : (Go.sizeOf el).run P w = .ok inf.size w := by simp [Go.sizeOf, typeInfo, hi]
  constructor
  · intro hle
    cases base with
    | none =>
      simp [Builtin.append_, run_underlying hu, run_underlying hD, hso, hlen, hle, hnew, Result.andThen]
    | some b =>
      simp [Builtin.append_, run_underlying hu, run_underlying hD, hso, hlen, hle, hnew, Result.andThen]
  · intro hlt hbytes hw
    have hle : ¬ n + m ≤ c := by omega
    have hfit := growslice_fits (need := n + m) (old := c) hlt hbytes
    have hfit' : ¬ (281474976710656 < Builtin.nextslicecap (n + m) c * inf.bytes) := by omega
    refine ⟨(Builtin.zeroCells zv.cells (grownCap w (n + m) c el - (n + m))).toList, by simp [Builtin.zeroCells], ?_⟩
    obtain ⟨h1, h2⟩ := hw w.drew rfl
    have hq : (Question.appendCap (n + m) c el).forced = false := rfl
    simp [Builtin.append_, run_underlying hu, run_underlying hD, hso, hlen, hle, typeInfo, hi, hfit', hb0, hq, h1, h2, zeroValue, hz, newRow, Result.andThen]
    refine ⟨rfl, ?_⟩
    congr 2
    apply Array.toList_inj.1
    simp [grownCap]

theorem Post.drop {lo : Nat} (h : HRel K J hp w) (ob : Nat) : Post lo K J hp w K J (hp.set ob .gone) w := by
  refine ⟨h.drop ob, K.le_refl, J.le_refl, by simp, rfl, rfl, rfl, Nat.le_refl _, fun _ _ _ => rfl, ?_, fun _ h => .inl h, fun _ _ _ => rfl, fun o ex => by
    rw [List.getElem?_set] at ex
    split at ex
    · split at ex <;> cases ex
    · exact ex⟩
  rintro k ⟨o', x, win', ho', ex, lx, jx, rfl⟩
  rw [List.getElem?_set] at ex
  split at ex
  · split at ex
    · cases ex; simp [Ob.live] at lx
    · cases ex
  · exact .inl ⟨o', x, win', ho', ex, lx, jx, rfl⟩

theorem slotOk_set {ob : Nat} {b : Ob} (e : hp[ob]? = some b) (l : b.live = true) (hs : SlotOk hp slot) : SlotOk (hp.set ob .gone) slot := by
  cases slot with
  | none => trivial
  | some r =>
    show (hp.set ob .gone)[r]? = some .hole
    rw [List.getElem?_set]
    have hr : hp[r]? = some .hole := hs
    split
    · rename_i hor; subst hor; rw [e] at hr; cases hr; simp [Ob.live] at l
    · exact hr

theorem slotOf_set {ob : Nat} {b : Ob} : slotOf (hp.set ob b) slot = slotOf hp slot := by cases slot <;> simp [slotOf]

theorem op_append {t u : TypeId} {x y : Operand} {r : ROp} {args : List L} {e : Eff} (ho : o.op = .call { callee := .builtin .append, args := #[x, y], argTypes := #[t, u] })
    (hrop : ropCall P { callee := .builtin .append, args := #[x, y], argTypes := #[t, u] } = some r) (h : HRel K J hp w) (hs : SlotOk hp slot)
    (he : RepL K J env a.tmps.toList) (ha : opds env (rargs r) = some args) (hn : nfn r args (look hp (rds r args)) = some e) (hx : enact lo hp e slot = some (d, hp')) :
    OpRes lo K J hp w d hp' ((execOp a.eval o).run P w) := by
  simp only [ropCall, elemT] at hrop
  split at hrop
  · rename_i el hu
    simp only [Option.bind_some] at hrop
    cases hsz : sizeT P el with
    | none => rw [hsz] at hrop; cases hrop
    | some esz =>
      rw [hsz] at hrop
      simp only [Option.bind_some] at hrop
      cases hby : bytesT P el with
      | none => rw [hby] at hrop; cases hrop
      | some b =>
        rw [hby] at hrop
        simp only [Option.bind_some] at hrop
        cases hz : zeroC P el with
        | none => rw [hz] at hrop; cases hrop
        | some z =>
          rw [hz] at hrop
          simp only [Option.bind_some] at hrop
          by_cases hnz : esz = 0 ∨ b = 0 ∨ z.length ≠ esz
          · rw [if_pos hnz] at hrop; cases hrop
          rw [if_neg hnz] at hrop
          simp only [not_or, ne_eq, Decidable.not_not] at hnz
          unfold sizeT at hsz
          unfold bytesT at hby
          cases hi : P.info? el with
          | none => rw [hi] at hsz; cases hsz
          | some inf =>
            rw [hi] at hsz hby
            simp only [Option.map_some, Option.some.injEq] at hsz hby
            have hrz : (∃ D, P.underlying u = some D ∧ ∀ k, D ≠ .int k) ∧ r = .append esz b (ropd x) (ropd y) := by
              split at hrop
              · rename_i e' hu'
                split at hrop
                · cases hrop; exact ⟨⟨_, hu', fun k hk => by cases hk⟩, rfl⟩
                · cases hrop
              · rename_i hu'
                split at hrop
                · cases hrop; exact ⟨⟨_, hu', fun k hk => by cases hk⟩, rfl⟩
                · cases hrop
              · cases hrop
            obtain ⟨zv0, zus, hzv, hzc, rfl, _⟩ := zeroC_rep hz
            unfold zeroT at hzv
            rw [hi] at hzv
            simp only [Option.bind_some] at hzv
            have hzs : zv0.cells.size = esz := by rw [hzc]; simpa using hnz.2.2
            obtain ⟨hD, rfl⟩ := hrz
            obtain ⟨l, q, hl, hq, rfl⟩ := opds2 ha
            have r1 := eval_rep he hl
            have r2 := eval_rep he hq
            have hexec : ∀ {v : Value} {w' : World}, (Builtin.append_ #[t, u] o.type #[a.eval x, a.eval y]).run P w = .ok v w' → (execOp a.eval o).run P w = .ok (.value v) w' := by
              intro v w' hh
              simp only [execOp, ho, resolve, Sem.run_bind, Sem.run_pure, Result.andThen_ok, invoke, builtin, List.map_toArray, List.map_cons, List.map_nil, hh]
            cases l with
            | v z =>
              cases z with
              | slice base n c =>
                cases base with
                | none =>
                  simp only [nfn, nfn1] at hn
                  split at hn
                  · rename_i h00
                    obtain ⟨rfl, rfl⟩ := h00
                    cases hsc : slCells (look hp (rds (.append esz b (ropd x) (ropd y)) [L.v (.slice none 0 0), q])) 0 esz q with
                    | none => rw [hsc] at hn; cases hn
                    | some new =>
                      rw [hsc] at hn
                      simp only [Option.bind_some] at hn
                      cases hsl : slLen q with
                      | none => rw [hsl] at hn; cases hn
                      | some m =>
                        rw [hsl] at hn
                        simp only [Option.bind_some] at hn
                        split at hn
                        · rename_i hbd
                          generalize hv1 : a.eval x = v1 at r1
                          cases r1
                          have hob : ∀ ob off len e, q = .osl ob off len e → ∀ c, contents (look hp (rds (.append esz b (ropd x) (ropd y)) [L.v (.slice none 0 0), q])) 0 = some c → hp[ob]? = some (.cells c) := by
                            intro ob off len e he c hc
                            subst he
                            exact contents0 hc
                          obtain ⟨hlen, us, hr, hul, hf⟩ := src_cells (P := P) h r2 hob hsc hsl
                          have hfm := hf w rfl m (Nat.le_refl _)
                          rw [List.take_of_length_le (by omega)] at hfm
                          obtain ⟨A1, A2⟩ := run_appendPre (P := P) (w := w) (t := t) (u := u) (el := el) (inf := inf) hu hi hzv (by omega) hD (ty := o.type) (base := none) (n := 0) (c := 0) (m := m) (old := []) hlen (by rw [hsz]; exact hfm)
                          split at hn
                          · rename_i hm0
                            subst hm0
                            cases hn
                            refine OpRes.pure h hx (v := .slice none 0 0) (hexec ?_) (.v _ rfl)
                            rw [hv1, A1 (by omega)]
                            simp
                          · rename_i hm0
                            cases hn
                            obtain ⟨rest, hrl, hrun⟩ := A2 (by omega) (by rw [hby]; simpa using hbd.1) (fun w' hw' => ⟨by simp [Builtin.firstCells], by
                              have := hf w' hw' m (Nat.le_refl _)
                              rw [List.take_of_length_le (by omega)] at this
                              rw [hsz]; exact this⟩)
                            obtain ⟨g1, g2⟩ := grown_bd (w := w) (need := 0 + m) (old := 0) (e := el) (by omega)
                            simp only [Nat.zero_add] at hrun g1 g2 hrl
                            have hx' : d = .osl (slotOf hp slot) 0 m esz ∧ hp' = putOb hp (.cells new) slot := by
                              cases slot with
                              | none => simp only [enact, fresh, Option.some.injEq, Prod.mk.injEq] at hx; exact ⟨hx.1.symm, hx.2.symm⟩
                              | some s => simp only [enact, fresh, Option.some.injEq, Prod.mk.injEq] at hx; exact ⟨hx.1.symm, hx.2.symm⟩
                            obtain ⟨rfl, rfl⟩ := hx'
                            have hsum : us.length + rest.length = grownCap w m 0 el * esz := by
                              rw [hul, hrl, hzs, ← Nat.add_mul]; congr 1; omega
                            refine ⟨_, _, Post.new' h hs (.cells new) 0 (us.length + rest.length) (w' := w.drew.alloc (.cells ([] ++ us ++ rest).toArray el (0, 0))) (fun k hk => ?_) (by simp) rfl rfl rfl ?_ rfl, .inl ⟨_, hexec (by rw [hv1]; exact hrun), ?_⟩⟩
                            · exact heap_push_lt (w := w.drew) hk
                            · refine ⟨_, el, (0, 0), us, heap_push_eq (w := w.drew), by simp, thaw _, hr.mono K.le_refl (Jn.le_upd (h.slot_none hs)), by simp, fun k hk => ?_⟩
                              simp only [Nat.zero_add, List.nil_append, List.getElem?_toArray]
                              rw [List.getElem?_append_left hk, List.getElem?_eq_getElem hk]
                            · exact Rep.osl _ 0 m esz _ ⟨w.heap.size, 0, us.length + rest.length⟩ (by unfold Jn.upd; rw [if_pos rfl]) g1 (by simp; omega) g2
                        · cases hn
                  · cases hn
                | some b => simp [nfn, nfn1] at hn
              | _ => simp [nfn, nfn1] at hn
            | osl ob off n es =>
              simp only [nfn, nfn1] at hn
              split at hn
              · rename_i he0
                obtain ⟨rfl, rfl⟩ := he0
                have hc0 : ∀ c, contents (look hp (rds (.append es b (ropd x) (ropd y)) [L.osl ob 0 n es, q])) 0 = some c → hp[ob]? = some (.cells c) := by
                  intro c hc
                  cases q <;> exact contents0 hc
                cases hc : contents (look hp (rds (.append es b (ropd x) (ropd y)) [L.osl ob 0 n es, q])) 0 with
                | none => rw [hc] at hn; cases hn
                | some c =>
                  rw [hc] at hn
                  simp only [Option.bind_some] at hn
                  cases hsc : slCells (look hp (rds (.append es b (ropd x) (ropd y)) [L.osl ob 0 n es, q])) 1 es q with
                  | none => rw [hsc] at hn; cases hn
                  | some new =>
                    rw [hsc] at hn
                    simp only [Option.bind_some] at hn
                    cases hsl : slLen q with
                    | none => rw [hsl] at hn; cases hn
                    | some m =>
                      rw [hsl] at hn
                      simp only [Option.bind_some] at hn
                      split at hn
                      · rename_i hbd
                        obtain ⟨hcl, hb1, hb2, hnot⟩ := hbd
                        cases hn
                        have hpo := hc0 c hc
                        have hob : ∀ ob' off len e, q = .osl ob' off len e → ∀ c', contents (look hp (rds (.append es b (ropd x) (ropd y)) [L.osl ob 0 n es, q])) 1 = some c' → hp[ob']? = some (.cells c') := by
                          intro ob' off len e he c' hc'
                          subst he
                          exact contents1 hc'
                        obtain ⟨hlen, us, hr, hul, hf⟩ := src_cells (P := P) h r2 hob hsc hsl
                        have hfm := hf w rfl m (Nat.le_refl _)
                        rw [List.take_of_length_le (by omega)] at hfm
                        generalize hv1 : a.eval x = v1 at r1
                        cases r1 with
                        | osl _ _ _ _ cap win hj hcap hw hmx =>
                          obtain ⟨win', hj', arr, el', fz, cus, k1, k2, k3, k4, k5, k6⟩ := h.ob ob _ hpo rfl
                          rw [hj] at hj'
                          cases hj'
                          have hcu : cus.length = n * es := by rw [k4.len, hcl]
                          have hcell : ∀ (w' : World), w'.heap = w.heap → ∀ k (_ : k < cus.length), w'.cell? ⟨win.blk, win.base + 0 + k, none⟩ = some cus[k] := by
                            intro w' hw' k hk
                            unfold World.cell?
                            simp only [hw', k1, Option.isSome_none, Bool.false_eq_true, if_false, Nat.add_zero]
                            exact k6 k hk
                          have hold : ∀ (w' : World), w'.heap = w.heap → (Builtin.firstCells inf.size n (.slice (some ⟨win.blk, win.base + 0, none⟩) n cap)).run P w' = .ok cus.toArray w' := by
                            intro w' hw'
                            simp only [Builtin.firstCells]
                            rw [hsz, ← hcu]
                            exact run_loadCells_at (a := ⟨win.blk, win.base + 0, none⟩) rfl (hcell w' hw')
                          obtain ⟨A1, A2⟩ := run_appendPre (P := P) (w := w) (t := t) (u := u) (el := el) (inf := inf) hu hi hzv (by omega) hD (ty := o.type) (base := some ⟨win.blk, win.base + 0, none⟩) (n := n) (c := cap) (m := m) (old := cus) hlen (by rw [hsz]; exact hfm)
                          simp only [enact] at hx
                          split at hx
                          · rename_i hlo
                            have hso := slotOk_set hpo (by rfl) hs
                            have hx' : d = .osl (slotOf hp slot) 0 (n + m) es ∧ hp' = putOb (hp.set ob .gone) (.cells (c ++ new)) slot := by
                              cases slot with
                              | none => simp only [fresh, Option.some.injEq, Prod.mk.injEq] at hx; refine ⟨?_, hx.2.symm⟩; rw [← hx.1]; simp [slotOf]
                              | some s => simp only [fresh, Option.some.injEq, Prod.mk.injEq] at hx; exact ⟨hx.1.symm, hx.2.symm⟩
                            obtain ⟨rfl, rfl⟩ := hx'
                            by_cases hfit : n + m ≤ cap
                            · have hcm : (n + m) * es ≤ cap * es := Nat.mul_le_mul_right _ hfit
                              have hnm : (n + m) * es = n * es + m * es := Nat.add_mul _ _ _
                              obtain ⟨w', g1, g2, g3, g4, g5, g6, g7⟩ := run_storeCells_at (P := P) (w := w) (n := win.base + n * es) k1 k3 (vs := us) (off := win.base + n * es) (by omega) hr.2 rfl
                              have hrun := A1 hfit
                              simp only at hrun
                              rw [addr_add rfl, hsz] at hrun
                              simp only [Nat.add_zero] at hrun
                              rw [g1] at hrun
                              simp only [Result.andThen_ok] at hrun
                              refine ⟨w', _, Post.takeOver h hs hpo hlo rfl rfl hj g3 g4 g5 g6 g7 ?_, .inl ⟨_, hexec (by rw [hv1]; simpa using hrun), ?_⟩⟩
                              · have hasz : (arr.toList.take (win.base + n * es) ++ us ++ arr.toList.drop (win.base + n * es + us.length)).toArray.size = arr.size := by simp; omega
                                refine ⟨_, el', fz, cus ++ us, g2, by rw [hasz, k2], by rw [hasz]; exact k3, (k4.append hr).mono K.le_refl (Jn.le_upd (h.slot_none hs)), by simp; omega, fun k hk => ?_⟩
                                rw [List.getElem?_toArray]
                                by_cases hk1 : k < cus.length
                                · rw [List.append_assoc, List.getElem?_append_left (by simp; omega), List.getElem?_take_of_lt (by omega), List.getElem_append_left hk1]
                                  simpa using k6 k hk1
                                · have hk2 : k < cus.length + us.length := by simpa using hk
                                  rw [List.append_assoc, List.getElem?_append_right (by simp; omega), List.getElem?_append_left (by simp; omega), List.getElem_append_right (by omega)]
                                  have e1 : win.base + k - (List.take (win.base + n * es) arr.toList).length = k - cus.length := by simp; omega
                                  rw [e1, List.getElem?_eq_getElem]
                              · exact Rep.osl _ 0 (n + m) es cap win (by unfold Jn.upd; rw [if_pos rfl]) hfit hw hmx
                            · obtain ⟨rest, hrl, hrun⟩ := A2 (by omega) (by rw [hby]; exact hb1) (fun w' hw' => ⟨hold w' hw', by
                                have := hf w' hw' m (Nat.le_refl _)
                                rw [List.take_of_length_le (by omega)] at this
                                rw [hsz]; exact this⟩)
                              obtain ⟨g1, g2⟩ := grown_bd (w := w) (need := n + m) (old := cap) (e := el) (by omega)
                              have hsum : (cus ++ us).length + rest.length = grownCap w (n + m) cap el * es := by
                                rw [List.length_append, hcu, hul, hrl, hzs, ← Nat.add_mul, ← Nat.add_mul]; congr 1; omega
                              have P1 := Post.drop (lo := lo) h ob
                              have P2 := Post.new' (lo := lo) P1.rel hso (.cells (c ++ new)) 0 ((cus ++ us).length + rest.length) (w' := w.drew.alloc (.cells (cus ++ us ++ rest).toArray el (0, 0))) (fun k hk => heap_push_lt (w := w.drew) hk) (by simp) rfl rfl rfl
                                ⟨_, el, (0, 0), cus ++ us, heap_push_eq (w := w.drew), by simp; omega, thaw _, (k4.append hr).mono K.le_refl (Jn.le_upd (P1.rel.slot_none hso)), by simp, fun k hk => by
                                  simp only [Nat.zero_add, List.getElem?_toArray]
                                  rw [List.getElem?_append_left hk, List.getElem?_eq_getElem hk]⟩ rfl
                              rw [slotOf_set] at P2
                              refine ⟨_, _, P1.trans P2, .inl ⟨_, hexec (by rw [hv1]; simpa using hrun), ?_⟩⟩
                              exact Rep.osl _ 0 (n + m) es _ ⟨w.heap.size, 0, (cus ++ us).length + rest.length⟩ (by unfold Jn.upd; rw [if_pos rfl]) g1 (by simp at hsum ⊢; omega) g2
                          · cases hx
                      · cases hn
              · cases hn
            | _ => simp [nfn, nfn1] at hn
  · cases hrop

end
end Lb
