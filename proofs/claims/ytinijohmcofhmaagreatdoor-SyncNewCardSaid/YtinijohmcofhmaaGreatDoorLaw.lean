/- The law SyncNew holds for every size: no Syncer without tables or with a size that is not a prime up to 251; no conditions. -/
import Derived.Test.YtinijohmcofhmaaGreatDoorRun
import Derived.Test.YtinijohmcofhmaaGreatDoorSz
import Derived.Test.YtinijohmcofhmaaGreatDoorIs
import Derived.Test.YtinijohmcofhmaaGreatDoorFacts
import Derived.Test.YtinijohmcofhmaaGreatDoorGoes
import Derived.Test.YtinijohmcofhmaaGreatDoorCards
import Derived.Test.YtinijohmcofhmaaGreatDoorTie
import Derived.WalkKit
import Derived.ProofKit
import Derived.OpenShut
import Derived.LaidLaws
import Derived.Lay
import Derived.MakeChecks
import Derived.Deep.DeepHandedRow
import Derived.Deep.DeepWitnessRowRef
namespace Go.Proofs.YtinijohmcofhmaaGreatDoor.sy
open Go Lb Go.ChangeShapes Go.WideShapes Go.ChangeAt Go.RowKit

set_option maxRecDepth 100000
theorem own : ownKnob Tryz.prog.godebug = none := by kernel_rfl
theorem star : "*" ++ "errors.errorString" = "*errors.errorString" := by decide
theorem row518 (u : TypeId) (h : Tryz.prog.typeName? 3 u = some "*errors.errorString") : u = 518 :=
  typeName_ptr_named (nm := "errors.errorString") (by rw [star]; kernel_rfl) (by kernel_rfl) (by decide) u (by rw [star]; exact h)
theorem cells547 : Tryz.prog.cellsOf 547 = 1 := by kernel_rfl
theorem cells9 : Tryz.prog.cellsOf 9 = 1 := by kernel_rfl

/-- What the row's list says of the errors. -/
theorem sent {W : World} (hL : laidMetH Tryz.prog Rows.syncNewRow.laid W) : ∀ p ∈ S, SentAt W 518 p := by
  rw [MakeChecks.laidMetH_plain _ _ _ (by kernel_rfl)] at hL
  obtain ⟨ps, hv, _, hrows⟩ := hL
  have at_ : ∀ (n : String) (text : List UInt8) (g : Nat), (n, DataW.iface "*errors.errorString" (.ptr (.agg [.lit (.string text)]))) ∈ Rows.syncNewRow.laid → Tryz.prog.globalNamed n = some g → (Tryz.prog.globals[g]?).map (·.type) = some 25 → SentAt W 518 (g, text) :=
    fun n text g h1 h2 h3 => laid_each Tryz.underlying25 row518 Tryz.underlying518 Tryz.underlying547 rfl rfl Tryz.underlying9 cells547 cells9 _ ps hv hrows n text g h1 h2 h3
  intro p hp
  simp only [S, List.mem_cons, List.mem_nil_iff, or_false] at hp
  rcases hp with rfl | rfl | rfl | rfl | rfl | rfl | rfl | rfl | rfl | rfl | rfl | rfl | rfl | rfl | rfl | rfl | rfl | rfl
  · exact at_ "linkboy/api.ErrNone" [116, 104, 101, 114, 101, 32, 105, 115, 32, 110, 111, 110, 101] 0 (List.mem_of_getElem? (i := 11) rfl) (by kernel_rfl) (by kernel_rfl)
  · exact at_ "linkboy/api.ErrRange" [97, 32, 110, 117, 109, 98, 101, 114, 32, 105, 115, 32, 111, 117, 116, 32, 111, 102, 32, 105, 116, 115, 32, 114, 97, 110, 103, 101] 1 (List.mem_of_getElem? (i := 1) rfl) (by kernel_rfl) (by kernel_rfl)
  · exact at_ "linkboy/api.ErrShort" [115, 111, 109, 101, 116, 104, 105, 110, 103, 32, 105, 115, 32, 109, 105, 115, 115, 105, 110, 103, 32, 97, 116, 32, 116, 104, 101, 32, 101, 110, 100] 2 (List.mem_of_getElem? (i := 2) rfl) (by kernel_rfl) (by kernel_rfl)
  · exact at_ "linkboy/api.ErrLong" [116, 104, 101, 114, 101, 32, 105, 115, 32, 109, 111, 114, 101, 32, 116, 104, 97, 110, 32, 109, 97, 121, 32, 98, 101] 3 (List.mem_of_getElem? (i := 3) rfl) (by kernel_rfl) (by kernel_rfl)
  · exact at_ "linkboy/api.ErrForm" [105, 116, 32, 105, 115, 32, 110, 111, 116, 32, 111, 102, 32, 105, 116, 115, 32, 102, 111, 114, 109] 4 (List.mem_of_getElem? (i := 4) rfl) (by kernel_rfl) (by kernel_rfl)
  · exact at_ "linkboy/api.ErrSum" [116, 104, 101, 32, 99, 104, 101, 99, 107, 115, 117, 109, 32, 105, 115, 32, 110, 111, 116, 32, 114, 105, 103, 104, 116] 5 (List.mem_of_getElem? (i := 5) rfl) (by kernel_rfl) (by kernel_rfl)
  · exact at_ "linkboy/api.ErrName" [105, 116, 32, 105, 115, 32, 110, 111, 32, 114, 105, 103, 104, 116, 32, 110, 97, 109, 101] 6 (List.mem_of_getElem? (i := 6) rfl) (by kernel_rfl) (by kernel_rfl)
  · exact at_ "linkboy/api.ErrKind" [105, 116, 32, 105, 115, 32, 111, 102, 32, 97, 110, 111, 116, 104, 101, 114, 32, 107, 105, 110, 100] 7 (List.mem_of_getElem? (i := 7) rfl) (by kernel_rfl) (by kernel_rfl)
  · exact at_ "linkboy/api.ErrAddress" [105, 116, 32, 105, 115, 32, 110, 111, 32, 114, 105, 103, 104, 116, 32, 97, 100, 100, 114, 101, 115, 115] 8 (List.mem_of_getElem? (i := 8) rfl) (by kernel_rfl) (by kernel_rfl)
  · exact at_ "linkboy/api.ErrVersion" [116, 104, 101, 32, 118, 101, 114, 115, 105, 111, 110, 32, 105, 115, 32, 110, 111, 116, 32, 111, 110, 101] 9 (List.mem_of_getElem? (i := 9) rfl) (by kernel_rfl) (by kernel_rfl)
  · exact at_ "linkboy/api.ErrStale" [105, 116, 32, 105, 115, 32, 111, 108, 100, 101, 114, 32, 116, 104, 97, 110, 32, 119, 104, 97, 116, 32, 105, 115, 32, 107, 110, 111, 119, 110] 10 (List.mem_of_getElem? (i := 10) rfl) (by kernel_rfl) (by kernel_rfl)
  · exact at_ "linkboy/api.ErrDup" [105, 116, 32, 105, 115, 32, 116, 104, 101, 114, 101, 32, 97, 108, 114, 101, 97, 100, 121] 11 (List.mem_of_getElem? (i := 12) rfl) (by kernel_rfl) (by kernel_rfl)
  · exact at_ "linkboy/api.ErrFull" [116, 104, 101, 114, 101, 32, 97, 114, 101, 32, 97, 115, 32, 109, 97, 110, 121, 32, 97, 115, 32, 109, 97, 121, 32, 98, 101] 12 (List.mem_of_getElem? (i := 13) rfl) (by kernel_rfl) (by kernel_rfl)
  · exact at_ "linkboy/api.ErrFail" [105, 116, 32, 102, 97, 105, 108, 101, 100, 32, 111, 110, 32, 116, 104, 101, 32, 119, 97, 121] 13 (List.mem_of_getElem? (i := 14) rfl) (by kernel_rfl) (by kernel_rfl)
  · exact at_ "linkboy/api.ErrState" [105, 116, 32, 99, 97, 110, 32, 110, 111, 116, 32, 98, 101, 32, 100, 111, 110, 101, 32, 105, 110, 32, 116, 104, 105, 115, 32, 115, 116, 97, 116, 101] 14 (List.mem_of_getElem? (i := 15) rfl) (by kernel_rfl) (by kernel_rfl)
  · exact at_ "linkboy/api.ErrDown" [105, 116, 32, 105, 115, 32, 100, 111, 119, 110] 15 (List.mem_of_getElem? (i := 16) rfl) (by kernel_rfl) (by kernel_rfl)
  · exact at_ "linkboy/api.ErrProto" [105, 116, 32, 105, 115, 32, 111, 102, 32, 97, 110, 111, 116, 104, 101, 114, 32, 112, 114, 111, 116, 111, 99, 111, 108] 16 (List.mem_of_getElem? (i := 17) rfl) (by kernel_rfl) (by kernel_rfl)
  · exact at_ "linkboy/api.ErrIndex" [97, 32, 112, 108, 97, 99, 101, 32, 105, 115, 32, 110, 111, 116, 32, 105, 110, 32, 116, 104, 101, 32, 108, 105, 115, 116] 17 (List.mem_of_getElem? (i := 18) rfl) (by kernel_rfl) (by kernel_rfl)

theorem noNum : (Tryz.prog.funcs.toList.all fun fn => !(fn.name == "runtime.NumGoroutine")) = true := by kernel_rfl
theorem name_ok {f : Nat} {fn : Func} (h : Tryz.prog.funcs[f]? = some fn) : (fn.name == "runtime.NumGoroutine") = false := by
  have := List.all_eq_true.1 noNum fn (by simpa using Array.mem_of_getElem? h)
  simpa using this

theorem code_of {f : Nat} {rf : RFn} (h : (Tryz.prog.funcs[f]?).bind (rfn Tryz.prog) = some rf) : ∃ fn, Tryz.prog.funcs[f]? = some fn ∧ rfn Tryz.prog fn = some rf ∧ (fn.name == "runtime.NumGoroutine") = false := by
  obtain ⟨fn, h1, h2⟩ := Option.bind_eq_some_iff.1 h
  exact ⟨fn, h1, h2, name_ok h1⟩

theorem mixed : Tryz.prog.follows .mixedOrders = true := by kernel_rfl

theorem codeAll : ∀ f rf, fns f = some rf → (Tryz.prog.funcs[f]?).bind (rfn Tryz.prog) = some rf := by
  intro f rf h
  unfold fns at h
  split at h
  · rw [← h]; exact code8
  · rw [← h]; exact code18
  · rw [← h]; exact code16
  · rw [← h]; exact code37
  · rw [← h]; exact code88
  · cases h

theorem cfgZ : CfgOk Tryz.prog Inv.none Cz where
  mixed := mixed
  fns := fun f rf _ h => code_of (codeAll f rf h)
  orc := fun _ _ h => by cases h

theorem seven : sz 7 = true := by decide

theorem sym_is {K : Kn} {J : Jn} {n : Int} (hs : K.sym = fun _ => .int .i64 n) {us : List Value} (h : RepL K J [.sym 0] us) : us = [.int .i64 n] := by
  obtain ⟨u, us', rfl, hu, hus⟩ := h.out_cons
  cases hus.out_nil
  cases hu
  rw [hs]

theorem tells_sized {W : World} {n : Int} {J : Jn} (hrel : HRel (K0 W fun _ => .int .i64 n) J (baseHp 518 S) W) {b : Bool} (hb : sz n = b) {f : Nat}
    (hrun : ∀ m : Int, (acall Cz 100 19 f [.v (.int .i64 m)] (baseHp 518 S)).map (·.1) = some (.v (.bool (sz m)))) :
    Tells Tryz.prog (baseInv W (fun _ => .int .i64 n) J) f (fun lo args hp => orcSz b lo f args hp) :=
  tells_base' hrel cfgZ fun lo args hp d hp' h => by
    unfold orcSz at h
    split at h
    · cases h
      exact ⟨rfl, [.int .i64 n], .bool b, fun K J us hs hr => sym_is hs hr, by simp [Value.oneCell'], rfl, 100, by rw [← hb]; exact hrun n⟩
    · rename_i m
      split at h
      · rename_i hm
        subst hm
        cases h
        exact ⟨rfl, [.int .i64 7], .bool true, fun K J us _ hr => (RepL.plain [.int .i64 7] us hr).1, by simp [Value.oneCell'], rfl, 100, hrun 7⟩
      · cases h
    · cases h

theorem isInfo : ∃ i j, Tryz.prog.info? 518 = some i ∧ i.comparable = true ∧ Tryz.prog.info? 547 = some j ∧ j.size ≠ 0 := by
  obtain ⟨i, h1, h2⟩ := Option.map_eq_some_iff.1 snIs.isComp
  obtain ⟨j, h3, h4⟩ := Option.map_eq_some_iff.1 snIs.isSize
  exact ⟨i, j, h1, h2, h3, by omega⟩

theorem cfg {W : World} {n : Int} {J : Jn} (hrel : HRel (K0 W fun _ => .int .i64 n) J (baseHp 518 S) W) {b : Bool} (hb : sz n = b) :
    CfgOk Tryz.prog (baseInv W (fun _ => .int .i64 n) J) (C b) where
  mixed := mixed
  fns := fun f rf _ h => code_of h
  orc := fun f g h => by
    simp only [C] at h
    split at h
    · rename_i hf
      subst hf
      cases h
      exact tells_clone Tryz.func287 (by kernel_rfl) (by kernel_rfl) (by kernel_rfl) (by kernel_rfl)
    split at h
    · rename_i hf
      subst hf
      cases h
      obtain ⟨i, j, h1, h2, h3, h4⟩ := isInfo
      exact tells_is Tryz.func17 (by kernel_rfl) (by kernel_rfl) Tryz.underlying25 Tryz.underlying518 h1 h2 h3 h4 snIs.is_same snIs.is_other
    split at h
    · rename_i hf
      subst hf
      cases h
      exact tells_sized hrel hb (sized_run all8 neg8 big8)
    split at h
    · rename_i hf
      subst hf
      cases h
      exact tells_sized hrel hb (sized_run all16 neg16 big16)
    · cases h

/-- What the run gives, for every argument and every world that holds the errors. -/
theorem contract (H : Type) (enc : TypeId × Value → H) (W : World) (base : Nat) (args : Array Value) (ds gs : List (DataW H)) (before : List MemPlace)
    (hval : ∀ (j : Nat) t v, Tryz.f3.params[j]? = some t → args[j]? = some v → Value.okWide Tryz.prog W .any base t v)
    (hW : DataW.Whole enc Tryz.prog Tryz.f3.params.toList Rows.syncNewSpec.vars false W args.toList ds gs before) (hL : laidMetH Tryz.prog Rows.syncNewRow.laid W) :
    Calls Tryz.prog 3 args W fun e W' => ∃ v, e = .returned v ∧ Rows.syncNewSpec.post enc Tryz.prog Tryz.f3 false true false false W args v W' := by
  have hW' := hW
  obtain ⟨p, q, hA0, hV, rfl, hfz, hnd⟩ := hW
  have hA : DataW.TrodAll enc Tryz.prog W 0 (fun _ => true) true Tryz.f3.params.toList args.toList ds p := hA0
  rw [Tryz.params3] at hA hval
  obtain ⟨v0, vs0, d0, ds0, p0, q0, hargs, rfl, rfl, h0, r0⟩ := trodAll_cons hA
  obtain ⟨rfl, rfl, rfl⟩ := trodAll_nil r0
  obtain rfl : args = #[v0] := by cases args; simp_all
  obtain ⟨rfl, rfl⟩ := trodVars_none hV
  obtain ⟨n, rfl, rfl, rfl, hwn⟩ := open_int Tryz.underlying3 (hval 0 3 v0 rfl rfl) h0
  clear hA0
  simp only [List.append_nil] at hW'
  obtain ⟨J, hrel, _⟩ := base_rel (ρ := fun _ => .int .i64 n) 518 S (sent hL)
  have hrun : (acall (C (sz n)) 300 (baseHp 518 S).length 3 [.sym 0] (baseHp 518 S)).map (·.1) = some (.v (.bool true)) := by
    cases sz n
    · exact run_f
    · exact run_t
  refine (law_run' hrel (cfg hrel rfl) ⟨(K0 W fun _ => .int .i64 n).le_refl, J.le_refl⟩ Tryz.func3 (by kernel_rfl) (by kernel_rfl) (args := [.sym 0]) (vs := [.int .i64 n])
    (RepL.cons (Rep.sym (K := K0 W fun _ => .int .i64 n) 0 rfl) RepL.nil) hrun (· ∈ ([] : List MemPlace))).mono fun e W' ⟨he, hk, hf⟩ => ?_
  subst he
  exact ⟨_, rfl, post_of_kept (pa := []) (pv := []) hW' (fun _ _ _ => trodAll_cons_mk (shut_bool Tryz.underlying4 _) trodAll_mk0) (fun _ _ => trodAll_cons_mk (shut_int Tryz.underlying3 hwn) trodAll_mk0) (fun _ _ => rfl) rfl
    hk hf (ok_one (by kernel_rfl) rfl (okWide_bool_mk Tryz.underlying4 _))⟩

/-- A world for the witness: every listed variable laid. -/
noncomputable def laidWorld (os : Os) : World := World.laidAll Tryz.prog os Rows.syncNewRow.laid
theorem laid_met (os : Os) : laidMet Tryz.prog Rows.syncNewRow.laid ((laidWorld os).forCall (fun _ _ => 0) ⟨#[], #[.int .i64 0], []⟩).memory :=
  laidMet_laidAll _ (by kernel_rfl) (by kernel_rfl)
theorem reads (os : Os) {H : Type} (enc : TypeId × Value → H) : ∃ places, DataW.whole enc Tryz.prog ((laidWorld os).forCall (fun _ _ => 0) ⟨#[], #[.int .i64 0], []⟩).memory Tryz.f3.params.toList Rows.syncNewSpec.vars false #[Value.int .i64 0].toList 8 = some ([.lit (.int .i64 0)], [], places) :=
  ⟨[], by kernel_rfl⟩

set_option maxHeartbeats 4000000 in
theorem lifted (os : Os) (started : os.Started) (H : Type) (enc : TypeId × Value → H) (F : Stop.Interp) :
    ReturnsInHanded {} Tryz.checked os 3 .any ((OpenSpec.ofChange Rows.syncNewSpec).preRow enc Tryz.prog Tryz.f3 Rows.syncNewRow.domain false Rows.syncNewRow.laid) (((OpenSpec.ofChange Rows.syncNewSpec).at F).post enc Tryz.prog Tryz.f3 false true false false) := by
  obtain ⟨places, hx⟩ := reads os enc
  refine returnsInHanded_of_row (C := Tryz.checked) (s := OpenSpec.ofChange Rows.syncNewSpec) own started (by kernel_rfl) Tryz.func3
    (witness_row_atRef (enc := enc) (C := Tryz.checked) false (laidWorld os) #[.int .i64 0] rfl (by kernel_rfl) (by kernel_rfl) (by kernel_rfl)
      (OpenSpec.preRow_of_cond 8 hx (by kernel_rfl) (fun k hk => by cases hk) (by kernel_rfl) (laid_met os))) ?_
  intro W base args ds gs before hval hW _ _ _ hL _ _
  exact contract H enc W base args ds gs before hval hW hL

theorem said : Rows.SyncNewSaid :=
  OpenClaim.holds_of_cond 3 Tryz.f3 rfl rfl rfl rfl rfl rfl rfl ⟨rfl, rfl, rfl, rfl, rfl⟩ rfl rfl rfl rfl rfl (by kernel_rfl) Tryz.func3 facts
    (of_decide_eq_true (by kernel_rfl)) (by unfold Func.isWrapper; first | (rw [if_pos (by decide +kernel)]; kernel_rfl) | (rw [if_neg (by decide +kernel)]; exact ⟨rfl, rfl⟩))
    (fun os started H enc _ F => by rw [OpenClaim.pre_eq_preRow]; exact lifted os started H enc F)

theorem plain (f : FuncId) (fn : Func) (hf : Tryz.pinned.checked.prog.funcNamed "linkboy/linkboylaw27.SyncNew" = some f) (hfn : Tryz.pinned.checked.prog.funcs[f]? = some fn) :
    true = Tryz.pinned.checked.prog.looks [] ∧ ∀ (j : Nat) t, fn.params[j]? = some t → Tryz.pinned.checked.prog.wantsStandIn t = false := by
  obtain rfl : f = 3 := Option.some.inj ((show Tryz.prog.funcNamed "linkboy/linkboylaw27.SyncNew" = some 3 by kernel_rfl).symm.trans hf) |>.symm
  obtain rfl : fn = Tryz.f3 := (Option.some.inj (Tryz.func3.symm.trans hfn)).symm
  refine ⟨by kernel_rfl, fun j t ht => ?_⟩
  rw [Tryz.params3] at ht
  obtain rfl : t = 3 := by simpa using Array.mem_of_getElem? ht
  exact (show Tryz.prog.wantsStandIn 3 = false by kernel_rfl)

theorem card : Rows.SyncNewCardSaid :=
  Claim7.holds_tied_plain_at .later [] _ _ _ _ said (fun _ h => by cases h) (by kernel_rfl) (fun _ h => by cases h) syncNew_row_tie rfl ⟨rfl, rfl⟩ (by kernel_rfl) rfl plain goes
end Go.Proofs.YtinijohmcofhmaaGreatDoor.sy
