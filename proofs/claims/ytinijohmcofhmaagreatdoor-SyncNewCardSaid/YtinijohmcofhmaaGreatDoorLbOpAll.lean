/- Every operation that calls nothing. -/
import Derived.Test.YtinijohmcofhmaaGreatDoorLbOps12
namespace Lb
open Go
section
variable {P : Program} {w : World} {K : Kn} {J : Jn} {hp hp' : List Ob} {lo : Nat} {slot : Option Nat} {d : L} {a : Act} {env : List L} {o : Oper}

/-- does an operation look at objects? -/
def looks : ROp → Bool
  | .load .. | .store .. | .convB2S .. | .lookup .. | .mapUpdate .. | .mapDelete .. | .lenMap .. | .append .. | .copy .. | .nextStr .. | .sliceArr .. | .gload .. | .gidx .. | .rangeMap .. | .nextMap .. | .entry .. => true
  | _ => false

theorem rds_nil {r : ROp} (h : looks r = false) (args : List L) : look hp (rds r args) = [] := by
  have : rds r args = [] := by
    unfold rds
    split <;> first | rfl | (simp [looks] at h; done)
  rw [this]; rfl

theorem opt_toList (q : Option Operand) : (q.map ropd).toList = q.toList.map ropd := by cases q <;> rfl

theorem bin_sound {op : BinOp} {t u : TypeId} {x y : Operand} {r : ROp} {args : List L} {e : Eff} (ho : o.op = .binOp op t x y u) (hr : ropBin P op t x y = some r) (h : HRel K J hp w) (he : RepL K J env a.tmps.toList)
    (ha : opds env (rargs r) = some args) (hn : nfn r args (look hp (rds r args)) = some e) (hx : enact lo hp e slot = some (d, hp')) : OpRes lo K J hp w d hp' ((execOp a.eval o).run P w) := by
  have hr0 := hr
  unfold ropBin at hr
  split at hr
  · split at hr
    · cases hr; rw [rds_nil rfl] at hn; exact op_bin ho h he ha hn hx
    · cases hr; rw [rds_nil rfl] at hn; exact op_bin ho h he ha hn hx
    · cases hr; exact op_eq ho hr0 h he ha hn hx
    · split at hr
      · cases hr
      · rw [Option.map_eq_some_iff] at hr
        obtain ⟨ks, _, rfl⟩ := hr
        exact op_eq ho hr0 h he ha hn hx
    · split at hr
      · cases hr
      · rw [Option.map_eq_some_iff] at hr
        obtain ⟨ks, _, rfl⟩ := hr
        exact op_eq ho hr0 h he ha hn hx
    · rw [Option.bind_eq_some_iff] at hr
      obtain ⟨k, _, hr⟩ := hr
      split at hr
      · cases hr
      · cases hr; exact op_eq ho hr0 h he ha hn hx
    · cases hr
  · cases hr; rw [rds_nil rfl] at hn; exact op_bin ho h he ha hn hx

theorem conv_sound {s t : TypeId} {x : Operand} {r : ROp} {args : List L} {e : Eff} (ho : o.op = .convert s t x) (hr : ropConv P s t x = some r) (h : HRel K J hp w) (hs : SlotOk hp slot) (he : RepL K J env a.tmps.toList)
    (ha : opds env (rargs r) = some args) (hn : nfn r args (look hp (rds r args)) = some e) (hx : enact lo hp e slot = some (d, hp')) : OpRes lo K J hp w d hp' ((execOp a.eval o).run P w) := by
  unfold ropConv at hr
  split at hr
  · rename_i k' k h1 h2
    cases hr; rw [rds_nil rfl] at hn; exact op_convInt ho ⟨k', h1⟩ h2 h he ha hn hx
  · rename_i h1 h2
    cases hr; rw [rds_nil rfl] at hn; exact op_convId ho h1 h2 h he ha hn hx
  · rename_i el h1 h2
    split at hr
    · rename_i h3; cases hr; rw [rds_nil rfl] at hn; exact op_convS2B ho h1 h2 h3 h hs he ha hn hx
    · cases hr
  · rename_i el h1 h2
    split at hr
    · rename_i h3; cases hr; exact op_convB2S ho h1 h2 h3 h he ha hn hx
    · cases hr
  · cases hr

theorem builtin_sound {c : Call} {r : ROp} {args : List L} {e : Eff} (ho : o.op = .call c) (hr : ropCall P c = some r) (hc : isCall r = false) (h : HRel K J hp w) (hs : SlotOk hp slot) (he : RepL K J env a.tmps.toList)
    (ha : opds env (rargs r) = some args) (hn : nfn r args (look hp (rds r args)) = some e) (hx : enact lo hp e slot = some (d, hp')) : OpRes lo K J hp w d hp' ((execOp a.eval o).run P w) := by
  have hr0 := hr
  obtain ⟨callee, ⟨as⟩, ⟨ts⟩⟩ := c
  unfold ropCall at hr
  split at hr
  · cases hr; cases hc
  · cases hr; cases hc
  · cases hr
  · rename_i b hb
    simp only at hb
    subst hb
    simp only at hr
    split at hr
    · rename_i x t
      split at hr
      · rename_i h1; cases hr; rw [rds_nil rfl] at hn; exact op_lenStr ho h1 h he ha hn hx
      · rename_i el h1; cases hr; rw [rds_nil rfl] at hn; exact op_lenSl ho h1 h he ha hn hx
      · rename_i k el h1; cases hr; exact op_lenMap ho h1 h he ha hn hx
      · rename_i n el h1; cases hr; rw [rds_nil rfl] at hn; exact op_lenC ho h1 h ha hn hx
      · cases hr
    · rename_i x t
      split at hr
      · rename_i el h1; cases hr; rw [rds_nil rfl] at hn; exact op_capSl ho h1 h he ha hn hx
      · cases hr
    · rename_i s x t u
      exact op_append ho hr0 h hs he ha hn hx
    · rename_i s x t u
      exact op_copy ho hr0 h he ha hn hx
    · rename_i s x t u
      exact op_mapDelete ho hr0 h he ha hn hx
    · cases hr
      exact op_minmax (mx := true) ho rfl rfl h he ha hn hx
    · cases hr
      exact op_minmax (mx := false) ho rfl rfl h he ha hn hx
    · cases hr

theorem op_sound0 {r : ROp} {args : List L} {e : Eff} (hr : rop0 P o.op = some r) (hc : isCall r = false) (h : HRel K J hp w) (hs : SlotOk hp slot) (he : RepL K J env a.tmps.toList)
    (ha : opds env (rargs r) = some args) (hn : nfn r args (look hp (rds r args)) = some e) (hx : enact lo hp e slot = some (d, hp')) : OpRes lo K J hp w d hp' ((execOp a.eval o).run P w) := by
  cases hop : o.op with
  | move x => rw [hop] at hr; cases hr; exact op_move (.inl hop) h he ha hn hx
  | assign x => rw [hop] at hr; cases hr; exact op_move (.inr hop) h he ha hn hx
  | pick c x y => rw [hop] at hr; cases hr; rw [rds_nil rfl] at hn; exact op_pick hop h he ha hn hx
  | alloc t =>
    rw [hop] at hr
    simp only [rop0, Option.map_eq_some_iff] at hr
    obtain ⟨z, hz, rfl⟩ := hr
    rw [rds_nil rfl] at hn
    exact op_alloc hop hz h hs ha hn hx
  | box t x => rw [hop] at hr; cases hr; rw [rds_nil rfl] at hn; exact op_box hop h hs he ha hn hx
  | build t parts => rw [hop] at hr; exact op_build hop hr h he ha hn hx
  | buildSlice t len parts => rw [hop] at hr; exact op_buildSlice hop hr h hs he ha hn hx
  | load t x =>
    rw [hop] at hr
    by_cases hg : ∃ b, x = .global b
    · obtain ⟨b, rfl⟩ := hg; exact op_gload hop hr h ha hn hx
    · exact op_load hop (fun b e => hg ⟨b, e⟩) hr h he ha hn hx
  | store t x y => rw [hop] at hr; exact op_store hop hr h he ha hn hx
  | nilCheck x => rw [hop] at hr; cases hr; rw [rds_nil rfl] at hn; exact op_nilCheck hop h he ha hn hx
  | binOp op t x y u => rw [hop] at hr; exact bin_sound hop hr h he ha hn hx
  | unOp op t x => rw [hop] at hr; cases hr; rw [rds_nil rfl] at hn; exact op_un hop h he ha hn hx
  | convert s t x => rw [hop] at hr; exact conv_sound hop hr h hs he ha hn hx
  | makeInterface t x =>
    rw [hop] at hr
    simp only [rop0] at hr
    split at hr
    · cases hr
    · rename_i D hne hu
      cases hr
      rw [rds_nil rfl] at hn
      exact op_mkIface hop hu (fun ms e => by subst e; exact hne ms rfl) h he ha hn hx
    · cases hr
  | makeFunc f first caps => rw [hop] at hr; cases hr; rw [rds_nil rfl] at hn; exact op_mkFunc hop h he ha hn hx
  | makeMap t res =>
    rw [hop] at hr
    cases res with
    | none => cases hr; rw [rds_nil rfl] at hn; exact op_makeMap hop h hs ha hn hx
    | some q => cases hr
  | makeSlice t x y => rw [hop] at hr; exact op_makeSlice hop hr h hs he ha hn hx
  | slice t x l m mx =>
    rw [hop] at hr
    cases mx with
    | none => exact op_slice hop hr h he ha hn hx
    | some q => cases hr
  | fieldAddr s x i => rw [hop] at hr; exact op_fieldAddr hop hr h he ha hn hx
  | field s x i => rw [hop] at hr; exact op_field hop hr h he ha hn hx
  | indexAddr t x i =>
    rw [hop] at hr
    by_cases hg : ∃ b, x = .global b
    · obtain ⟨b, rfl⟩ := hg; exact op_gidx hop hr h he ha hn hx
    · exact op_indexAddr hop (fun b e => hg ⟨b, e⟩) hr h he ha hn hx
  | index t x i => rw [hop] at hr; exact op_index hop hr h he ha hn hx
  | lookup t x i ok => rw [hop] at hr; exact op_lookup hop hr h he ha hn hx
  | mapUpdate t m k x => rw [hop] at hr; exact op_mapUpdate (.inl hop) hr h he ha hn hx
  | insert t m k x => rw [hop] at hr; exact op_mapUpdate (.inr hop) hr h he ha hn hx
  | range t x =>
    rw [hop] at hr
    simp only [rop0] at hr
    split at hr
    · rename_i hu; cases hr; exact op_rangeStr hop hu h hs he ha hn hx
    · rename_i hu; cases hr; exact op_rangeMap hop hu h hs he ha hn hx
    · cases hr
  | next x b =>
    rw [hop] at hr
    cases b with
    | true => cases hr; exact op_nextStr hop h he ha hn hx
    | false => cases hr; exact op_nextMap hop h he ha hn hx
  | entry x => rw [hop] at hr; cases hr; exact op_entry hop h he ha hn hx
  | typeAssert x xt t ok => rw [hop] at hr; exact op_assert hop hr h he ha hn hx
  | extract x i => rw [hop] at hr; cases hr; rw [rds_nil rfl] at hn; exact op_extract hop h he ha hn hx
  | call c => rw [hop] at hr; exact builtin_sound hop hr hc h hs he ha hn hx
  | _ => rw [hop] at hr; cases hr

theorem op_sound {r : ROp} {args : List L} {e : Eff} (hr : rop P o.op = some r) (hc : isCall r = false) (h : HRel K J hp w) (hs : SlotOk hp slot) (he : RepL K J env a.tmps.toList)
    (ha : opds env (rargs r) = some args) (hn : nfn r args (look hp (rds r args)) = some e) (hx : enact lo hp e slot = some (d, hp')) : OpRes lo K J hp w d hp' ((execOp a.eval o).run P w) := by
  unfold rop at hr
  cases h0 : rop0 P o.op with
  | none =>
    rw [h0] at hr
    cases hr
    simp [nfn, nfn1] at hn
  | some r0 =>
    rw [h0] at hr
    cases hr
    exact op_sound0 h0 hc h hs he ha hn hx
end
end Lb
