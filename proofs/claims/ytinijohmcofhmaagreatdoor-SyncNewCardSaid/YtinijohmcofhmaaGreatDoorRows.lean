/-
  NARROWER THAN 'FOR EVERY INPUT', by the rows' own cells (each row's printed sentence says how): SyncNew: laid.
  DERIVED. THE GIVEN ROWS OF THIS SEAT. 1 by the template 'for every input the law returns true; each argument reads behind the call as it read before'; 0 by the template 'total and deterministic' (their statements: YtinijohmcofhmaaGreatDoorTotals.lean).
  GIVEN WITH THE SEED: the statements are not yours to turn. If you find one false, say at which input.
  Laid BY PROGRAM, IN A SANDBOX (cutbox-rows.mjs): the forced cells as the released guide's own fill.sh prints them over the translation 98a406aa7bb79736… (all of the seat's roots in one cut). By AI agents, Wed Nov 11 2026. No macro, syntax, notation, axiom, sorry.
-/
import Derived.Test.YtinijohmcofhmaaGreatDoorChecked
import GoSem.PinnedTables
import GoSem.Claim
import GoSem.ClaimJoined
import GoSem.ClaimMapViews
import Derived.JoinedTies
import Derived.KernelRfl
namespace Go.Proofs.YtinijohmcofhmaaGreatDoor
/- THE CELL 'sum', in the pinned program and in every row, IS THE sha256 OF THE DUMP (.gsa) THAT YtinijohmcofhmaaGreatDoorProg.lean LOADS. Nothing in Lean hashes anything: it is a label: what it is worth is what the hold of that sum in a sandbox is worth. -/
noncomputable def Tryz.pinned : Pinned := { name := "ytinijohmcofhmaagreatdoor", sum := "98a406aa7bb797365427f9c3ecca17b059eda6c8ec498de4d90db91b9288c19c", checked := Tryz.checked }
namespace Rows
def none {H : Type} : Left H := { results := [], args := [] }

/- WHAT THE LISTED PACKAGE-LEVEL VARIABLES READ AS WHEN THE CALL BEGINS. Each datum BY PROGRAM (the guide's laid-datum.mjs) off the statement by which the dump's own 'gosem.cut.vars' lays the variable. In a bare row this is a premise. The card (YtinijohmcofhmaaGreatDoorCards.lean) ties it to the program's text. -/
def laid_unicode_utf8_acceptRanges {H : Type} : DataW H := .agg [.agg [.lit (.int .u8 128), .lit (.int .u8 191)], .agg [.lit (.int .u8 160), .lit (.int .u8 191)], .agg [.lit (.int .u8 128), .lit (.int .u8 159)], .agg [.lit (.int .u8 144), .lit (.int .u8 191)], .agg [.lit (.int .u8 128), .lit (.int .u8 143)], .agg [.lit (.int .u8 0), .lit (.int .u8 0)], .agg [.lit (.int .u8 0), .lit (.int .u8 0)], .agg [.lit (.int .u8 0), .lit (.int .u8 0)], .agg [.lit (.int .u8 0), .lit (.int .u8 0)], .agg [.lit (.int .u8 0), .lit (.int .u8 0)], .agg [.lit (.int .u8 0), .lit (.int .u8 0)], .agg [.lit (.int .u8 0), .lit (.int .u8 0)], .agg [.lit (.int .u8 0), .lit (.int .u8 0)], .agg [.lit (.int .u8 0), .lit (.int .u8 0)], .agg [.lit (.int .u8 0), .lit (.int .u8 0)], .agg [.lit (.int .u8 0), .lit (.int .u8 0)]]
def laid_linkboy_api_ErrRange {H : Type} : DataW H := .iface "*errors.errorString" (.ptr (.agg [.lit (.string [97, 32, 110, 117, 109, 98, 101, 114, 32, 105, 115, 32, 111, 117, 116, 32, 111, 102, 32, 105, 116, 115, 32, 114, 97, 110, 103, 101])]))
def laid_linkboy_api_ErrShort {H : Type} : DataW H := .iface "*errors.errorString" (.ptr (.agg [.lit (.string [115, 111, 109, 101, 116, 104, 105, 110, 103, 32, 105, 115, 32, 109, 105, 115, 115, 105, 110, 103, 32, 97, 116, 32, 116, 104, 101, 32, 101, 110, 100])]))
def laid_linkboy_api_ErrLong {H : Type} : DataW H := .iface "*errors.errorString" (.ptr (.agg [.lit (.string [116, 104, 101, 114, 101, 32, 105, 115, 32, 109, 111, 114, 101, 32, 116, 104, 97, 110, 32, 109, 97, 121, 32, 98, 101])]))
def laid_linkboy_api_ErrForm {H : Type} : DataW H := .iface "*errors.errorString" (.ptr (.agg [.lit (.string [105, 116, 32, 105, 115, 32, 110, 111, 116, 32, 111, 102, 32, 105, 116, 115, 32, 102, 111, 114, 109])]))
def laid_linkboy_api_ErrSum {H : Type} : DataW H := .iface "*errors.errorString" (.ptr (.agg [.lit (.string [116, 104, 101, 32, 99, 104, 101, 99, 107, 115, 117, 109, 32, 105, 115, 32, 110, 111, 116, 32, 114, 105, 103, 104, 116])]))
def laid_linkboy_api_ErrName {H : Type} : DataW H := .iface "*errors.errorString" (.ptr (.agg [.lit (.string [105, 116, 32, 105, 115, 32, 110, 111, 32, 114, 105, 103, 104, 116, 32, 110, 97, 109, 101])]))
def laid_linkboy_api_ErrKind {H : Type} : DataW H := .iface "*errors.errorString" (.ptr (.agg [.lit (.string [105, 116, 32, 105, 115, 32, 111, 102, 32, 97, 110, 111, 116, 104, 101, 114, 32, 107, 105, 110, 100])]))
def laid_linkboy_api_ErrAddress {H : Type} : DataW H := .iface "*errors.errorString" (.ptr (.agg [.lit (.string [105, 116, 32, 105, 115, 32, 110, 111, 32, 114, 105, 103, 104, 116, 32, 97, 100, 100, 114, 101, 115, 115])]))
def laid_linkboy_api_ErrVersion {H : Type} : DataW H := .iface "*errors.errorString" (.ptr (.agg [.lit (.string [116, 104, 101, 32, 118, 101, 114, 115, 105, 111, 110, 32, 105, 115, 32, 110, 111, 116, 32, 111, 110, 101])]))
def laid_linkboy_api_ErrStale {H : Type} : DataW H := .iface "*errors.errorString" (.ptr (.agg [.lit (.string [105, 116, 32, 105, 115, 32, 111, 108, 100, 101, 114, 32, 116, 104, 97, 110, 32, 119, 104, 97, 116, 32, 105, 115, 32, 107, 110, 111, 119, 110])]))
def laid_linkboy_api_ErrNone {H : Type} : DataW H := .iface "*errors.errorString" (.ptr (.agg [.lit (.string [116, 104, 101, 114, 101, 32, 105, 115, 32, 110, 111, 110, 101])]))
def laid_linkboy_api_ErrDup {H : Type} : DataW H := .iface "*errors.errorString" (.ptr (.agg [.lit (.string [105, 116, 32, 105, 115, 32, 116, 104, 101, 114, 101, 32, 97, 108, 114, 101, 97, 100, 121])]))
def laid_linkboy_api_ErrFull {H : Type} : DataW H := .iface "*errors.errorString" (.ptr (.agg [.lit (.string [116, 104, 101, 114, 101, 32, 97, 114, 101, 32, 97, 115, 32, 109, 97, 110, 121, 32, 97, 115, 32, 109, 97, 121, 32, 98, 101])]))
def laid_linkboy_api_ErrFail {H : Type} : DataW H := .iface "*errors.errorString" (.ptr (.agg [.lit (.string [105, 116, 32, 102, 97, 105, 108, 101, 100, 32, 111, 110, 32, 116, 104, 101, 32, 119, 97, 121])]))
def laid_linkboy_api_ErrState {H : Type} : DataW H := .iface "*errors.errorString" (.ptr (.agg [.lit (.string [105, 116, 32, 99, 97, 110, 32, 110, 111, 116, 32, 98, 101, 32, 100, 111, 110, 101, 32, 105, 110, 32, 116, 104, 105, 115, 32, 115, 116, 97, 116, 101])]))
def laid_linkboy_api_ErrDown {H : Type} : DataW H := .iface "*errors.errorString" (.ptr (.agg [.lit (.string [105, 116, 32, 105, 115, 32, 100, 111, 119, 110])]))
def laid_linkboy_api_ErrProto {H : Type} : DataW H := .iface "*errors.errorString" (.ptr (.agg [.lit (.string [105, 116, 32, 105, 115, 32, 111, 102, 32, 97, 110, 111, 116, 104, 101, 114, 32, 112, 114, 111, 116, 111, 99, 111, 108])]))
def laid_linkboy_api_ErrIndex {H : Type} : DataW H := .iface "*errors.errorString" (.ptr (.agg [.lit (.string [97, 32, 112, 108, 97, 99, 101, 32, 105, 115, 32, 110, 111, 116, 32, 105, 110, 32, 116, 104, 101, 32, 108, 105, 115, 116])]))
/-- One of Go's own tables, pinned by name: the form's constant. -/
def laid_unicode_utf8_first : DataW Unit := Go.Pinned.utf8First

/-- 'linkboylaw27.SyncNew': WHATEVER THE INPUT: true; the input reads as it did. -/
def syncNewSpec : ChangeSpec := { name := "syncNew", fn := fun _ => fun
  | [d] => { results := [.lit (.bool true)], args := [d] }
  | _ => none }
def syncNewRow : OpenClaim := { program := "ytinijohmcofhmaagreatdoor", sum := "98a406aa7bb797365427f9c3ecca17b059eda6c8ec498de4d90db91b9288c19c", func := "linkboy/linkboylaw27.SyncNew", spec := "syncNew", inPlace := ["internal/bytealg.IndexByteString", "internal/bytealg.IndexString", "maps.clone", "internal/bytealg.Compare", "internal/reflectlite.TypeOf"], unfollowed := true, recurses := true, named := ["linkboy/api.ErrName", "unicode/utf8.first", "unicode/utf8.acceptRanges", "linkboy/api.ErrNone", "linkboy/api.ErrRange", "linkboy/api.ErrState", "linkboy/api.ErrFull", "linkboy/api.ErrDup", "linkboy/api.ErrForm", "linkboy/api.ErrAddress", "linkboy/api.ErrFail", "linkboy/api.ErrKind", "linkboy/api.ErrShort", "linkboy/api.ErrLong", "linkboy/api.ErrSum", "linkboy/api.ErrVersion", "linkboy/api.ErrStale", "linkboy/api.ErrDown", "linkboy/api.ErrProto", "linkboy/api.ErrIndex", "internal/bytealg.MaxLen"], plainKeys := false, apart := false, laid := [("unicode/utf8.acceptRanges", laid_unicode_utf8_acceptRanges), ("linkboy/api.ErrRange", laid_linkboy_api_ErrRange), ("linkboy/api.ErrShort", laid_linkboy_api_ErrShort), ("linkboy/api.ErrLong", laid_linkboy_api_ErrLong), ("linkboy/api.ErrForm", laid_linkboy_api_ErrForm), ("linkboy/api.ErrSum", laid_linkboy_api_ErrSum), ("linkboy/api.ErrName", laid_linkboy_api_ErrName), ("linkboy/api.ErrKind", laid_linkboy_api_ErrKind), ("linkboy/api.ErrAddress", laid_linkboy_api_ErrAddress), ("linkboy/api.ErrVersion", laid_linkboy_api_ErrVersion), ("linkboy/api.ErrStale", laid_linkboy_api_ErrStale), ("linkboy/api.ErrNone", laid_linkboy_api_ErrNone), ("linkboy/api.ErrDup", laid_linkboy_api_ErrDup), ("linkboy/api.ErrFull", laid_linkboy_api_ErrFull), ("linkboy/api.ErrFail", laid_linkboy_api_ErrFail), ("linkboy/api.ErrState", laid_linkboy_api_ErrState), ("linkboy/api.ErrDown", laid_linkboy_api_ErrDown), ("linkboy/api.ErrProto", laid_linkboy_api_ErrProto), ("linkboy/api.ErrIndex", laid_linkboy_api_ErrIndex), ("unicode/utf8.first", laid_unicode_utf8_first)] }
def SyncNewSaid : Prop := syncNewRow.holds Tryz.pinned (OpenSpec.ofChange syncNewSpec)

/-- ITS FALSE NEIGHBOUR: 'it returns false'. Refute it at one input. -/
def syncNewWrong : ChangeSpec := { name := "syncNew", fn := fun _ => fun
  | [d] => { results := [.lit (.bool false)], args := [d] }
  | _ => none }
def SyncNewWrongFalsely : Prop := syncNewRow.holds Tryz.pinned (OpenSpec.ofChange syncNewWrong)

/- THE SECOND FORM. 'bulk': how many values and letters a reading holds, each counted each time it is reached (what is shared counts as often as it is met; a slice's spare places count too). A statement '..UptoSaid' is the law's where the arguments, and the package variables that the reading takes, are together of bulk at most 1048576: NARROWER than '..Said'. Prove '..Said' where nothing that the law and all that it calls make is longer than what came in: it says more and counts as full. Else prove '..UptoSaid'. A law counts once. -/
mutual
def uptoBulk {H : Type} : DataW H → Nat
  | .lit (.string bytes) => bytes.length + 1
  | .lit _ => 1
  | .nil => 1
  | .ptr d => uptoBulk d + 1
  | .slice elems spare => uptoBulkAll elems + uptoBulkAll spare + 1
  | .agg parts => uptoBulkAll parts + 1
  | .iface _ d => uptoBulk d + 1
  | .map entries => uptoBulkEntries entries + 1
  | .held _ => 1
def uptoBulkAll {H : Type} : List (DataW H) → Nat
  | [] => 0
  | d :: r => uptoBulk d + uptoBulkAll r
def uptoBulkEntries {H : Type} : List (Lit × DataW H) → Nat
  | [] => 0
  | x :: r => uptoBulkEntry x + uptoBulkEntries r
def uptoBulkEntry {H : Type} : Lit × DataW H → Nat
  | (.string bytes, d) => bytes.length + uptoBulk d + 1
  | (_, d) => uptoBulk d + 1
 end
def uptoSmall : (H : Type) → List (DataW H) → Bool := fun _ ds => decide (uptoBulkAll ds ≤ 1048576)
def OpenSpec.upto (s : _root_.Go.ChangeSpec) : _root_.Go.OpenSpec := { _root_.Go.OpenSpec.ofChange s with cond := some uptoSmall }

/-- 'linkboylaw27.SyncNew', WHERE WHAT IT READS IS OF BULK AT MOST 1048576: true; the input reads as it did. -/
def syncNewUptoRow : OpenClaim := { program := "ytinijohmcofhmaagreatdoor", sum := "98a406aa7bb797365427f9c3ecca17b059eda6c8ec498de4d90db91b9288c19c", func := "linkboy/linkboylaw27.SyncNew", spec := "syncNew", inPlace := ["internal/bytealg.IndexByteString", "internal/bytealg.IndexString", "maps.clone", "internal/bytealg.Compare", "internal/reflectlite.TypeOf"], unfollowed := true, recurses := true, named := ["linkboy/api.ErrName", "unicode/utf8.first", "unicode/utf8.acceptRanges", "linkboy/api.ErrNone", "linkboy/api.ErrRange", "linkboy/api.ErrState", "linkboy/api.ErrFull", "linkboy/api.ErrDup", "linkboy/api.ErrForm", "linkboy/api.ErrAddress", "linkboy/api.ErrFail", "linkboy/api.ErrKind", "linkboy/api.ErrShort", "linkboy/api.ErrLong", "linkboy/api.ErrSum", "linkboy/api.ErrVersion", "linkboy/api.ErrStale", "linkboy/api.ErrDown", "linkboy/api.ErrProto", "linkboy/api.ErrIndex", "internal/bytealg.MaxLen"], plainKeys := false, apart := false, laid := [("unicode/utf8.acceptRanges", laid_unicode_utf8_acceptRanges), ("linkboy/api.ErrRange", laid_linkboy_api_ErrRange), ("linkboy/api.ErrShort", laid_linkboy_api_ErrShort), ("linkboy/api.ErrLong", laid_linkboy_api_ErrLong), ("linkboy/api.ErrForm", laid_linkboy_api_ErrForm), ("linkboy/api.ErrSum", laid_linkboy_api_ErrSum), ("linkboy/api.ErrName", laid_linkboy_api_ErrName), ("linkboy/api.ErrKind", laid_linkboy_api_ErrKind), ("linkboy/api.ErrAddress", laid_linkboy_api_ErrAddress), ("linkboy/api.ErrVersion", laid_linkboy_api_ErrVersion), ("linkboy/api.ErrStale", laid_linkboy_api_ErrStale), ("linkboy/api.ErrNone", laid_linkboy_api_ErrNone), ("linkboy/api.ErrDup", laid_linkboy_api_ErrDup), ("linkboy/api.ErrFull", laid_linkboy_api_ErrFull), ("linkboy/api.ErrFail", laid_linkboy_api_ErrFail), ("linkboy/api.ErrState", laid_linkboy_api_ErrState), ("linkboy/api.ErrDown", laid_linkboy_api_ErrDown), ("linkboy/api.ErrProto", laid_linkboy_api_ErrProto), ("linkboy/api.ErrIndex", laid_linkboy_api_ErrIndex), ("unicode/utf8.first", laid_unicode_utf8_first)], narrowed := true }
def SyncNewUptoSaid : Prop := syncNewUptoRow.holds Tryz.pinned (OpenSpec.upto syncNewSpec)

end Rows
end Go.Proofs.YtinijohmcofhmaaGreatDoor
