/- Which sizes may be, as the program and the document's reference tell it: each of the two functions run at every size. -/
import Derived.Test.YtinijohmcofhmaaGreatDoorRun
namespace Go.Proofs.YtinijohmcofhmaaGreatDoor.sy
open Go Lb

def szB (n : Nat) : Bool := [2, 3, 5, 7, 11, 13, 17, 19, 23, 29, 31, 37, 41, 43, 47, 53, 59, 61, 67, 71, 73, 79, 83, 89, 97, 101, 103, 107, 109, 113, 127, 131, 137, 139, 149, 151, 157, 163, 167, 173, 179, 181, 191, 193, 197, 199, 211, 223, 227, 229, 233, 239, 241, 251].contains n
def sz : Int → Bool
  | .ofNat m => decide (m < 252) && szB m
  | .negSucc _ => false

/- The code of the five functions that tell it. -/
def f8 : RFn := ⟨9, [.tmp 2], (.seq (.region [⟨(some 2), .mv (.c (.v (.bool false))), none, 0, false⟩] false) (.seq (.region [⟨(some 3), .mv (.t 0), none, 0, false⟩, ⟨(some 4), .bin .leq (.t 3) (.c (.v (.int .i64 251))), none, 0, false⟩, ⟨(some 5), .mv (.t 4), none, 0, false⟩, ⟨(some 6), .mv (.t 0), (some (5, true)), 0, false⟩, ⟨(some 7), .call 18 [(.t 6)], (some (5, true)), 0, false⟩, ⟨(some 8), .pick (.t 5) (.t 7) (.c (.v (.bool false))), none, 0, false⟩, ⟨(some 2), .mv (.t 8), none, 0, false⟩] false) .ret))⟩
def f18 : RFn := ⟨26, [.tmp 2], (.seq (.region [⟨(some 2), .mv (.c (.v (.bool false))), none, 0, false⟩] false) (.seq (.seq (.region [⟨(some 4), .mv (.t 0), none, 0, false⟩, ⟨(some 5), .bin .lss (.t 4) (.c (.v (.int .i64 2))), none, 0, false⟩, ⟨(some 6), .mv (.t 5), none, 0, false⟩, ⟨(some 7), .mv (.t 0), (some (6, false)), 0, false⟩, ⟨(some 8), .bin .gtr (.t 7) (.c (.v (.int .i64 2147483648))), (some (6, false)), 0, false⟩, ⟨(some 9), .pick (.t 6) (.c (.v (.bool true))) (.t 8), none, 0, false⟩] false) (.cond (.t 9) (.seq (.region [⟨(some 2), .mv (.c (.v (.bool false))), none, 0, false⟩] false) .ret) .skip)) (.seq (.seq (.region [⟨(some 10), .mv (.t 0), none, 0, false⟩, ⟨(some 11), .bin .rem (.t 10) (.c (.v (.int .i64 2))), none, 0, false⟩, ⟨(some 12), .bin .eql (.t 11) (.c (.v (.int .i64 0))), none, 0, false⟩] false) (.cond (.t 12) (.seq (.region [⟨(some 13), .mv (.t 0), none, 0, false⟩, ⟨(some 14), .bin .eql (.t 13) (.c (.v (.int .i64 2))), none, 0, false⟩, ⟨(some 2), .mv (.t 14), none, 0, false⟩] false) .ret) .skip)) (.seq (.seq (.region [⟨(some 3), .mv (.c (.v (.int .i64 3))), none, 0, false⟩] false) (.block 0 (.loop (.seq (.seq (.region [⟨(some 15), .mv (.t 3), none, 0, false⟩, ⟨(some 16), .mv (.t 3), none, 0, false⟩, ⟨(some 17), .bin .mul (.t 15) (.t 16), none, 0, false⟩, ⟨(some 18), .mv (.t 0), none, 0, false⟩, ⟨(some 19), .bin .leq (.t 17) (.t 18), none, 0, false⟩] false) (.cond (.t 19) .skip (.exit 0))) (.seq (.block 1 (.seq (.region [⟨(some 22), .mv (.t 0), none, 0, false⟩, ⟨(some 23), .mv (.t 3), none, 0, false⟩, ⟨(some 24), .bin .rem (.t 22) (.t 23), none, 0, false⟩, ⟨(some 25), .bin .eql (.t 24) (.c (.v (.int .i64 0))), none, 0, false⟩] false) (.cond (.t 25) (.seq (.region [⟨(some 2), .mv (.c (.v (.bool false))), none, 0, false⟩] false) .ret) .skip))) (.region [⟨(some 20), .mv (.t 3), none, 0, false⟩, ⟨(some 21), .bin .add (.t 20) (.c (.v (.int .i64 2))), none, 0, false⟩, ⟨(some 3), .mv (.t 21), none, 0, false⟩] false)))))) (.seq (.region [⟨(some 2), .mv (.c (.v (.bool true))), none, 0, false⟩] false) .ret)))))⟩
def f16 : RFn := ⟨9, [.tmp 2], (.seq (.region [⟨(some 2), .mv (.c (.v (.bool false))), none, 0, false⟩] false) (.seq (.region [⟨(some 3), .mv (.t 0), none, 0, false⟩, ⟨(some 4), .bin .leq (.t 3) (.c (.v (.int .i64 251))), none, 0, false⟩, ⟨(some 5), .mv (.t 4), none, 0, false⟩, ⟨(some 6), .mv (.t 0), (some (5, true)), 0, false⟩, ⟨(some 7), .call 37 [(.t 6)], (some (5, true)), 0, false⟩, ⟨(some 8), .pick (.t 5) (.t 7) (.c (.v (.bool false))), none, 0, false⟩, ⟨(some 2), .mv (.t 8), none, 0, false⟩] false) .ret))⟩
def f37 : RFn := ⟨11, [.tmp 2], (.seq (.region [⟨(some 2), .mv (.c (.v (.bool false))), none, 0, false⟩] false) (.seq (.region [⟨(some 3), .mv (.t 0), none, 0, false⟩, ⟨(some 4), .bin .gtr (.t 3) (.c (.v (.int .i64 1))), none, 0, false⟩, ⟨(some 5), .mv (.t 4), none, 0, false⟩, ⟨(some 6), .mv (.t 0), (some (5, true)), 0, false⟩, ⟨(some 7), .call 88 [(.t 6)], (some (5, true)), 0, false⟩, ⟨(some 8), .mv (.t 0), (some (5, true)), 0, false⟩, ⟨(some 9), .bin .eql (.t 7) (.t 8), (some (5, true)), 0, false⟩, ⟨(some 10), .pick (.t 5) (.t 9) (.c (.v (.bool false))), none, 0, false⟩, ⟨(some 2), .mv (.t 10), none, 0, false⟩] false) .ret))⟩
def f88 : RFn := ⟨23, [.tmp 2], (.seq (.region [⟨(some 2), .mv (.c (.v (.int .i64 0))), none, 0, false⟩] false) (.seq (.seq (.region [⟨(some 4), .mv (.t 0), none, 0, false⟩, ⟨(some 5), .bin .lss (.t 4) (.c (.v (.int .i64 2))), none, 0, false⟩, ⟨(some 6), .mv (.t 5), none, 0, false⟩, ⟨(some 7), .mv (.t 0), (some (6, false)), 0, false⟩, ⟨(some 8), .bin .gtr (.t 7) (.c (.v (.int .i64 2147483648))), (some (6, false)), 0, false⟩, ⟨(some 9), .pick (.t 6) (.c (.v (.bool true))) (.t 8), none, 0, false⟩] false) (.cond (.t 9) (.seq (.region [⟨(some 2), .mv (.c (.v (.int .i64 0))), none, 0, false⟩] false) .ret) .skip)) (.seq (.seq (.region [⟨(some 3), .mv (.c (.v (.int .i64 2))), none, 0, false⟩] false) (.block 0 (.loop (.seq (.seq (.region [⟨(some 10), .mv (.t 3), none, 0, false⟩, ⟨(some 11), .mv (.t 3), none, 0, false⟩, ⟨(some 12), .bin .mul (.t 10) (.t 11), none, 0, false⟩, ⟨(some 13), .mv (.t 0), none, 0, false⟩, ⟨(some 14), .bin .leq (.t 12) (.t 13), none, 0, false⟩] false) (.cond (.t 14) .skip (.exit 0))) (.seq (.block 1 (.seq (.region [⟨(some 17), .mv (.t 0), none, 0, false⟩, ⟨(some 18), .mv (.t 3), none, 0, false⟩, ⟨(some 19), .bin .rem (.t 17) (.t 18), none, 0, false⟩, ⟨(some 20), .bin .eql (.t 19) (.c (.v (.int .i64 0))), none, 0, false⟩] false) (.cond (.t 20) (.seq (.region [⟨(some 21), .mv (.t 3), none, 0, false⟩, ⟨(some 2), .mv (.t 21), none, 0, false⟩] false) .ret) .skip))) (.region [⟨(some 15), .mv (.t 3), none, 0, false⟩, ⟨(some 16), .bin .add (.t 15) (.c (.v (.int .i64 1))), none, 0, false⟩, ⟨(some 3), .mv (.t 16), none, 0, false⟩] false)))))) (.seq (.region [⟨(some 22), .mv (.t 0), none, 0, false⟩, ⟨(some 2), .mv (.t 22), none, 0, false⟩] false) .ret))))⟩

def fns : Nat → Option RFn
  | 8 => some f8
  | 18 => some f18
  | 16 => some f16
  | 37 => some f37
  | 88 => some f88
  | _ => none
def Cz : Cfg := { fns := fns, orc := fun _ => none }

theorem code8 : (Tryz.prog.funcs[8]?).bind (rfn Tryz.prog) = some f8 := by kernel_rfl
theorem code18 : (Tryz.prog.funcs[18]?).bind (rfn Tryz.prog) = some f18 := by kernel_rfl
theorem code16 : (Tryz.prog.funcs[16]?).bind (rfn Tryz.prog) = some f16 := by kernel_rfl
theorem code37 : (Tryz.prog.funcs[37]?).bind (rfn Tryz.prog) = some f37 := by kernel_rfl
theorem code88 : (Tryz.prog.funcs[88]?).bind (rfn Tryz.prog) = some f88 := by kernel_rfl

def chk (f n : Nat) : Bool := match acall Cz 100 19 f [.v (.int .i64 (.ofNat n))] (baseHp 518 S) with
  | some (.v (.bool b), _) => b == szB n
  | _ => false

set_option maxRecDepth 100000
theorem all8_0 : ((List.range' 0 12).all (chk 8)) = true := by kernel_rfl
theorem all8_1 : ((List.range' 12 12).all (chk 8)) = true := by kernel_rfl
theorem all8_2 : ((List.range' 24 12).all (chk 8)) = true := by kernel_rfl
theorem all8_3 : ((List.range' 36 12).all (chk 8)) = true := by kernel_rfl
theorem all8_4 : ((List.range' 48 12).all (chk 8)) = true := by kernel_rfl
theorem all8_5 : ((List.range' 60 12).all (chk 8)) = true := by kernel_rfl
theorem all8_6 : ((List.range' 72 12).all (chk 8)) = true := by kernel_rfl
theorem all8_7 : ((List.range' 84 12).all (chk 8)) = true := by kernel_rfl
theorem all8_8 : ((List.range' 96 12).all (chk 8)) = true := by kernel_rfl
theorem all8_9 : ((List.range' 108 12).all (chk 8)) = true := by kernel_rfl
theorem all8_10 : ((List.range' 120 12).all (chk 8)) = true := by kernel_rfl
theorem all8_11 : ((List.range' 132 12).all (chk 8)) = true := by kernel_rfl
theorem all8_12 : ((List.range' 144 12).all (chk 8)) = true := by kernel_rfl
theorem all8_13 : ((List.range' 156 12).all (chk 8)) = true := by kernel_rfl
theorem all8_14 : ((List.range' 168 12).all (chk 8)) = true := by kernel_rfl
theorem all8_15 : ((List.range' 180 12).all (chk 8)) = true := by kernel_rfl
theorem all8_16 : ((List.range' 192 12).all (chk 8)) = true := by kernel_rfl
theorem all8_17 : ((List.range' 204 12).all (chk 8)) = true := by kernel_rfl
theorem all8_18 : ((List.range' 216 12).all (chk 8)) = true := by kernel_rfl
theorem all8_19 : ((List.range' 228 12).all (chk 8)) = true := by kernel_rfl
theorem all8_20 : ((List.range' 240 12).all (chk 8)) = true := by kernel_rfl
theorem all8 (n : Nat) (hn : n < 252) : chk 8 n = true := by
  by_cases h0 : n < 12
  · exact List.all_eq_true.1 all8_0 n (List.mem_range'_1.2 ⟨by omega, by omega⟩)
  by_cases h1 : n < 24
  · exact List.all_eq_true.1 all8_1 n (List.mem_range'_1.2 ⟨by omega, by omega⟩)
  by_cases h2 : n < 36
  · exact List.all_eq_true.1 all8_2 n (List.mem_range'_1.2 ⟨by omega, by omega⟩)
  by_cases h3 : n < 48
  · exact List.all_eq_true.1 all8_3 n (List.mem_range'_1.2 ⟨by omega, by omega⟩)
  by_cases h4 : n < 60
  · exact List.all_eq_true.1 all8_4 n (List.mem_range'_1.2 ⟨by omega, by omega⟩)
  by_cases h5 : n < 72
  · exact List.all_eq_true.1 all8_5 n (List.mem_range'_1.2 ⟨by omega, by omega⟩)
  by_cases h6 : n < 84
  · exact List.all_eq_true.1 all8_6 n (List.mem_range'_1.2 ⟨by omega, by omega⟩)
  by_cases h7 : n < 96
  · exact List.all_eq_true.1 all8_7 n (List.mem_range'_1.2 ⟨by omega, by omega⟩)
  by_cases h8 : n < 108
  · exact List.all_eq_true.1 all8_8 n (List.mem_range'_1.2 ⟨by omega, by omega⟩)
  by_cases h9 : n < 120
  · exact List.all_eq_true.1 all8_9 n (List.mem_range'_1.2 ⟨by omega, by omega⟩)
  by_cases h10 : n < 132
  · exact List.all_eq_true.1 all8_10 n (List.mem_range'_1.2 ⟨by omega, by omega⟩)
  by_cases h11 : n < 144
  · exact List.all_eq_true.1 all8_11 n (List.mem_range'_1.2 ⟨by omega, by omega⟩)
  by_cases h12 : n < 156
  · exact List.all_eq_true.1 all8_12 n (List.mem_range'_1.2 ⟨by omega, by omega⟩)
  by_cases h13 : n < 168
  · exact List.all_eq_true.1 all8_13 n (List.mem_range'_1.2 ⟨by omega, by omega⟩)
  by_cases h14 : n < 180
  · exact List.all_eq_true.1 all8_14 n (List.mem_range'_1.2 ⟨by omega, by omega⟩)
  by_cases h15 : n < 192
  · exact List.all_eq_true.1 all8_15 n (List.mem_range'_1.2 ⟨by omega, by omega⟩)
  by_cases h16 : n < 204
  · exact List.all_eq_true.1 all8_16 n (List.mem_range'_1.2 ⟨by omega, by omega⟩)
  by_cases h17 : n < 216
  · exact List.all_eq_true.1 all8_17 n (List.mem_range'_1.2 ⟨by omega, by omega⟩)
  by_cases h18 : n < 228
  · exact List.all_eq_true.1 all8_18 n (List.mem_range'_1.2 ⟨by omega, by omega⟩)
  by_cases h19 : n < 240
  · exact List.all_eq_true.1 all8_19 n (List.mem_range'_1.2 ⟨by omega, by omega⟩)
  by_cases h20 : n < 252
  · exact List.all_eq_true.1 all8_20 n (List.mem_range'_1.2 ⟨by omega, by omega⟩)
  omega
theorem all16_0 : ((List.range' 0 12).all (chk 16)) = true := by kernel_rfl
theorem all16_1 : ((List.range' 12 12).all (chk 16)) = true := by kernel_rfl
theorem all16_2 : ((List.range' 24 12).all (chk 16)) = true := by kernel_rfl
theorem all16_3 : ((List.range' 36 12).all (chk 16)) = true := by kernel_rfl
theorem all16_4 : ((List.range' 48 12).all (chk 16)) = true := by kernel_rfl
theorem all16_5 : ((List.range' 60 12).all (chk 16)) = true := by kernel_rfl
theorem all16_6 : ((List.range' 72 12).all (chk 16)) = true := by kernel_rfl
theorem all16_7 : ((List.range' 84 12).all (chk 16)) = true := by kernel_rfl
theorem all16_8 : ((List.range' 96 12).all (chk 16)) = true := by kernel_rfl
theorem all16_9 : ((List.range' 108 12).all (chk 16)) = true := by kernel_rfl
theorem all16_10 : ((List.range' 120 12).all (chk 16)) = true := by kernel_rfl
theorem all16_11 : ((List.range' 132 12).all (chk 16)) = true := by kernel_rfl
theorem all16_12 : ((List.range' 144 12).all (chk 16)) = true := by kernel_rfl
theorem all16_13 : ((List.range' 156 12).all (chk 16)) = true := by kernel_rfl
theorem all16_14 : ((List.range' 168 12).all (chk 16)) = true := by kernel_rfl
theorem all16_15 : ((List.range' 180 12).all (chk 16)) = true := by kernel_rfl
theorem all16_16 : ((List.range' 192 12).all (chk 16)) = true := by kernel_rfl
theorem all16_17 : ((List.range' 204 12).all (chk 16)) = true := by kernel_rfl
theorem all16_18 : ((List.range' 216 12).all (chk 16)) = true := by kernel_rfl
theorem all16_19 : ((List.range' 228 12).all (chk 16)) = true := by kernel_rfl
theorem all16_20 : ((List.range' 240 12).all (chk 16)) = true := by kernel_rfl
theorem all16 (n : Nat) (hn : n < 252) : chk 16 n = true := by
  by_cases h0 : n < 12
  · exact List.all_eq_true.1 all16_0 n (List.mem_range'_1.2 ⟨by omega, by omega⟩)
  by_cases h1 : n < 24
  · exact List.all_eq_true.1 all16_1 n (List.mem_range'_1.2 ⟨by omega, by omega⟩)
  by_cases h2 : n < 36
  · exact List.all_eq_true.1 all16_2 n (List.mem_range'_1.2 ⟨by omega, by omega⟩)
  by_cases h3 : n < 48
  · exact List.all_eq_true.1 all16_3 n (List.mem_range'_1.2 ⟨by omega, by omega⟩)
  by_cases h4 : n < 60
  · exact List.all_eq_true.1 all16_4 n (List.mem_range'_1.2 ⟨by omega, by omega⟩)
  by_cases h5 : n < 72
  · exact List.all_eq_true.1 all16_5 n (List.mem_range'_1.2 ⟨by omega, by omega⟩)
  by_cases h6 : n < 84
  · exact List.all_eq_true.1 all16_6 n (List.mem_range'_1.2 ⟨by omega, by omega⟩)
  by_cases h7 : n < 96
  · exact List.all_eq_true.1 all16_7 n (List.mem_range'_1.2 ⟨by omega, by omega⟩)
  by_cases h8 : n < 108
  · exact List.all_eq_true.1 all16_8 n (List.mem_range'_1.2 ⟨by omega, by omega⟩)
  by_cases h9 : n < 120
  · exact List.all_eq_true.1 all16_9 n (List.mem_range'_1.2 ⟨by omega, by omega⟩)
  by_cases h10 : n < 132
  · exact List.all_eq_true.1 all16_10 n (List.mem_range'_1.2 ⟨by omega, by omega⟩)
  by_cases h11 : n < 144
  · exact List.all_eq_true.1 all16_11 n (List.mem_range'_1.2 ⟨by omega, by omega⟩)
  by_cases h12 : n < 156
  · exact List.all_eq_true.1 all16_12 n (List.mem_range'_1.2 ⟨by omega, by omega⟩)
  by_cases h13 : n < 168
  · exact List.all_eq_true.1 all16_13 n (List.mem_range'_1.2 ⟨by omega, by omega⟩)
  by_cases h14 : n < 180
  · exact List.all_eq_true.1 all16_14 n (List.mem_range'_1.2 ⟨by omega, by omega⟩)
  by_cases h15 : n < 192
  · exact List.all_eq_true.1 all16_15 n (List.mem_range'_1.2 ⟨by omega, by omega⟩)
  by_cases h16 : n < 204
  · exact List.all_eq_true.1 all16_16 n (List.mem_range'_1.2 ⟨by omega, by omega⟩)
  by_cases h17 : n < 216
  · exact List.all_eq_true.1 all16_17 n (List.mem_range'_1.2 ⟨by omega, by omega⟩)
  by_cases h18 : n < 228
  · exact List.all_eq_true.1 all16_18 n (List.mem_range'_1.2 ⟨by omega, by omega⟩)
  by_cases h19 : n < 240
  · exact List.all_eq_true.1 all16_19 n (List.mem_range'_1.2 ⟨by omega, by omega⟩)
  by_cases h20 : n < 252
  · exact List.all_eq_true.1 all16_20 n (List.mem_range'_1.2 ⟨by omega, by omega⟩)
  omega
theorem neg8 : ∀ m : Nat, (acall Cz 100 19 8 [.v (.int .i64 (.negSucc m))] (baseHp 518 S)).map (·.1) = some (.v (.bool false))
  | 0 => by kernel_rfl
  | m + 1 => by kernel_rfl
theorem neg16 : ∀ m : Nat, (acall Cz 100 19 16 [.v (.int .i64 (.negSucc m))] (baseHp 518 S)).map (·.1) = some (.v (.bool false))
  | 0 => by kernel_rfl
  | m + 1 => by kernel_rfl
theorem big8 (m : Nat) : (acall Cz 100 19 8 [.v (.int .i64 (.ofNat (m + 252)))] (baseHp 518 S)).map (·.1) = some (.v (.bool false)) := by kernel_rfl
theorem big16 (m : Nat) : (acall Cz 100 19 16 [.v (.int .i64 (.ofNat (m + 252)))] (baseHp 518 S)).map (·.1) = some (.v (.bool false)) := by kernel_rfl

theorem chk_run {f n : Nat} (h : chk f n = true) : (acall Cz 100 19 f [.v (.int .i64 (.ofNat n))] (baseHp 518 S)).map (·.1) = some (.v (.bool (szB n))) := by
  unfold chk at h
  split at h
  · rename_i b hp e
    rw [e]
    have : b = szB n := by simpa using h
    rw [this]; rfl
  · cases h

theorem sized_run {f : Nat} (ha : ∀ n : Nat, n < 252 → chk f n = true) (hn : ∀ m : Nat, (acall Cz 100 19 f [.v (.int .i64 (.negSucc m))] (baseHp 518 S)).map (·.1) = some (.v (.bool false)))
    (hb : ∀ m : Nat, (acall Cz 100 19 f [.v (.int .i64 (.ofNat (m + 252)))] (baseHp 518 S)).map (·.1) = some (.v (.bool false))) (n : Int) :
    (acall Cz 100 19 f [.v (.int .i64 n)] (baseHp 518 S)).map (·.1) = some (.v (.bool (sz n))) := by
  cases n with
  | negSucc m => exact hn m
  | ofNat m =>
    by_cases h : m < 252
    · rw [chk_run (ha m h)]
      simp [sz, h]
    · obtain ⟨k, rfl⟩ : ∃ k, m = k + 252 := ⟨m - 252, by omega⟩
      rw [hb k]
      have e : decide (k + 252 < 252) = false := decide_eq_false (by omega)
      show _ = some (L.v (.bool (decide (k + 252 < 252) && szB (k + 252))))
      rw [e]; rfl
end Go.Proofs.YtinijohmcofhmaaGreatDoor.sy
