/- The code of the functions that these laws reach, compiled for the pure evaluator (printed by program), each held against the given program by the kernel. -/
import Derived.Test.YtpbcjmgjdiiafaaChecked
import Derived.KernelRfl
import Derived.Test.YtpbcjmgjdiiafaaPvSound
set_option linter.all false
namespace Go.Proofs.Ytpbcjmgjdiiafaa
open Pv Go

def tab0 : ByteArray := ⟨#[0, 1, 2, 2, 3, 3, 3, 3, 4, 4, 4, 4, 4, 4, 4, 4, 5, 5, 5, 5, 5, 5, 5, 5, 5, 5, 5, 5, 5, 5, 5, 5, 6, 6, 6, 6, 6, 6, 6, 6, 6, 6, 6, 6, 6, 6, 6, 6, 6, 6, 6, 6, 6, 6, 6, 6, 6, 6, 6, 6, 6, 6, 6, 6, 7, 7, 7, 7, 7, 7, 7, 7, 7, 7, 7, 7, 7, 7, 7, 7, 7, 7, 7, 7, 7, 7, 7, 7, 7, 7, 7, 7, 7, 7, 7, 7, 7, 7, 7, 7, 7, 7, 7, 7, 7, 7, 7, 7, 7, 7, 7, 7, 7, 7, 7, 7, 7, 7, 7, 7, 7, 7, 7, 7, 7, 7, 7, 7, 8, 8, 8, 8, 8, 8, 8, 8, 8, 8, 8, 8, 8, 8, 8, 8, 8, 8, 8, 8, 8, 8, 8, 8, 8, 8, 8, 8, 8, 8, 8, 8, 8, 8, 8, 8, 8, 8, 8, 8, 8, 8, 8, 8, 8, 8, 8, 8, 8, 8, 8, 8, 8, 8, 8, 8, 8, 8, 8, 8, 8, 8, 8, 8, 8, 8, 8, 8, 8, 8, 8, 8, 8, 8, 8, 8, 8, 8, 8, 8, 8, 8, 8, 8, 8, 8, 8, 8, 8, 8, 8, 8, 8, 8, 8, 8, 8, 8, 8, 8, 8, 8, 8, 8, 8, 8, 8, 8, 8, 8, 8, 8, 8, 8, 8, 8, 8, 8, 8, 8, 8, 8, 8, 8, 8, 8, 8, 8]⟩
/-- paddock/paddocklaw2.StrawGrows -/
def h3 : Hints := { kp := [(0, [0, 1, 2]), (1, [0, 1, 2]), (2, []), (3, [0, 1, 2]), (4, [2, 7, 8]), (5, [2, 7, 8]), (6, [2, 7, 8]), (7, []), (8, [7])], lkp := [], lth := [] }
def c3 : ACode :=
 .seq (.region (some [0, 1, 2]) [⟨(some 6), .mv (.c (.d (.b false))), none⟩] [])
 (.seq (.seq (.region (some [0, 1, 2]) [⟨(some 9), .call (.f 9) [], none⟩,
   ⟨(some 10), .un .not (.t 9), none⟩] [])
 (.cond (.t 10) (.seq (.region (some []) [⟨(some 6), .mv (.c (.d (.b false))), none⟩] [])
  (.ret)) (.skip)))
 (.seq (.region (some [0, 1, 2]) [⟨(some 11), .mv (.t 0), none⟩,
   ⟨(some 12), .bin .rem (.t 11) (.c (.d (.i .u32 65536))), none⟩,
   ⟨(some 13), .bin .add (.t 12) (.c (.d (.i .u32 1))), none⟩,
   ⟨(some 14), .mv (.t 1), none⟩,
   ⟨(some 15), .bin .rem (.t 14) (.c (.d (.i .u32 65536))), none⟩,
   ⟨(some 16), .bin .add (.t 15) (.c (.d (.i .u32 1))), none⟩,
   ⟨(some 7), .mv (.t 13), none⟩,
   ⟨(some 8), .mv (.t 16), none⟩] [])
 (.seq (.seq (.region (some [2, 7, 8]) [⟨(some 17), .mv (.t 7), none⟩,
   ⟨(some 18), .mv (.t 8), none⟩,
   ⟨(some 19), .bin .gtr (.t 17) (.t 18), none⟩] [])
 (.cond (.t 19) (.region (some [2, 7, 8]) [⟨(some 20), .mv (.t 8), none⟩,
    ⟨(some 21), .mv (.t 7), none⟩,
    ⟨(some 7), .mv (.t 20), none⟩,
    ⟨(some 8), .mv (.t 21), none⟩] []) (.skip)))
 (.seq (.seq (.region (some [2, 7, 8]) [⟨(some 22), .mv (.t 7), none⟩,
   ⟨(some 23), .call (.f 10) [.t 22], none⟩,
   ⟨(some 24), .mv (.t 8), none⟩,
   ⟨(some 25), .call (.f 10) [.t 24], none⟩,
   ⟨(some 26), .bin .gtr (.t 23) (.t 25), none⟩,
   ⟨(some 27), .mv (.t 26), none⟩,
   ⟨(some 28), .mv (.t 2), some (27, false)⟩,
   ⟨(some 29), .bin .rem (.t 28) (.c (.d (.i .u8 17))), some (27, false)⟩,
   ⟨(some 30), .bin .shl (.c (.d (.i .u32 1))) (.t 29), some (27, false)⟩,
   ⟨(some 31), .call (.f 10) [.t 30], some (27, false)⟩,
   ⟨(some 32), .mv (.t 2), some (27, false)⟩,
   ⟨(some 33), .bin .rem (.t 32) (.c (.d (.i .u8 17))), some (27, false)⟩,
   ⟨(some 34), .conv .i64 (.t 33), some (27, false)⟩,
   ⟨(some 35), .bin .shl (.t 34) (.c (.d (.i .u64 16))), some (27, false)⟩,
   ⟨(some 36), .bin .neq (.t 31) (.t 35), some (27, false)⟩,
   ⟨(some 37), .pick (.t 27) (.c (.d (.b true))) (.t 36), none⟩,
   ⟨(some 38), .mv (.t 37), none⟩,
   ⟨(some 39), .call (.f 10) [.c (.d (.i .u32 0))], some (38, false)⟩,
   ⟨(some 40), .bin .neq (.t 39) (.c (.d (.i .i64 0))), some (38, false)⟩,
   ⟨(some 41), .pick (.t 38) (.c (.d (.b true))) (.t 40), none⟩,
   ⟨(some 42), .mv (.t 41), none⟩,
   ⟨(some 43), .call (.f 10) [.c (.d (.i .u32 70000))], some (42, false)⟩,
   ⟨(some 44), .bin .neq (.t 43) (.c (.d (.i .i64 1048576))), some (42, false)⟩,
   ⟨(some 45), .pick (.t 42) (.c (.d (.b true))) (.t 44), none⟩] [])
 (.cond (.t 45) (.seq (.region (some []) [⟨(some 6), .mv (.c (.d (.b false))), none⟩] [])
  (.ret)) (.skip)))
 (.seq (.region (some [7]) [⟨(some 46), .mv (.t 7), none⟩,
   ⟨(some 47), .bin .gtr (.t 46) (.c (.d (.i .u32 32768))), none⟩,
   ⟨(some 48), .mv (.t 47), none⟩,
   ⟨(some 49), .mv (.t 7), some (48, false)⟩,
   ⟨(some 50), .bin .mul (.c (.d (.i .u32 2))) (.t 49), some (48, false)⟩,
   ⟨(some 51), .call (.f 10) [.t 50], some (48, false)⟩,
   ⟨(some 52), .mv (.t 7), some (48, false)⟩,
   ⟨(some 53), .call (.f 10) [.t 52], some (48, false)⟩,
   ⟨(some 54), .bin .add (.t 53) (.c (.d (.i .i64 65536))), some (48, false)⟩,
   ⟨(some 55), .bin .eql (.t 51) (.t 54), some (48, false)⟩,
   ⟨(some 56), .pick (.t 48) (.c (.d (.b true))) (.t 55), none⟩,
   ⟨(some 6), .mv (.t 56), none⟩] [])
 (.ret))))))
def a3 : AFn := .code 3 c3 [.tmp 6]
set_option maxRecDepth 100000 in
theorem k3 : compF Try.prog h3 3 = some a3 := by kernel_rfl

/-- paddock/paddocklaw2.StrawBest -/
def h4 : Hints := { kp := [(0, [0]), (1, [0]), (2, []), (3, [0]), (4, []), (5, [0]), (6, [0, 3]), (7, [3]), (8, [0, 3]), (9, []), (10, [0, 3]), (11, [0, 3, 4]), (13, [0, 3, 4]), (14, []), (12, [0, 3, 4]), (15, [])], lkp := [(11, [0, 3, 4])], lth := [] }
def c4 : ACode :=
 .seq (.region (some [0]) [⟨(some 2), .mv (.c (.d (.b false))), none⟩] [])
 (.seq (.seq (.region (some [0]) [⟨(some 5), .call (.f 9) [], none⟩,
   ⟨(some 6), .un .not (.t 5), none⟩] [])
 (.cond (.t 6) (.seq (.region (some []) [⟨(some 2), .mv (.c (.d (.b false))), none⟩] [])
  (.ret)) (.skip)))
 (.seq (.seq (.region (some [0]) [⟨(some 7), .mv (.t 0), none⟩,
   ⟨(some 8), .len false (.t 7), none⟩,
   ⟨(some 9), .bin .gtr (.t 8) (.c (.d (.i .i64 60))), none⟩] [])
 (.cond (.t 9) (.seq (.region (some []) [⟨(some 2), .mv (.c (.d (.b true))), none⟩] [])
  (.ret)) (.skip)))
 (.seq (.region (some [0]) [⟨(some 10), .mv (.t 0), none⟩,
   ⟨(some 11), .call (.f 11) [.t 10], none⟩,
   ⟨(some 3), .mv (.t 11), none⟩] [])
 (.seq (.seq (.region (some [0, 3]) [⟨(some 12), .mv (.t 0), none⟩,
   ⟨(some 13), .len false (.t 12), none⟩,
   ⟨(some 14), .bin .eql (.t 13) (.c (.d (.i .i64 0))), none⟩] [])
 (.cond (.t 14) (.seq (.region (some [3]) [⟨(some 15), .mv (.t 3), none⟩,
    ⟨(some 16), .bin .eql (.t 15) (.c (.d (.i .i64 (-1)))), none⟩,
    ⟨(some 2), .mv (.t 16), none⟩] [])
  (.ret)) (.skip)))
 (.seq (.seq (.region (some [0, 3]) [⟨(some 17), .mv (.t 3), none⟩,
   ⟨(some 18), .bin .lss (.t 17) (.c (.d (.i .i64 0))), none⟩,
   ⟨(some 19), .mv (.t 18), none⟩,
   ⟨(some 20), .mv (.t 3), some (19, false)⟩,
   ⟨(some 21), .mv (.t 0), some (19, false)⟩,
   ⟨(some 22), .len false (.t 21), some (19, false)⟩,
   ⟨(some 23), .bin .geq (.t 20) (.t 22), some (19, false)⟩,
   ⟨(some 24), .pick (.t 19) (.c (.d (.b true))) (.t 23), none⟩] [])
 (.cond (.t 24) (.seq (.region (some []) [⟨(some 2), .mv (.c (.d (.b false))), none⟩] [])
  (.ret)) (.skip)))
 (.seq (.seq (.region (some [0, 3]) [⟨(some 4), .mv (.c (.d (.i .i64 0))), none⟩] [])
 (.block 0 (.loop (some [0, 3, 4]) [] (.seq (.seq (.region (some [0, 3, 4]) [⟨(some 25), .mv (.t 4), none⟩,
     ⟨(some 26), .mv (.t 0), none⟩,
     ⟨(some 27), .len false (.t 26), none⟩,
     ⟨(some 28), .bin .lss (.t 25) (.t 27), none⟩] [])
   (.cond (.t 28) (.skip) (.exit 0)))
   (.seq (.block 1 (.seq (.region (some [0, 3, 4]) [⟨(some 31), .mv (.t 0), none⟩,
      ⟨(some 32), .mv (.t 4), none⟩,
      ⟨(some 33), .iaddrS 1 (.t 31) (.t 32), none⟩,
      ⟨(some 34), .load false 1 (.t 33), none⟩,
      ⟨(some 35), .mv (.t 0), none⟩,
      ⟨(some 36), .mv (.t 3), none⟩,
      ⟨(some 37), .iaddrS 1 (.t 35) (.t 36), none⟩,
      ⟨(some 38), .load false 1 (.t 37), none⟩,
      ⟨(some 39), .bin .gtr (.t 34) (.t 38), none⟩,
      ⟨(some 40), .mv (.t 39), none⟩,
      ⟨(some 41), .mv (.t 4), some (40, false)⟩,
      ⟨(some 42), .mv (.t 3), some (40, false)⟩,
      ⟨(some 43), .bin .lss (.t 41) (.t 42), some (40, false)⟩,
      ⟨(some 44), .mv (.t 43), some (40, false)⟩,
      ⟨(some 45), .mv (.t 0), some (44, true)⟩,
      ⟨(some 46), .mv (.t 4), some (44, true)⟩,
      ⟨(some 47), .iaddrS 1 (.t 45) (.t 46), some (44, true)⟩,
      ⟨(some 48), .load false 1 (.t 47), some (44, true)⟩,
      ⟨(some 49), .mv (.t 0), some (44, true)⟩,
      ⟨(some 50), .mv (.t 3), some (44, true)⟩,
      ⟨(some 51), .iaddrS 1 (.t 49) (.t 50), some (44, true)⟩,
      ⟨(some 52), .load false 1 (.t 51), some (44, true)⟩,
      ⟨(some 53), .bin .eql (.t 48) (.t 52), some (44, true)⟩,
      ⟨(some 54), .pick (.t 44) (.t 53) (.c (.d (.b false))), some (40, false)⟩,
      ⟨(some 55), .pick (.t 40) (.c (.d (.b true))) (.t 54), none⟩] [(3, 7), (17, 21)])
    (.cond (.t 55) (.seq (.region (some []) [⟨(some 2), .mv (.c (.d (.b false))), none⟩] [])
     (.ret)) (.skip))))
   (.region (some [0, 3, 4]) [⟨(some 29), .mv (.t 4), none⟩,
     ⟨(some 30), .bin .add (.t 29) (.c (.d (.i .i64 1))), none⟩,
     ⟨(some 4), .mv (.t 30), none⟩] []))))))
 (.seq (.region (some []) [⟨(some 2), .mv (.c (.d (.b true))), none⟩] [])
 (.ret))))))))
def a4 : AFn := .code 1 c4 [.tmp 2]
set_option maxRecDepth 100000 in
theorem k4 : compF Try.prog h4 4 = some a4 := by kernel_rfl

/-- paddock/paddocklaw2.StrawSpans -/
def h5 : Hints := { kp := [(0, [0, 1]), (1, [0, 1]), (2, []), (3, [0, 1]), (4, [0, 5]), (5, [5, 6, 7]), (6, [6, 7, 8])], lkp := [], lth := [] }
def c5 : ACode :=
 .seq (.region (some [0, 1]) [⟨(some 4), .mv (.c (.d (.b false))), none⟩] [])
 (.seq (.seq (.region (some [0, 1]) [⟨(some 9), .call (.f 9) [], none⟩,
   ⟨(some 10), .un .not (.t 9), none⟩] [])
 (.cond (.t 10) (.seq (.region (some []) [⟨(some 4), .mv (.c (.d (.b false))), none⟩] [])
  (.ret)) (.skip)))
 (.seq (.region (some [0, 1]) [⟨(some 11), .mv (.t 1), none⟩,
   ⟨(some 12), .bin .rem (.t 11) (.c (.d (.i .u8 8))), none⟩,
   ⟨(some 13), .conv .i64 (.t 12), none⟩,
   ⟨(some 14), .bin .add (.t 13) (.c (.d (.i .i64 1))), none⟩,
   ⟨(some 5), .mv (.t 14), none⟩] [])
 (.seq (.region (some [0, 5]) [⟨(some 15), .mv (.t 0), none⟩,
   ⟨(some 16), .mv (.t 5), none⟩,
   ⟨(some 17), .call (.f 12) [.t 15, .t 16], none⟩,
   ⟨(some 18), .mv (.t 0), none⟩,
   ⟨(some 19), .mv (.t 5), none⟩,
   ⟨(some 20), .bin .mul (.c (.d (.i .i64 2))) (.t 19), none⟩,
   ⟨(some 21), .call (.f 12) [.t 18, .t 20], none⟩,
   ⟨(some 6), .mv (.t 17), none⟩,
   ⟨(some 7), .mv (.t 21), none⟩] [])
 (.seq (.region (some [5, 6, 7]) [⟨(some 22), .mv (.t 5), none⟩,
   ⟨(some 23), .bin .quo (.c (.d (.i .i64 4294967296))) (.t 22), none⟩,
   ⟨(some 24), .un .neg (.t 23), none⟩,
   ⟨(some 8), .mv (.t 24), none⟩] [])
 (.seq (.region (some [6, 7, 8]) [⟨(some 25), .mv (.t 6), none⟩,
   ⟨(some 26), .mv (.t 8), none⟩,
   ⟨(some 27), .bin .geq (.t 25) (.t 26), none⟩,
   ⟨(some 28), .mv (.t 27), none⟩,
   ⟨(some 29), .mv (.t 6), some (28, true)⟩,
   ⟨(some 30), .bin .leq (.t 29) (.c (.d (.i .i64 0))), some (28, true)⟩,
   ⟨(some 31), .pick (.t 28) (.t 30) (.c (.d (.b false))), none⟩,
   ⟨(some 32), .mv (.t 31), none⟩,
   ⟨(some 33), .mv (.t 6), some (32, true)⟩,
   ⟨(some 34), .mv (.t 7), some (32, true)⟩,
   ⟨(some 35), .bin .mul (.c (.d (.i .i64 2))) (.t 34), some (32, true)⟩,
   ⟨(some 36), .bin .sub (.t 33) (.t 35), some (32, true)⟩,
   ⟨(some 37), .bin .leq (.t 36) (.c (.d (.i .i64 1))), some (32, true)⟩,
   ⟨(some 38), .pick (.t 32) (.t 37) (.c (.d (.b false))), none⟩,
   ⟨(some 39), .mv (.t 38), none⟩,
   ⟨(some 40), .mv (.t 6), some (39, true)⟩,
   ⟨(some 41), .mv (.t 7), some (39, true)⟩,
   ⟨(some 42), .bin .mul (.c (.d (.i .i64 2))) (.t 41), some (39, true)⟩,
   ⟨(some 43), .bin .sub (.t 40) (.t 42), some (39, true)⟩,
   ⟨(some 44), .bin .geq (.t 43) (.c (.d (.i .i64 (-1)))), some (39, true)⟩,
   ⟨(some 45), .pick (.t 39) (.t 44) (.c (.d (.b false))), none⟩,
   ⟨(some 4), .mv (.t 45), none⟩] [])
 (.ret))))))
def a5 : AFn := .code 2 c5 [.tmp 4]
set_option maxRecDepth 100000 in
theorem k5 : compF Try.prog h5 5 = some a5 := by kernel_rfl

/-- paddock/paddocklaw2.StrawTells -/
def h6 : Hints := { kp := [(0, [0, 1, 2, 3, 4, 5]), (1, [0, 1, 2, 3, 4, 5]), (2, []), (3, [0, 1, 2, 3, 4, 5]), (4, [0, 1, 2]), (5, [0, 1, 2, 3, 4, 5])], lkp := [], lth := [] }
def c6 : ACode :=
 .seq (.region (some [0, 1, 2, 3, 4, 5]) [⟨(some 12), .mv (.c (.d (.b false))), none⟩] [])
 (.seq (.seq (.region (some [0, 1, 2, 3, 4, 5]) [⟨(some 13), .call (.f 9) [], none⟩,
   ⟨(some 14), .un .not (.t 13), none⟩] [])
 (.cond (.t 14) (.seq (.region (some []) [⟨(some 12), .mv (.c (.d (.b false))), none⟩] [])
  (.ret)) (.skip)))
 (.seq (.seq (.region (some [0, 1, 2, 3, 4, 5]) [⟨(some 15), .mv (.t 4), none⟩,
   ⟨(some 16), .bin .lss (.t 15) (.c (.d (.i .i64 0))), none⟩,
   ⟨(some 17), .mv (.t 16), none⟩,
   ⟨(some 18), .mv (.t 4), some (17, false)⟩,
   ⟨(some 19), .bin .gtr (.t 18) (.c (.d (.i .i64 1000))), some (17, false)⟩,
   ⟨(some 20), .pick (.t 17) (.c (.d (.b true))) (.t 19), none⟩,
   ⟨(some 21), .mv (.t 20), none⟩,
   ⟨(some 22), .mv (.t 5), some (21, false)⟩,
   ⟨(some 23), .bin .lss (.t 22) (.c (.d (.i .i64 0))), some (21, false)⟩,
   ⟨(some 24), .pick (.t 21) (.c (.d (.b true))) (.t 23), none⟩,
   ⟨(some 25), .mv (.t 24), none⟩,
   ⟨(some 26), .mv (.t 5), some (25, false)⟩,
   ⟨(some 27), .bin .gtr (.t 26) (.c (.d (.i .i64 1000))), some (25, false)⟩,
   ⟨(some 28), .pick (.t 25) (.c (.d (.b true))) (.t 27), none⟩] [])
 (.cond (.t 28) (.seq (.region (some [0, 1, 2]) [⟨(some 29), .mv (.t 0), none⟩,
    ⟨(some 30), .call (.f 10) [.t 29], none⟩,
    ⟨(some 31), .mv (.t 0), none⟩,
    ⟨(some 32), .call (.f 13) [.t 31], none⟩,
    ⟨(some 33), .bin .eql (.t 30) (.t 32), none⟩,
    ⟨(some 34), .mv (.t 33), none⟩,
    ⟨(some 35), .mv (.t 1), some (34, true)⟩,
    ⟨(some 36), .mv (.t 2), some (34, true)⟩,
    ⟨(some 37), .call (.f 12) [.t 35, .t 36], some (34, true)⟩,
    ⟨(some 38), .mv (.t 1), some (34, true)⟩,
    ⟨(some 39), .mv (.t 2), some (34, true)⟩,
    ⟨(some 40), .call (.f 14) [.t 38, .t 39], some (34, true)⟩,
    ⟨(some 41), .bin .eql (.t 37) (.t 40), some (34, true)⟩,
    ⟨(some 42), .pick (.t 34) (.t 41) (.c (.d (.b false))), none⟩,
    ⟨(some 12), .mv (.t 42), none⟩] [])
  (.ret)) (.skip)))
 (.seq (.region (some [0, 1, 2, 3, 4, 5]) [⟨(some 43), .mv (.t 0), none⟩,
   ⟨(some 44), .call (.f 10) [.t 43], none⟩,
   ⟨(some 45), .mv (.t 0), none⟩,
   ⟨(some 46), .call (.f 13) [.t 45], none⟩,
   ⟨(some 47), .bin .eql (.t 44) (.t 46), none⟩,
   ⟨(some 48), .mv (.t 47), none⟩,
   ⟨(some 49), .mv (.t 1), some (48, true)⟩,
   ⟨(some 50), .mv (.t 2), some (48, true)⟩,
   ⟨(some 51), .call (.f 12) [.t 49, .t 50], some (48, true)⟩,
   ⟨(some 52), .mv (.t 1), some (48, true)⟩,
   ⟨(some 53), .mv (.t 2), some (48, true)⟩,
   ⟨(some 54), .call (.f 14) [.t 52, .t 53], some (48, true)⟩,
   ⟨(some 55), .bin .eql (.t 51) (.t 54), some (48, true)⟩,
   ⟨(some 56), .pick (.t 48) (.t 55) (.c (.d (.b false))), none⟩,
   ⟨(some 57), .mv (.t 56), none⟩,
   ⟨(some 58), .mv (.t 3), some (57, true)⟩,
   ⟨(some 59), .mv (.t 4), some (57, true)⟩,
   ⟨(some 60), .mv (.t 5), some (57, true)⟩,
   ⟨(some 61), .mv (.t 2), some (57, true)⟩,
   ⟨(some 62), .call (.f 15) [.t 58, .t 59, .t 60, .t 61], some (57, true)⟩,
   ⟨(some 63), .mv (.t 3), some (57, true)⟩,
   ⟨(some 64), .mv (.t 4), some (57, true)⟩,
   ⟨(some 65), .mv (.t 5), some (57, true)⟩,
   ⟨(some 66), .mv (.t 2), some (57, true)⟩,
   ⟨(some 67), .call (.f 16) [.t 63, .t 64, .t 65, .t 66], some (57, true)⟩,
   ⟨(some 68), .bin .eql (.t 62) (.t 67), some (57, true)⟩,
   ⟨(some 69), .pick (.t 57) (.t 68) (.c (.d (.b false))), none⟩,
   ⟨(some 12), .mv (.t 69), none⟩] [])
 (.ret))))
def a6 : AFn := .code 6 c6 [.tmp 12]
set_option maxRecDepth 100000 in
theorem k6 : compF Try.prog h6 6 = some a6 := by kernel_rfl

/-- paddock/paddocklaw2.StrawWeighs -/
def h7 : Hints := { kp := [(0, [0, 1, 2]), (1, [0, 1, 2]), (2, []), (3, [0, 1, 2]), (4, [0, 1, 7, 8]), (5, [0, 1, 7, 8]), (6, [0, 1, 7, 8]), (7, [0, 1, 7, 9, 10])], lkp := [], lth := [] }
def c7 : ACode :=
 .seq (.region (some [0, 1, 2]) [⟨(some 6), .mv (.c (.d (.b false))), none⟩] [])
 (.seq (.seq (.region (some [0, 1, 2]) [⟨(some 11), .call (.f 9) [], none⟩,
   ⟨(some 12), .un .not (.t 11), none⟩] [])
 (.cond (.t 12) (.seq (.region (some []) [⟨(some 6), .mv (.c (.d (.b false))), none⟩] [])
  (.ret)) (.skip)))
 (.seq (.region (some [0, 1, 2]) [⟨(some 13), .mv (.t 1), none⟩,
   ⟨(some 14), .mm false [.t 13, .c (.d (.i .i64 16))], none⟩,
   ⟨(some 15), .mm true [.c (.d (.i .i64 1)), .t 14], none⟩,
   ⟨(some 16), .mv (.t 2), none⟩,
   ⟨(some 17), .mm false [.t 16, .c (.d (.i .i64 16))], none⟩,
   ⟨(some 18), .mm true [.c (.d (.i .i64 1)), .t 17], none⟩,
   ⟨(some 7), .mv (.t 15), none⟩,
   ⟨(some 8), .mv (.t 18), none⟩] [])
 (.seq (.seq (.region (some [0, 1, 7, 8]) [⟨(some 19), .mv (.t 7), none⟩,
   ⟨(some 20), .mv (.t 8), none⟩,
   ⟨(some 21), .bin .gtr (.t 19) (.t 20), none⟩] [])
 (.cond (.t 21) (.region (some [0, 1, 7, 8]) [⟨(some 22), .mv (.t 8), none⟩,
    ⟨(some 23), .mv (.t 7), none⟩,
    ⟨(some 7), .mv (.t 22), none⟩,
    ⟨(some 8), .mv (.t 23), none⟩] []) (.skip)))
 (.seq (.region (some [0, 1, 7, 8]) [⟨(some 24), .mv (.t 0), none⟩,
   ⟨(some 25), .mv (.t 7), none⟩,
   ⟨(some 26), .call (.f 12) [.t 24, .t 25], none⟩,
   ⟨(some 27), .mv (.t 0), none⟩,
   ⟨(some 28), .mv (.t 8), none⟩,
   ⟨(some 29), .call (.f 12) [.t 27, .t 28], none⟩,
   ⟨(some 9), .mv (.t 26), none⟩,
   ⟨(some 10), .mv (.t 29), none⟩] [])
 (.seq (.region (some [0, 1, 7, 9, 10]) [⟨(some 30), .mv (.t 9), none⟩,
   ⟨(some 31), .mv (.t 10), none⟩,
   ⟨(some 32), .bin .leq (.t 30) (.t 31), none⟩,
   ⟨(some 33), .mv (.t 32), none⟩,
   ⟨(some 34), .mv (.t 10), some (33, true)⟩,
   ⟨(some 35), .bin .leq (.t 34) (.c (.d (.i .i64 0))), some (33, true)⟩,
   ⟨(some 36), .pick (.t 33) (.t 35) (.c (.d (.b false))), none⟩,
   ⟨(some 37), .mv (.t 36), none⟩,
   ⟨(some 38), .mv (.t 0), some (37, true)⟩,
   ⟨(some 39), .mv (.t 1), some (37, true)⟩,
   ⟨(some 40), .call (.f 12) [.t 38, .t 39], some (37, true)⟩,
   ⟨(some 41), .mv (.t 0), some (37, true)⟩,
   ⟨(some 42), .mv (.t 1), some (37, true)⟩,
   ⟨(some 43), .mm false [.t 42, .c (.d (.i .i64 16))], some (37, true)⟩,
   ⟨(some 44), .mm true [.c (.d (.i .i64 1)), .t 43], some (37, true)⟩,
   ⟨(some 45), .call (.f 12) [.t 41, .t 44], some (37, true)⟩,
   ⟨(some 46), .bin .eql (.t 40) (.t 45), some (37, true)⟩,
   ⟨(some 47), .pick (.t 37) (.t 46) (.c (.d (.b false))), none⟩,
   ⟨(some 48), .mv (.t 47), none⟩,
   ⟨(some 49), .mv (.t 0), some (48, true)⟩,
   ⟨(some 50), .call (.f 12) [.t 49, .c (.d (.i .i64 1))], some (48, true)⟩,
   ⟨(some 51), .mv (.t 0), some (48, true)⟩,
   ⟨(some 52), .bin .rem (.t 51) (.c (.d (.i .u32 65536))), some (48, true)⟩,
   ⟨(some 53), .call (.f 12) [.t 52, .c (.d (.i .i64 1))], some (48, true)⟩,
   ⟨(some 54), .bin .eql (.t 50) (.t 53), some (48, true)⟩,
   ⟨(some 55), .pick (.t 48) (.t 54) (.c (.d (.b false))), none⟩,
   ⟨(some 56), .mv (.t 55), none⟩,
   ⟨(some 57), .mv (.t 7), some (56, true)⟩,
   ⟨(some 58), .call (.f 15) [.c (.d (.i .u8 3)), .c (.d (.i .i64 1)), .c (.d (.i .i64 2)), .t 57], some (56, true)⟩,
   ⟨(some 59), .call (.f 17) [.c (.d (.i .u32 3)), .c (.d (.i .u32 1)), .c (.d (.i .u32 2))], some (56, true)⟩,
   ⟨(some 60), .mv (.t 7), some (56, true)⟩,
   ⟨(some 61), .call (.f 12) [.t 59, .t 60], some (56, true)⟩,
   ⟨(some 62), .bin .eql (.t 58) (.t 61), some (56, true)⟩,
   ⟨(some 63), .pick (.t 56) (.t 62) (.c (.d (.b false))), none⟩,
   ⟨(some 6), .mv (.t 63), none⟩] [])
 (.ret))))))
def a7 : AFn := .code 3 c7 [.tmp 6]
set_option maxRecDepth 100000 in
theorem k7 : compF Try.prog h7 7 = some a7 := by kernel_rfl

/-- paddock/paddocklaw2.StrawDraws -/
def h8 : Hints := { kp := [(0, [0, 1, 2]), (1, [0, 1, 5]), (2, []), (3, [0, 1, 5]), (4, [0, 1, 5, 7]), (5, [0, 1, 5, 7, 8]), (7, [0, 1, 5, 7, 8]), (6, [0, 1, 5, 7, 8]), (8, [0, 1, 5, 7]), (9, [0, 1, 5, 7, 9]), (10, [0, 1, 5, 7, 9, 10]), (12, [0, 1, 5, 7, 9, 10]), (13, []), (11, [0, 1, 5, 7, 9, 10]), (14, [])], lkp := [(5, [0, 1, 5, 7, 8]), (10, [0, 1, 5, 7, 9, 10])], lth := [(5, [7, 1])] }
def c8 : ACode :=
 .seq (.region (some [0, 1, 2]) [⟨(some 5), .box (.t 2), none⟩,
   ⟨(some 6), .mv (.c (.d (.b false))), none⟩] [])
 (.seq (.seq (.region (some [0, 1, 5]) [⟨(some 11), .call (.f 9) [], none⟩,
   ⟨(some 12), .un .not (.t 11), none⟩] [])
 (.cond (.t 12) (.seq (.region (some []) [⟨(some 6), .mv (.c (.d (.b false))), none⟩] [])
  (.ret)) (.skip)))
 (.seq (.region (some [0, 1, 5]) [⟨(some 7), .mv (.c (.nilS)), none⟩] [])
 (.seq (.seq (.region (some [0, 1, 5, 7]) [⟨(some 8), .mv (.c (.d (.i .i64 0))), none⟩] [])
 (.block 0 (.loop (some [0, 1, 5, 7, 8]) [7, 1] (.seq (.seq (.region (some [0, 1, 5, 7, 8]) [⟨(some 13), .mv (.t 8), none⟩,
     ⟨(some 14), .bin .lss (.t 13) (.c (.d (.i .i64 5))), none⟩] [])
   (.cond (.t 14) (.skip) (.exit 0)))
   (.seq (.block 1 (.region (some [0, 1, 5, 7, 8]) [⟨(some 17), .mv (.t 7), none⟩,
      ⟨(some 18), .mv (.t 0), none⟩,
      ⟨(some 19), .mv (.t 8), none⟩,
      ⟨(some 20), .mv (.t 1), none⟩,
      ⟨(some 21), .conv .i64 (.t 20), none⟩,
      ⟨(some 22), .mv (.t 8), none⟩,
      ⟨(some 23), .iaddrA 5 1 (.t 5) (.t 22), none⟩,
      ⟨(some 24), .load false 1 (.t 23), none⟩,
      ⟨(some 25), .bin .rem (.t 24) (.c (.d (.i .u8 16))), none⟩,
      ⟨(some 26), .conv .i64 (.t 25), none⟩,
      ⟨(some 27), .bin .add (.t 26) (.c (.d (.i .i64 1))), none⟩,
      ⟨(some 28), .call (.f 15) [.t 18, .t 19, .t 21, .t 27], none⟩,
      ⟨(some 29), .bsl 1 [.t 28], none⟩,
      ⟨(some 30), .app 1 (.t 17) (.t 29), none⟩,
      ⟨(some 7), .mv (.t 30), none⟩] []))
   (.region (some [0, 1, 5, 7, 8]) [⟨(some 15), .mv (.t 8), none⟩,
     ⟨(some 16), .bin .add (.t 15) (.c (.d (.i .i64 1))), none⟩,
     ⟨(some 8), .mv (.t 16), none⟩] []))))))
 (.seq (.region (some [0, 1, 5, 7]) [⟨(some 31), .mv (.t 7), none⟩,
   ⟨(some 32), .call (.f 11) [.t 31], none⟩,
   ⟨(some 9), .mv (.t 32), none⟩] [])
 (.seq (.seq (.region (some [0, 1, 5, 7, 9]) [⟨(some 10), .mv (.c (.d (.i .i64 0))), none⟩] [])
 (.block 2 (.loop (some [0, 1, 5, 7, 9, 10]) [] (.seq (.seq (.region (some [0, 1, 5, 7, 9, 10]) [⟨(some 33), .mv (.t 10), none⟩,
     ⟨(some 34), .bin .lss (.t 33) (.c (.d (.i .i64 5))), none⟩] [])
   (.cond (.t 34) (.skip) (.exit 2)))
   (.seq (.block 3 (.seq (.region (some [0, 1, 5, 7, 9, 10]) [⟨(some 37), .mv (.t 7), none⟩,
      ⟨(some 38), .mv (.t 10), none⟩,
      ⟨(some 39), .iaddrS 1 (.t 37) (.t 38), none⟩,
      ⟨(some 40), .load false 1 (.t 39), none⟩,
      ⟨(some 41), .mv (.t 7), none⟩,
      ⟨(some 42), .mv (.t 9), none⟩,
      ⟨(some 43), .iaddrS 1 (.t 41) (.t 42), none⟩,
      ⟨(some 44), .load false 1 (.t 43), none⟩,
      ⟨(some 45), .bin .gtr (.t 40) (.t 44), none⟩,
      ⟨(some 46), .mv (.t 45), none⟩,
      ⟨(some 47), .mv (.t 0), some (46, false)⟩,
      ⟨(some 48), .mv (.t 10), some (46, false)⟩,
      ⟨(some 49), .mv (.t 1), some (46, false)⟩,
      ⟨(some 50), .conv .i64 (.t 49), some (46, false)⟩,
      ⟨(some 51), .mv (.t 10), some (46, false)⟩,
      ⟨(some 52), .iaddrA 5 1 (.t 5) (.t 51), some (46, false)⟩,
      ⟨(some 53), .load false 1 (.t 52), some (46, false)⟩,
      ⟨(some 54), .bin .rem (.t 53) (.c (.d (.i .u8 16))), some (46, false)⟩,
      ⟨(some 55), .conv .i64 (.t 54), some (46, false)⟩,
      ⟨(some 56), .bin .add (.t 55) (.c (.d (.i .i64 1))), some (46, false)⟩,
      ⟨(some 57), .call (.f 15) [.t 47, .t 48, .t 50, .t 56], some (46, false)⟩,
      ⟨(some 58), .mv (.t 7), some (46, false)⟩,
      ⟨(some 59), .mv (.t 10), some (46, false)⟩,
      ⟨(some 60), .iaddrS 1 (.t 58) (.t 59), some (46, false)⟩,
      ⟨(some 61), .load false 1 (.t 60), some (46, false)⟩,
      ⟨(some 62), .bin .neq (.t 57) (.t 61), some (46, false)⟩,
      ⟨(some 63), .pick (.t 46) (.c (.d (.b true))) (.t 62), none⟩] [(3, 7), (16, 24), (20, 24)])
    (.cond (.t 63) (.seq (.region (some []) [⟨(some 6), .mv (.c (.d (.b false))), none⟩] [])
     (.ret)) (.skip))))
   (.region (some [0, 1, 5, 7, 9, 10]) [⟨(some 35), .mv (.t 10), none⟩,
     ⟨(some 36), .bin .add (.t 35) (.c (.d (.i .i64 1))), none⟩,
     ⟨(some 10), .mv (.t 36), none⟩] []))))))
 (.seq (.region (some []) [⟨(some 6), .mv (.c (.d (.b true))), none⟩] [])
 (.ret)))))))
def a8 : AFn := .code 3 c8 [.tmp 6]
set_option maxRecDepth 100000 in
theorem k8 : compF Try.prog h8 8 = some a8 := by kernel_rfl

/-- paddock/paddocklaw2.known -/
def h9 : Hints := { kp := [(0, []), (1, [])], lkp := [], lth := [] }
def c9 : ACode :=
 .seq (.region (some []) [⟨(some 0), .mv (.c (.d (.b false))), none⟩] [])
 (.seq (.region (some []) [⟨(some 1), .call (.f 10) [.c (.d (.i .u32 1))], none⟩,
   ⟨(some 2), .bin .eql (.t 1) (.c (.d (.i .i64 0))), none⟩,
   ⟨(some 3), .mv (.t 2), none⟩,
   ⟨(some 4), .call (.f 10) [.c (.d (.i .u32 65536))], some (3, true)⟩,
   ⟨(some 5), .bin .eql (.t 4) (.c (.d (.i .i64 1048576))), some (3, true)⟩,
   ⟨(some 6), .pick (.t 3) (.t 5) (.c (.d (.b false))), none⟩,
   ⟨(some 7), .mv (.t 6), none⟩,
   ⟨(some 8), .call (.f 10) [.c (.d (.i .u32 2))], some (7, true)⟩,
   ⟨(some 9), .bin .eql (.t 8) (.c (.d (.i .i64 65536))), some (7, true)⟩,
   ⟨(some 10), .pick (.t 7) (.t 9) (.c (.d (.b false))), none⟩,
   ⟨(some 11), .mv (.t 10), none⟩,
   ⟨(some 12), .call (.f 12) [.c (.d (.i .u32 65535)), .c (.d (.i .i64 1))], some (11, true)⟩,
   ⟨(some 13), .bin .eql (.t 12) (.c (.d (.i .i64 0))), some (11, true)⟩,
   ⟨(some 14), .pick (.t 11) (.t 13) (.c (.d (.b false))), none⟩,
   ⟨(some 15), .mv (.t 14), none⟩,
   ⟨(some 16), .bsl 1 [.c (.d (.i .i64 3)), .c (.d (.i .i64 5)), .c (.d (.i .i64 5))], some (15, true)⟩,
   ⟨(some 17), .call (.f 11) [.t 16], some (15, true)⟩,
   ⟨(some 18), .bin .eql (.t 17) (.c (.d (.i .i64 1))), some (15, true)⟩,
   ⟨(some 19), .pick (.t 15) (.t 18) (.c (.d (.b false))), none⟩,
   ⟨(some 20), .mv (.t 19), none⟩,
   ⟨(some 21), .call (.f 11) [.c (.nilS)], some (20, true)⟩,
   ⟨(some 22), .bin .eql (.t 21) (.c (.d (.i .i64 (-1)))), some (20, true)⟩,
   ⟨(some 23), .pick (.t 20) (.t 22) (.c (.d (.b false))), none⟩,
   ⟨(some 0), .mv (.t 23), none⟩] [])
 (.ret))
def a9 : AFn := .code 0 c9 [.tmp 0]
set_option maxRecDepth 100000 in
theorem k9 : compF Try.prog h9 9 = some a9 := by kernel_rfl

/-- paddock/straw.Log -/
def h10 : Hints := { kp := [(0, [0]), (1, [0]), (2, [0]), (3, [0, 3]), (4, [3, 4]), (5, [3, 4, 5]), (6, [3, 4, 5, 21]), (7, [3, 4, 5, 21]), (8, [3, 4, 5, 21]), (9, [3, 4])], lkp := [(6, [3, 4, 5, 21])], lth := [] }
def c10 : ACode :=
 .seq (.region (some [0]) [⟨(some 2), .mv (.c (.d (.i .i64 0))), none⟩] [])
 (.seq (.region (some [0]) [⟨(some 6), .mv (.t 0), none⟩,
   ⟨(some 7), .mm true [.t 6, .c (.d (.i .u32 1))], none⟩,
   ⟨(some 8), .mm false [.t 7, .c (.d (.i .u32 65536))], none⟩,
   ⟨(some 0), .mv (.t 8), none⟩] [])
 (.seq (.region (some [0]) [⟨(some 9), .mv (.t 0), none⟩,
   ⟨(some 10), .call (.f 18) [.t 9], none⟩,
   ⟨(some 11), .bin .sub (.t 10) (.c (.d (.i .i64 1))), none⟩,
   ⟨(some 3), .mv (.t 11), none⟩] [])
 (.seq (.region (some [0, 3]) [⟨(some 12), .mv (.t 0), none⟩,
   ⟨(some 13), .conv .u64 (.t 12), none⟩,
   ⟨(some 14), .mv (.t 3), none⟩,
   ⟨(some 15), .bin .sub (.c (.d (.i .i64 31))) (.t 14), none⟩,
   ⟨(some 16), .bin .shl (.t 13) (.t 15), none⟩,
   ⟨(some 17), .build [.d (.i .u64 0), .d (.i .i64 0)] [(0, 1, .t 16)], none⟩,
   ⟨(some 18), .box (.t 17), none⟩,
   ⟨(some 4), .mv (.t 18), none⟩] [])
 (.seq (.region (some [3, 4]) [⟨(some 19), .mv (.t 4), none⟩,
   ⟨(some 20), .mkfn 19 [.t 19] [], none⟩,
   ⟨(some 5), .mv (.t 20), none⟩] [])
 (.seq (.seq (.region (some [3, 4, 5]) [⟨(some 21), .mv (.c (.d (.i .i64 0))), none⟩] [])
 (.block 0 (.loop (some [3, 4, 5, 21]) [] (.seq (.region (some [3, 4, 5, 21]) [⟨(some 22), .bin .lss (.t 21) (.c (.d (.i .i64 16))), none⟩] [])
   (.seq (.cond (.t 22) (.skip) (.exit 0))
   (.seq (.block 1 (.region (some [3, 4, 5, 21]) [⟨(some 23), .mv (.t 5), none⟩,
      ⟨(some 24), .call (.t 23) [], none⟩] []))
   (.region (some [3, 4, 5, 21]) [⟨(some 25), .bin .add (.t 21) (.c (.d (.i .i64 1))), none⟩,
     ⟨(some 21), .mv (.t 25), none⟩] [])))))))
 (.seq (.region (some [3, 4]) [⟨(some 26), .mv (.t 3), none⟩,
   ⟨(some 27), .bin .shl (.t 26) (.c (.d (.i .u64 16))), none⟩,
   ⟨(some 28), .mv (.t 4), none⟩,
   ⟨(some 29), .nilck (.t 28), none⟩,
   ⟨(some 30), .faddr 1 (.t 29), none⟩,
   ⟨(some 31), .load false 1 (.t 30), none⟩,
   ⟨(some 32), .bin .add (.t 27) (.t 31), none⟩,
   ⟨(some 2), .mv (.t 32), none⟩] [])
 (.ret)))))))
def a10 : AFn := .code 1 c10 [.tmp 2]
set_option maxRecDepth 100000 in
theorem k10 : compF Try.prog h10 10 = some a10 := by kernel_rfl

/-- paddock/straw.Best -/
def h11 : Hints := { kp := [(0, [0]), (1, [0]), (2, [0, 3]), (3, [0, 3, 6, 7, 8]), (4, [0, 3, 6, 7, 8]), (5, [0, 3, 4, 5, 6, 7, 8]), (6, [0, 4, 6, 7, 8]), (7, [0, 3, 6, 7, 8]), (8, [3])], lkp := [(3, [0, 3, 6, 7, 8])], lth := [] }
def c11 : ACode :=
 .seq (.region (some [0]) [⟨(some 2), .mv (.c (.d (.i .i64 0))), none⟩] [])
 (.seq (.region (some [0]) [⟨(some 3), .mv (.c (.d (.i .i64 (-1)))), none⟩] [])
 (.seq (.seq (.region (some [0, 3]) [⟨(some 6), .mv (.t 0), none⟩,
   ⟨(some 7), .len false (.t 6), none⟩,
   ⟨(some 8), .mv (.c (.d (.i .i64 0))), none⟩] [])
 (.block 0 (.loop (some [0, 3, 6, 7, 8]) [] (.seq (.region (some [0, 3, 6, 7, 8]) [⟨(some 9), .bin .lss (.t 8) (.t 7), none⟩] [])
   (.seq (.cond (.t 9) (.skip) (.exit 0))
   (.seq (.block 1 (.seq (.region (some [0, 3, 6, 7, 8]) [⟨(some 10), .mv (.t 8), none⟩,
      ⟨(some 11), .iaddrS 1 (.t 6) (.t 8), none⟩,
      ⟨(some 12), .load false 1 (.t 11), none⟩,
      ⟨(some 4), .mv (.t 10), none⟩,
      ⟨(some 5), .mv (.t 12), none⟩] [])
    (.seq (.region (some [0, 3, 4, 5, 6, 7, 8]) [⟨(some 13), .mv (.t 3), none⟩,
      ⟨(some 14), .bin .lss (.t 13) (.c (.d (.i .i64 0))), none⟩,
      ⟨(some 15), .mv (.t 14), none⟩,
      ⟨(some 16), .mv (.t 5), some (15, false)⟩,
      ⟨(some 17), .mv (.t 0), some (15, false)⟩,
      ⟨(some 18), .mv (.t 3), some (15, false)⟩,
      ⟨(some 19), .iaddrS 1 (.t 17) (.t 18), some (15, false)⟩,
      ⟨(some 20), .load false 1 (.t 19), some (15, false)⟩,
      ⟨(some 21), .bin .gtr (.t 16) (.t 20), some (15, false)⟩,
      ⟨(some 22), .pick (.t 15) (.c (.d (.b true))) (.t 21), none⟩] [])
    (.cond (.t 22) (.region (some [0, 4, 6, 7, 8]) [⟨(some 23), .mv (.t 4), none⟩,
       ⟨(some 3), .mv (.t 23), none⟩] []) (.skip)))))
   (.region (some [0, 3, 6, 7, 8]) [⟨(some 24), .bin .add (.t 8) (.c (.d (.i .i64 1))), none⟩,
     ⟨(some 8), .mv (.t 24), none⟩] [])))))))
 (.seq (.region (some [3]) [⟨(some 25), .mv (.t 3), none⟩,
   ⟨(some 2), .mv (.t 25), none⟩] [])
 (.ret))))
def a11 : AFn := .code 1 c11 [.tmp 2]
set_option maxRecDepth 100000 in
theorem k11 : compF Try.prog h11 11 = some a11 := by kernel_rfl

/-- paddock/straw.Straw -/
def h12 : Hints := { kp := [(0, [0, 1]), (1, [0, 1]), (2, [0, 5])], lkp := [], lth := [] }
def c12 : ACode :=
 .seq (.region (some [0, 1]) [⟨(some 4), .mv (.c (.d (.i .i64 0))), none⟩] [])
 (.seq (.region (some [0, 1]) [⟨(some 6), .mv (.t 1), none⟩,
   ⟨(some 7), .mm true [.t 6, .c (.d (.i .i64 1))], none⟩,
   ⟨(some 8), .mm false [.t 7, .c (.d (.i .i64 16))], none⟩,
   ⟨(some 5), .mv (.t 8), none⟩] [])
 (.seq (.region (some [0, 5]) [⟨(some 9), .mv (.t 0), none⟩,
   ⟨(some 10), .bin .rem (.t 9) (.c (.d (.i .u32 65536))), none⟩,
   ⟨(some 11), .bin .add (.t 10) (.c (.d (.i .u32 1))), none⟩,
   ⟨(some 12), .call (.f 10) [.t 11], none⟩,
   ⟨(some 13), .bin .sub (.c (.d (.i .i64 1048576))) (.t 12), none⟩,
   ⟨(some 14), .bin .mul (.t 13) (.c (.d (.i .i64 4096))), none⟩,
   ⟨(some 15), .mv (.t 5), none⟩,
   ⟨(some 16), .bin .quo (.t 14) (.t 15), none⟩,
   ⟨(some 17), .un .neg (.t 16), none⟩,
   ⟨(some 4), .mv (.t 17), none⟩] [])
 (.ret)))
def a12 : AFn := .code 2 c12 [.tmp 4]
set_option maxRecDepth 100000 in
theorem k12 : compF Try.prog h12 12 = some a12 := by kernel_rfl

/-- paddock/paddockref2.Log -/
def h13 : Hints := { kp := [(0, [0]), (1, [0]), (2, [0]), (3, [0, 3]), (4, [0, 3]), (5, [0, 3]), (6, [3, 4]), (7, [4, 5]), (8, [4, 5, 6]), (10, [4, 5, 6]), (11, [4, 5, 6]), (12, [4, 5, 6]), (13, [4, 5, 6]), (14, [4, 5, 6]), (9, [4, 5, 6]), (15, [5])], lkp := [(3, [0, 3]), (8, [4, 5, 6])], lth := [] }
def c13 : ACode :=
 .seq (.region (some [0]) [⟨(some 2), .mv (.c (.d (.i .i64 0))), none⟩] [])
 (.seq (.region (some [0]) [⟨(some 7), .mv (.t 0), none⟩,
   ⟨(some 8), .mm false [.t 7, .c (.d (.i .u32 65536))], none⟩,
   ⟨(some 9), .mm true [.c (.d (.i .u32 1)), .t 8], none⟩,
   ⟨(some 0), .mv (.t 9), none⟩] [])
 (.seq (.region (some [0]) [⟨(some 3), .mv (.c (.d (.i .i64 0))), none⟩] [])
 (.seq (.block 0 (.loop (some [0, 3]) [] (.seq (.seq (.region (some [0, 3]) [⟨(some 10), .mv (.t 0), none⟩,
     ⟨(some 11), .mv (.t 3), none⟩,
     ⟨(some 12), .bin .add (.t 11) (.c (.d (.i .i64 1))), none⟩,
     ⟨(some 13), .conv .u64 (.t 12), none⟩,
     ⟨(some 14), .bin .shr (.t 10) (.t 13), none⟩,
     ⟨(some 15), .bin .gtr (.t 14) (.c (.d (.i .u32 0))), none⟩] [])
   (.cond (.t 15) (.skip) (.exit 0)))
   (.block 1 (.region (some [0, 3]) [⟨(some 16), .mv (.t 3), none⟩,
      ⟨(some 17), .bin .add (.t 16) (.c (.d (.i .i64 1))), none⟩,
      ⟨(some 3), .mv (.t 17), none⟩] [])))))
 (.seq (.region (some [0, 3]) [⟨(some 18), .mv (.t 0), none⟩,
   ⟨(some 19), .conv .u64 (.t 18), none⟩,
   ⟨(some 20), .mv (.t 3), none⟩,
   ⟨(some 21), .bin .sub (.c (.d (.i .i64 31))) (.t 20), none⟩,
   ⟨(some 22), .conv .u64 (.t 21), none⟩,
   ⟨(some 23), .bin .shl (.t 19) (.t 22), none⟩,
   ⟨(some 4), .mv (.t 23), none⟩] [])
 (.seq (.region (some [3, 4]) [⟨(some 24), .mv (.t 3), none⟩,
   ⟨(some 5), .mv (.t 24), none⟩] [])
 (.seq (.seq (.region (some [4, 5]) [⟨(some 6), .mv (.c (.d (.i .i64 0))), none⟩] [])
 (.block 2 (.loop (some [4, 5, 6]) [] (.seq (.seq (.region (some [4, 5, 6]) [⟨(some 25), .mv (.t 6), none⟩,
     ⟨(some 26), .bin .lss (.t 25) (.c (.d (.i .i64 16))), none⟩] [])
   (.cond (.t 26) (.skip) (.exit 2)))
   (.seq (.block 3 (.seq (.region (some [4, 5, 6]) [⟨(some 29), .mv (.t 4), none⟩,
      ⟨(some 30), .mv (.t 4), none⟩,
      ⟨(some 31), .bin .mul (.t 29) (.t 30), none⟩,
      ⟨(some 32), .bin .shr (.t 31) (.c (.d (.i .u64 31))), none⟩,
      ⟨(some 4), .mv (.t 32), none⟩] [])
    (.seq (.region (some [4, 5, 6]) [⟨(some 33), .mv (.t 5), none⟩,
      ⟨(some 34), .bin .mul (.t 33) (.c (.d (.i .i64 2))), none⟩,
      ⟨(some 5), .mv (.t 34), none⟩] [])
    (.seq (.region (some [4, 5, 6]) [⟨(some 35), .mv (.t 4), none⟩,
      ⟨(some 36), .bin .geq (.t 35) (.c (.d (.i .u64 4294967296))), none⟩] [])
    (.cond (.t 36) (.seq (.region (some [4, 5, 6]) [⟨(some 37), .mv (.t 4), none⟩,
       ⟨(some 38), .bin .shr (.t 37) (.c (.d (.i .u64 1))), none⟩,
       ⟨(some 4), .mv (.t 38), none⟩] [])
     (.region (some [4, 5, 6]) [⟨(some 39), .mv (.t 5), none⟩,
       ⟨(some 40), .bin .add (.t 39) (.c (.d (.i .i64 1))), none⟩,
       ⟨(some 5), .mv (.t 40), none⟩] [])) (.skip))))))
   (.region (some [4, 5, 6]) [⟨(some 27), .mv (.t 6), none⟩,
     ⟨(some 28), .bin .add (.t 27) (.c (.d (.i .i64 1))), none⟩,
     ⟨(some 6), .mv (.t 28), none⟩] []))))))
 (.seq (.region (some [5]) [⟨(some 41), .mv (.t 5), none⟩,
   ⟨(some 2), .mv (.t 41), none⟩] [])
 (.ret))))))))
def a13 : AFn := .code 1 c13 [.tmp 2]
set_option maxRecDepth 100000 in
theorem k13 : compF Try.prog h13 13 = some a13 := by kernel_rfl

/-- paddock/paddockref2.Straw -/
def h14 : Hints := { kp := [(0, [0, 1]), (1, [0, 1]), (2, [0, 5])], lkp := [], lth := [] }
def c14 : ACode :=
 .seq (.region (some [0, 1]) [⟨(some 4), .mv (.c (.d (.i .i64 0))), none⟩] [])
 (.seq (.region (some [0, 1]) [⟨(some 6), .mv (.t 1), none⟩,
   ⟨(some 7), .mm false [.t 6, .c (.d (.i .i64 16))], none⟩,
   ⟨(some 8), .mm true [.c (.d (.i .i64 1)), .t 7], none⟩,
   ⟨(some 5), .mv (.t 8), none⟩] [])
 (.seq (.region (some [0, 5]) [⟨(some 9), .mv (.t 0), none⟩,
   ⟨(some 10), .bin .rem (.t 9) (.c (.d (.i .u32 65536))), none⟩,
   ⟨(some 11), .bin .add (.t 10) (.c (.d (.i .u32 1))), none⟩,
   ⟨(some 12), .call (.f 13) [.t 11], none⟩,
   ⟨(some 13), .bin .sub (.c (.d (.i .i64 1048576))) (.t 12), none⟩,
   ⟨(some 14), .bin .mul (.t 13) (.c (.d (.i .i64 4096))), none⟩,
   ⟨(some 15), .mv (.t 5), none⟩,
   ⟨(some 16), .bin .quo (.t 14) (.t 15), none⟩,
   ⟨(some 17), .un .neg (.t 16), none⟩,
   ⟨(some 4), .mv (.t 17), none⟩] [])
 (.ret)))
def a14 : AFn := .code 2 c14 [.tmp 4]
set_option maxRecDepth 100000 in
theorem k14 : compF Try.prog h14 14 = some a14 := by kernel_rfl

/-- paddock/straw.Draw -/
def h15 : Hints := { kp := [(0, [0, 1, 2, 3]), (1, [0, 1, 2, 3])], lkp := [], lth := [] }
def c15 : ACode :=
 .seq (.region (some [0, 1, 2, 3]) [⟨(some 8), .mv (.c (.d (.i .i64 0))), none⟩] [])
 (.seq (.region (some [0, 1, 2, 3]) [⟨(some 9), .mv (.t 0), none⟩,
   ⟨(some 10), .conv .u32 (.t 9), none⟩,
   ⟨(some 11), .mv (.t 1), none⟩,
   ⟨(some 12), .conv .u32 (.t 11), none⟩,
   ⟨(some 13), .mv (.t 2), none⟩,
   ⟨(some 14), .conv .u32 (.t 13), none⟩,
   ⟨(some 15), .call (.f 17) [.t 10, .t 12, .t 14], none⟩,
   ⟨(some 16), .mv (.t 3), none⟩,
   ⟨(some 17), .call (.f 12) [.t 15, .t 16], none⟩,
   ⟨(some 8), .mv (.t 17), none⟩] [])
 (.ret))
def a15 : AFn := .code 4 c15 [.tmp 8]
set_option maxRecDepth 100000 in
theorem k15 : compF Try.prog h15 15 = some a15 := by kernel_rfl

/-- paddock/paddockref2.Draw -/
def h16 : Hints := { kp := [(0, [0, 1, 2, 3]), (1, [0, 1, 2, 3])], lkp := [], lth := [] }
def c16 : ACode :=
 .seq (.region (some [0, 1, 2, 3]) [⟨(some 8), .mv (.c (.d (.i .i64 0))), none⟩] [])
 (.seq (.region (some [0, 1, 2, 3]) [⟨(some 9), .mv (.t 0), none⟩,
   ⟨(some 10), .conv .u32 (.t 9), none⟩,
   ⟨(some 11), .mv (.t 1), none⟩,
   ⟨(some 12), .conv .u32 (.t 11), none⟩,
   ⟨(some 13), .mv (.t 2), none⟩,
   ⟨(some 14), .conv .u32 (.t 13), none⟩,
   ⟨(some 15), .call (.f 20) [.t 10, .t 12, .t 14], none⟩,
   ⟨(some 16), .mv (.t 3), none⟩,
   ⟨(some 17), .call (.f 14) [.t 15, .t 16], none⟩,
   ⟨(some 8), .mv (.t 17), none⟩] [])
 (.ret))
def a16 : AFn := .code 4 c16 [.tmp 8]
set_option maxRecDepth 100000 in
theorem k16 : compF Try.prog h16 16 = some a16 := by kernel_rfl

/-- paddock/bits.Hash -/
def h17 : Hints := { kp := [(0, [0, 1, 2]), (1, [0, 1, 2])], lkp := [], lth := [] }
def c17 : ACode :=
 .seq (.region (some [0, 1, 2]) [⟨(some 6), .mv (.c (.d (.i .u32 0))), none⟩] [])
 (.seq (.region (some [0, 1, 2]) [⟨(some 7), .mv (.t 0), none⟩,
   ⟨(some 8), .conv .u64 (.t 7), none⟩,
   ⟨(some 9), .call (.f 21) [.t 8], none⟩,
   ⟨(some 10), .mv (.t 1), none⟩,
   ⟨(some 11), .conv .u64 (.t 10), none⟩,
   ⟨(some 12), .bin .add (.t 9) (.t 11), none⟩,
   ⟨(some 13), .call (.f 21) [.t 12], none⟩,
   ⟨(some 14), .mv (.t 2), none⟩,
   ⟨(some 15), .conv .u64 (.t 14), none⟩,
   ⟨(some 16), .bin .add (.t 13) (.t 15), none⟩,
   ⟨(some 17), .call (.f 21) [.t 16], none⟩,
   ⟨(some 18), .conv .u32 (.t 17), none⟩,
   ⟨(some 6), .mv (.t 18), none⟩] [])
 (.ret))
def a17 : AFn := .code 3 c17 [.tmp 6]
set_option maxRecDepth 100000 in
theorem k17 : compF Try.prog h17 17 = some a17 := by kernel_rfl

/-- math/bits.Len32 -/
def h18 : Hints := { kp := [(0, [0]), (1, [0, 2]), (2, [0]), (3, [0]), (4, [0, 2]), (5, [0, 2]), (6, [0, 2]), (7, [0, 2])], lkp := [], lth := [] }
def c18 : ACode :=
 .seq (.region (some [0]) [⟨(some 2), .mv (.c (.d (.i .i64 0))), none⟩] [])
 (.seq (.seq (.region (some [0, 2]) [⟨(some 3), .mv (.t 0), none⟩,
   ⟨(some 4), .bin .geq (.t 3) (.c (.d (.i .u32 65536))), none⟩] [])
 (.cond (.t 4) (.seq (.region (some [0]) [⟨(some 5), .mv (.t 0), none⟩,
    ⟨(some 6), .bin .shr (.t 5) (.c (.d (.i .u64 16))), none⟩,
    ⟨(some 0), .mv (.t 6), none⟩] [])
  (.region (some [0]) [⟨(some 2), .mv (.c (.d (.i .i64 16))), none⟩] [])) (.skip)))
 (.seq (.seq (.region (some [0, 2]) [⟨(some 7), .mv (.t 0), none⟩,
   ⟨(some 8), .bin .geq (.t 7) (.c (.d (.i .u32 256))), none⟩] [])
 (.cond (.t 8) (.seq (.region (some [0, 2]) [⟨(some 9), .mv (.t 0), none⟩,
    ⟨(some 10), .bin .shr (.t 9) (.c (.d (.i .u64 8))), none⟩,
    ⟨(some 0), .mv (.t 10), none⟩] [])
  (.region (some [0, 2]) [⟨(some 11), .mv (.t 2), none⟩,
    ⟨(some 12), .bin .add (.t 11) (.c (.d (.i .i64 8))), none⟩,
    ⟨(some 2), .mv (.t 12), none⟩] [])) (.skip)))
 (.seq (.region (some [0, 2]) [⟨(some 13), .mv (.t 2), none⟩,
   ⟨(some 14), .mv (.t 0), none⟩,
   ⟨(some 15), .conv .u8 (.t 14), none⟩,
   ⟨(some 16), .idxS (.c (.d (.s tab0))) (.t 15), none⟩,
   ⟨(some 17), .conv .i64 (.t 16), none⟩,
   ⟨(some 18), .bin .add (.t 13) (.t 17), none⟩,
   ⟨(some 2), .mv (.t 18), none⟩] [])
 (.ret))))
def a18 : AFn := .code 1 c18 [.tmp 2]
set_option maxRecDepth 100000 in
theorem k18 : compF Try.prog h18 18 = some a18 := by kernel_rfl

/-- (*paddock/straw.mantissa).step -/
def h19 : Hints := { kp := [(0, [0]), (1, [0]), (2, [0]), (3, [0]), (4, [0])], lkp := [], lth := [] }
def c19 : ACode :=
 .seq (.region (some [0]) [⟨(some 2), .mv (.t 0), none⟩,
   ⟨(some 3), .mv (.t 0), none⟩,
   ⟨(some 4), .nilck (.t 3), none⟩,
   ⟨(some 5), .faddr 0 (.t 4), none⟩,
   ⟨(some 6), .load false 1 (.t 5), none⟩,
   ⟨(some 7), .mv (.t 0), none⟩,
   ⟨(some 8), .nilck (.t 7), none⟩,
   ⟨(some 9), .faddr 0 (.t 8), none⟩,
   ⟨(some 10), .load false 1 (.t 9), none⟩,
   ⟨(some 11), .bin .mul (.t 6) (.t 10), none⟩,
   ⟨(some 12), .bin .shr (.t 11) (.c (.d (.i .u64 31))), none⟩,
   ⟨(some 13), .nilck (.t 2), none⟩,
   ⟨(some 14), .faddr 0 (.t 13), none⟩,
   ⟨none, .store 1 (.t 14) (.t 12), none⟩] [(4, 8)])
 (.seq (.region (some [0]) [⟨(some 15), .mv (.t 0), none⟩,
   ⟨(some 16), .nilck (.t 15), none⟩,
   ⟨(some 17), .faddr 1 (.t 16), none⟩,
   ⟨(some 18), .load false 1 (.t 17), none⟩,
   ⟨(some 19), .bin .shl (.t 18) (.c (.d (.i .u64 1))), none⟩,
   ⟨(some 20), .nilck (.t 15), none⟩,
   ⟨(some 21), .faddr 1 (.t 20), none⟩,
   ⟨none, .store 1 (.t 21) (.t 19), none⟩] [])
 (.seq (.region (some [0]) [⟨(some 22), .mv (.t 0), none⟩,
   ⟨(some 23), .nilck (.t 22), none⟩,
   ⟨(some 24), .faddr 0 (.t 23), none⟩,
   ⟨(some 25), .load false 1 (.t 24), none⟩,
   ⟨(some 26), .bin .geq (.t 25) (.c (.d (.i .u64 4294967296))), none⟩] [])
 (.cond (.t 26) (.seq (.region (some [0]) [⟨(some 27), .mv (.t 0), none⟩,
    ⟨(some 28), .nilck (.t 27), none⟩,
    ⟨(some 29), .faddr 0 (.t 28), none⟩,
    ⟨(some 30), .load false 1 (.t 29), none⟩,
    ⟨(some 31), .bin .shr (.t 30) (.c (.d (.i .u64 1))), none⟩,
    ⟨(some 32), .nilck (.t 27), none⟩,
    ⟨(some 33), .faddr 0 (.t 32), none⟩,
    ⟨none, .store 1 (.t 33) (.t 31), none⟩] [])
  (.region (some [0]) [⟨(some 34), .mv (.t 0), none⟩,
    ⟨(some 35), .nilck (.t 34), none⟩,
    ⟨(some 36), .faddr 1 (.t 35), none⟩,
    ⟨(some 37), .load false 1 (.t 36), none⟩,
    ⟨(some 38), .bin .or (.t 37) (.c (.d (.i .i64 1))), none⟩,
    ⟨(some 39), .nilck (.t 34), none⟩,
    ⟨(some 40), .faddr 1 (.t 39), none⟩,
    ⟨none, .store 1 (.t 40) (.t 38), none⟩] [])) (.skip))))
def a19 : AFn := .code 1 c19 []
set_option maxRecDepth 100000 in
theorem k19 : compF Try.prog h19 19 = some a19 := by kernel_rfl

/-- paddock/paddockref1.Hash -/
def h20 : Hints := { kp := [(0, [0, 1, 2]), (1, [0, 1, 2])], lkp := [], lth := [] }
def c20 : ACode :=
 .seq (.region (some [0, 1, 2]) [⟨(some 6), .mv (.c (.d (.i .u32 0))), none⟩] [])
 (.seq (.region (some [0, 1, 2]) [⟨(some 7), .mv (.t 0), none⟩,
   ⟨(some 8), .conv .u64 (.t 7), none⟩,
   ⟨(some 9), .call (.f 22) [.t 8], none⟩,
   ⟨(some 10), .mv (.t 1), none⟩,
   ⟨(some 11), .conv .u64 (.t 10), none⟩,
   ⟨(some 12), .bin .add (.t 9) (.t 11), none⟩,
   ⟨(some 13), .call (.f 22) [.t 12], none⟩,
   ⟨(some 14), .mv (.t 2), none⟩,
   ⟨(some 15), .conv .u64 (.t 14), none⟩,
   ⟨(some 16), .bin .add (.t 13) (.t 15), none⟩,
   ⟨(some 17), .call (.f 22) [.t 16], none⟩,
   ⟨(some 18), .conv .u32 (.t 17), none⟩,
   ⟨(some 6), .mv (.t 18), none⟩] [])
 (.ret))
def a20 : AFn := .code 3 c20 [.tmp 6]
set_option maxRecDepth 100000 in
theorem k20 : compF Try.prog h20 20 = some a20 := by kernel_rfl

/-- paddock/bits.Mix -/
def h21 : Hints := { kp := [(0, [0]), (1, [0]), (2, [0]), (3, [0])], lkp := [], lth := [] }
def c21 : ACode :=
 .seq (.region (some [0]) [⟨(some 2), .mv (.c (.d (.i .u64 0))), none⟩] [])
 (.seq (.region (some [0]) [⟨(some 3), .mv (.t 0), none⟩,
   ⟨(some 4), .mv (.t 0), none⟩,
   ⟨(some 5), .bin .shr (.t 4) (.c (.d (.i .u64 33))), none⟩,
   ⟨(some 6), .bin .xor (.t 3) (.t 5), none⟩,
   ⟨(some 7), .bin .mul (.t 6) (.c (.d (.i .u64 18397679294719823053))), none⟩,
   ⟨(some 0), .mv (.t 7), none⟩] [])
 (.seq (.region (some [0]) [⟨(some 8), .mv (.t 0), none⟩,
   ⟨(some 9), .mv (.t 0), none⟩,
   ⟨(some 10), .bin .shr (.t 9) (.c (.d (.i .u64 33))), none⟩,
   ⟨(some 11), .bin .xor (.t 8) (.t 10), none⟩,
   ⟨(some 12), .bin .mul (.t 11) (.c (.d (.i .u64 14181476777654086739))), none⟩,
   ⟨(some 0), .mv (.t 12), none⟩] [])
 (.seq (.region (some [0]) [⟨(some 13), .mv (.t 0), none⟩,
   ⟨(some 14), .mv (.t 0), none⟩,
   ⟨(some 15), .bin .shr (.t 14) (.c (.d (.i .u64 33))), none⟩,
   ⟨(some 16), .bin .xor (.t 13) (.t 15), none⟩,
   ⟨(some 2), .mv (.t 16), none⟩] [])
 (.ret))))
def a21 : AFn := .code 1 c21 [.tmp 2]
set_option maxRecDepth 100000 in
theorem k21 : compF Try.prog h21 21 = some a21 := by kernel_rfl

/-- paddock/paddockref1.Mix -/
def h22 : Hints := { kp := [(0, [0]), (1, [0]), (2, [0]), (3, [0])], lkp := [], lth := [] }
def c22 : ACode :=
 .seq (.region (some [0]) [⟨(some 2), .mv (.c (.d (.i .u64 0))), none⟩] [])
 (.seq (.region (some [0]) [⟨(some 3), .mv (.t 0), none⟩,
   ⟨(some 4), .mv (.t 0), none⟩,
   ⟨(some 5), .bin .shr (.t 4) (.c (.d (.i .u64 33))), none⟩,
   ⟨(some 6), .bin .xor (.t 3) (.t 5), none⟩,
   ⟨(some 7), .bin .mul (.t 6) (.c (.d (.i .u64 18397679294719823053))), none⟩,
   ⟨(some 0), .mv (.t 7), none⟩] [])
 (.seq (.region (some [0]) [⟨(some 8), .mv (.t 0), none⟩,
   ⟨(some 9), .mv (.t 0), none⟩,
   ⟨(some 10), .bin .shr (.t 9) (.c (.d (.i .u64 33))), none⟩,
   ⟨(some 11), .bin .xor (.t 8) (.t 10), none⟩,
   ⟨(some 12), .bin .mul (.t 11) (.c (.d (.i .u64 14181476777654086739))), none⟩,
   ⟨(some 0), .mv (.t 12), none⟩] [])
 (.seq (.region (some [0]) [⟨(some 13), .mv (.t 0), none⟩,
   ⟨(some 14), .mv (.t 0), none⟩,
   ⟨(some 15), .bin .shr (.t 14) (.c (.d (.i .u64 33))), none⟩,
   ⟨(some 16), .bin .xor (.t 13) (.t 15), none⟩,
   ⟨(some 2), .mv (.t 16), none⟩] [])
 (.ret))))
def a22 : AFn := .code 1 c22 [.tmp 2]
set_option maxRecDepth 100000 in
theorem k22 : compF Try.prog h22 22 = some a22 := by kernel_rfl

noncomputable def C : FuncId → Option AFn
  | 3 => some a3
  | 4 => some a4
  | 5 => some a5
  | 6 => some a6
  | 7 => some a7
  | 8 => some a8
  | 9 => some a9
  | 10 => some a10
  | 11 => some a11
  | 12 => some a12
  | 13 => some a13
  | 14 => some a14
  | 15 => some a15
  | 16 => some a16
  | 17 => some a17
  | 18 => some a18
  | 19 => some a19
  | 20 => some a20
  | 21 => some a21
  | 22 => some a22
  | _ => none
theorem hC : CRel Try.prog C := by
  intro f fn h
  unfold C at h
  split at h
  · injection h with h; subst h; exact ⟨h3, k3⟩
  · injection h with h; subst h; exact ⟨h4, k4⟩
  · injection h with h; subst h; exact ⟨h5, k5⟩
  · injection h with h; subst h; exact ⟨h6, k6⟩
  · injection h with h; subst h; exact ⟨h7, k7⟩
  · injection h with h; subst h; exact ⟨h8, k8⟩
  · injection h with h; subst h; exact ⟨h9, k9⟩
  · injection h with h; subst h; exact ⟨h10, k10⟩
  · injection h with h; subst h; exact ⟨h11, k11⟩
  · injection h with h; subst h; exact ⟨h12, k12⟩
  · injection h with h; subst h; exact ⟨h13, k13⟩
  · injection h with h; subst h; exact ⟨h14, k14⟩
  · injection h with h; subst h; exact ⟨h15, k15⟩
  · injection h with h; subst h; exact ⟨h16, k16⟩
  · injection h with h; subst h; exact ⟨h17, k17⟩
  · injection h with h; subst h; exact ⟨h18, k18⟩
  · injection h with h; subst h; exact ⟨h19, k19⟩
  · injection h with h; subst h; exact ⟨h20, k20⟩
  · injection h with h; subst h; exact ⟨h21, k21⟩
  · injection h with h; subst h; exact ⟨h22, k22⟩
  · cases h
end Go.Proofs.Ytpbcjmgjdiiafaa
