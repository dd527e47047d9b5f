/- The calls of TraceRuns's run, each by itself. (Printed by chunk.sh and mkchunks.py.) -/
import Derived.Test.YtdioidceogjalaaGreatDoorYTraceRunst
namespace Go.Proofs.YtdioidceogjalaaGreatDoor.traceRuns
open Go.Dm

abbrev KT := Nat × List V × St × List (V × St)
def M0 : List KT := []
theorem m0 : MemoOk Tryz.prog (env.with M0) := memo_nil

def k1 : KT := (53, [.c (.f (.str [112])), .c (.f (.bool false))], [.cells [.f (.bool false), .f (.bool false)]], [(.t [.c (.f (.sl 1 [.int .i64 0, .int .i64 0, .int .i64 0, .int .i64 0, .int .i64 0, .int .i64 0, .int .u64 0, .int .u64 0, .int .u64 0, .int .u64 0, .nils, .int .i64 0, .int .i64 0, .int .i64 0, .int .i64 0, .int .i64 0, .int .i64 0, .int .u64 0, .int .u64 0, .int .u64 0, .int .u64 0, .nils, .bool false, .int .u8 112, .str [], .int .i64 0, .int .i64 0, .int .i64 0, .int .i64 0, .int .u64 0, .int .u64 0, .int .u64 0, .int .u64 0, .nils, .nils, .bool false, .bool false, .int .i64 0, .str [], .str []])), .c (.f (.int .i64 0)), .c (.f (.int .i64 0))], [.cells [.f (.bool false), .f (.bool false)]])])
theorem r1 : ycall bd (env.with M0) 200 k1.1 k1.2.1 k1.2.2.1 = some k1.2.2.2 := by kernel_rfl
def M1 : List KT := k1 :: M0
theorem m1 : MemoOk Tryz.prog (env.with M1) := ymemo m0 r1

def k2 : KT := (99, [.c (.f (.sl 1 [.int .i64 0, .int .i64 0, .int .i64 0, .int .i64 0, .int .i64 0, .int .i64 0, .int .u64 0, .int .u64 0, .int .u64 0, .int .u64 0, .nils, .int .i64 0, .int .i64 0, .int .i64 0, .int .i64 0, .int .i64 0, .int .i64 0, .int .u64 0, .int .u64 0, .int .u64 0, .int .u64 0, .nils, .bool false, .int .u8 112, .str [], .int .i64 0, .int .i64 0, .int .i64 0, .int .i64 0, .int .u64 0, .int .u64 0, .int .u64 0, .int .u64 0, .nils, .nils, .bool false, .bool false, .int .i64 0, .str [], .str []]))], [.cells [.f (.bool false), .f (.bool false)]], [(.c (.f (.sl 1 [.int .i64 0, .int .i64 0, .int .i64 0, .int .i64 0, .int .i64 0, .int .i64 0, .int .u64 0, .int .u64 0, .int .u64 0, .int .u64 0, .nils, .int .i64 0, .int .i64 0, .int .i64 0, .int .i64 0, .int .i64 0, .int .i64 0, .int .u64 0, .int .u64 0, .int .u64 0, .int .u64 0, .nils, .bool false, .int .u8 112, .str [], .int .i64 0, .int .i64 0, .int .i64 0, .int .i64 0, .int .u64 0, .int .u64 0, .int .u64 0, .int .u64 0, .nils, .nils, .bool false, .bool false, .int .i64 0, .str [], .str []])), [.cells [.f (.bool false), .f (.bool false)]])])
theorem r2 : ycall bd (env.with M1) 200 k2.1 k2.2.1 k2.2.2.1 = some k2.2.2.2 := by kernel_rfl
def M2 : List KT := k2 :: M1
theorem m2 : MemoOk Tryz.prog (env.with M2) := ymemo m1 r2

def k3 : KT := (99, [.c (.f (.sl 1 [.int .i64 0, .int .i64 0, .int .i64 0, .int .i64 0, .int .i64 0, .int .i64 0, .int .u64 0, .int .u64 0, .int .u64 0, .int .u64 0, .nils, .int .i64 0, .int .i64 0, .int .i64 0, .int .i64 0, .int .i64 0, .int .i64 0, .int .u64 0, .int .u64 0, .int .u64 0, .int .u64 0, .nils, .bool false, .int .u8 112, .str [], .int .i64 0, .int .i64 0, .int .i64 0, .int .i64 0, .int .u64 0, .int .u64 0, .int .u64 0, .int .u64 0, .nils, .nils, .bool false, .bool false, .int .i64 0, .str [], .str []]))], [.cells [.f (.bool false), .f (.bool false)], .map []], [(.c (.f (.sl 1 [.int .i64 0, .int .i64 0, .int .i64 0, .int .i64 0, .int .i64 0, .int .i64 0, .int .u64 0, .int .u64 0, .int .u64 0, .int .u64 0, .nils, .int .i64 0, .int .i64 0, .int .i64 0, .int .i64 0, .int .i64 0, .int .i64 0, .int .u64 0, .int .u64 0, .int .u64 0, .int .u64 0, .nils, .bool false, .int .u8 112, .str [], .int .i64 0, .int .i64 0, .int .i64 0, .int .i64 0, .int .u64 0, .int .u64 0, .int .u64 0, .int .u64 0, .nils, .nils, .bool false, .bool false, .int .i64 0, .str [], .str []])), [.cells [.f (.bool false), .f (.bool false)], .map []])])
theorem r3 : ycall bd (env.with M2) 200 k3.1 k3.2.1 k3.2.2.1 = some k3.2.2.2 := by kernel_rfl
def M3 : List KT := k3 :: M2
theorem m3 : MemoOk Tryz.prog (env.with M3) := ymemo m2 r3

def k4 : KT := (54, [.c (.f (.sl 1 [.int .i64 0, .int .i64 0, .int .i64 0, .int .i64 0, .int .i64 0, .int .i64 0, .int .u64 0, .int .u64 0, .int .u64 0, .int .u64 0, .nils, .int .i64 0, .int .i64 0, .int .i64 0, .int .i64 0, .int .i64 0, .int .i64 0, .int .u64 0, .int .u64 0, .int .u64 0, .int .u64 0, .nils, .bool false, .int .u8 112, .str [], .int .i64 0, .int .i64 0, .int .i64 0, .int .i64 0, .int .u64 0, .int .u64 0, .int .u64 0, .int .u64 0, .nils, .nils, .bool false, .bool false, .int .i64 0, .str [], .str []])), .a [.f (.bool false), .f (.bool false)]], [.cells [.f (.bool false), .f (.bool false)]], [(.t [.c (.f (.obj [.bool false, .bool false, .sl 1 [.int .i64 0, .int .i64 0, .int .i64 0, .int .i64 0, .int .i64 0, .int .i64 0, .int .u64 0, .int .u64 0, .int .u64 0, .int .u64 0, .nils, .int .i64 0, .int .i64 0, .int .i64 0, .int .i64 0, .int .i64 0, .int .i64 0, .int .u64 0, .int .u64 0, .int .u64 0, .int .u64 0, .nils, .bool false, .int .u8 112, .str [], .int .i64 0, .int .i64 0, .int .i64 0, .int .i64 0, .int .u64 0, .int .u64 0, .int .u64 0, .int .u64 0, .nils, .nils, .bool false, .bool false, .int .i64 0, .str [], .str []], .sl 1 [.int .i64 (-1)], .nils, .int .i64 0, .bool false])), .c (.f (.int .i64 0)), .c (.f (.int .i64 0))], [.cells [.f (.bool false), .f (.bool false)]])])
theorem r4 : ycall bd (env.with M3) 200 k4.1 k4.2.1 k4.2.2.1 = some k4.2.2.2 := by kernel_rfl
def M4 : List KT := k4 :: M3
theorem m4 : MemoOk Tryz.prog (env.with M4) := ymemo m3 r4

def k5 : KT := (19, [.c (.f (.str [112])), .a [.f (.bool false), .f (.bool false)]], [], [(.t [.c (.f (.obj [.bool false, .bool false, .sl 1 [.int .i64 0, .int .i64 0, .int .i64 0, .int .i64 0, .int .i64 0, .int .i64 0, .int .u64 0, .int .u64 0, .int .u64 0, .int .u64 0, .nils, .int .i64 0, .int .i64 0, .int .i64 0, .int .i64 0, .int .i64 0, .int .i64 0, .int .u64 0, .int .u64 0, .int .u64 0, .int .u64 0, .nils, .bool false, .int .u8 112, .str [], .int .i64 0, .int .i64 0, .int .i64 0, .int .i64 0, .int .u64 0, .int .u64 0, .int .u64 0, .int .u64 0, .nils, .nils, .bool false, .bool false, .int .i64 0, .str [], .str []], .sl 1 [.int .i64 (-1)], .nils, .int .i64 0, .bool false])), .c (.f (.int .i64 0)), .c (.f (.int .i64 0))], [])])
theorem r5 : ycall bd (env.with M4) 200 k5.1 k5.2.1 k5.2.2.1 = some k5.2.2.2 := by kernel_rfl
def M5 : List KT := k5 :: M4
theorem m5 : MemoOk Tryz.prog (env.with M5) := ymemo m4 r5

def k6 : KT := (20, [.c (.f (.obj [.bool false, .bool false, .sl 1 [.int .i64 0, .int .i64 0, .int .i64 0, .int .i64 0, .int .i64 0, .int .i64 0, .int .u64 0, .int .u64 0, .int .u64 0, .int .u64 0, .nils, .int .i64 0, .int .i64 0, .int .i64 0, .int .i64 0, .int .i64 0, .int .i64 0, .int .u64 0, .int .u64 0, .int .u64 0, .int .u64 0, .nils, .bool false, .int .u8 112, .str [], .int .i64 0, .int .i64 0, .int .i64 0, .int .i64 0, .int .u64 0, .int .u64 0, .int .u64 0, .int .u64 0, .nils, .nils, .bool false, .bool false, .int .i64 0, .str [], .str []], .sl 1 [.int .i64 (-1)], .nils, .int .i64 0, .bool false])), .c (.rs 0 9 2)], [.arr true 9 1 [.str [97], .str [98]]], [(.c (.f (.sl 2 [.int .i64 0, .str [], .sl 1 [.bool false], .bool false, .str [], .sl 1 [.bool false], .bool false, .int .i64 1, .sl 2 [.int .i64 0, .str [97, 10], .int .i64 0, .str [97, 10]], .int .i64 1, .int .i64 0, .int .i64 1, .str [], .sl 1 [.bool false], .bool false, .str [], .sl 1 [.bool false], .bool true, .int .i64 2, .sl 2 [.int .i64 0, .str [98, 10], .int .i64 0, .str [98, 10]], .int .i64 1, .int .i64 0])), [.arr false 9 1 [.str [97], .str [98]]])])
theorem r6 : ycall bd (env.with M5) 200 k6.1 k6.2.1 k6.2.2.1 = some k6.2.2.2 := by kernel_rfl
def M6 : List KT := k6 :: M5
theorem m6 : MemoOk Tryz.prog (env.with M6) := ymemo m5 r6

def k7 : KT := (25, [.c (.f (.sl 2 [.int .i64 0, .str [], .sl 1 [.bool false], .bool false, .str [], .sl 1 [.bool false], .bool false, .int .i64 1, .sl 2 [.int .i64 0, .str [97, 10], .int .i64 0, .str [97, 10]], .int .i64 1, .int .i64 0, .int .i64 1, .str [], .sl 1 [.bool false], .bool false, .str [], .sl 1 [.bool false], .bool true, .int .i64 2, .sl 2 [.int .i64 0, .str [98, 10], .int .i64 0, .str [98, 10]], .int .i64 1, .int .i64 0]))], [.arr false 9 1 [.str [97], .str [98]]], [(.c (.f (.bool true)), [.arr false 9 1 [.str [97], .str [98]]])])
theorem r7 : ycall bd (env.with M6) 200 k7.1 k7.2.1 k7.2.2.1 = some k7.2.2.2 := by kernel_rfl
def M7 : List KT := k7 :: M6
theorem m7 : MemoOk Tryz.prog (env.with M7) := ymemo m6 r7

def MM : List KT := M7
theorem mm : MemoOk Tryz.prog (env.with MM) := m7

theorem ran : ycall bd (env.with MM) 200 6 [] [] = some [(.c (.f (.bool true)), [])] := by kernel_rfl
end Go.Proofs.YtdioidceogjalaaGreatDoor.traceRuns
