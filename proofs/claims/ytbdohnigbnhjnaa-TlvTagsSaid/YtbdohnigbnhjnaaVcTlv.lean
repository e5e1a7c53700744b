/- The small-language texts of functions, as the kernel reduces them. -/
import Derived.Test.YtbdohnigbnhjnaaVcOwn
import Derived.KernelRfl
namespace Go.Proofs.Ytbdohnigbnhjnaa.Vc
open Go Go.Vk Go.Proofs
set_option maxRecDepth 100000
def c62 : IF := ⟨1, 14, [(.t 2)], 
 (.seq (.reg false [⟨(some 2), none, (.mv (.c (.d (.bool false)))), 0⟩]) 
 (.seq (.reg false [⟨(some 3), none, (.mv (.t 0)), 0⟩, ⟨(some 4), none, (.bin .geq (.t 3) (.c (.d (.int .i64 1)))), 0⟩, ⟨(some 5), none, (.mv (.t 4)), 0⟩, ⟨(some 6), (some (5, true)), (.mv (.t 0)), 0⟩, ⟨(some 7), (some (5, true)), (.bin .leq (.t 6) (.c (.d (.int .i64 254)))), 0⟩, ⟨(some 8), none, (.pick (.t 5) (.t 7) (.c (.d (.bool false)))), 0⟩, ⟨(some 9), none, (.mv (.t 8)), 0⟩, ⟨(some 10), (some (9, true)), (.mv (.t 0)), 0⟩, ⟨(some 11), (some (9, true)), (.bin .and (.t 10) (.c (.d (.int .i64 31)))), 0⟩, ⟨(some 12), (some (9, true)), (.bin .neq (.t 11) (.c (.d (.int .i64 31)))), 0⟩, ⟨(some 13), none, (.pick (.t 9) (.t 12) (.c (.d (.bool false)))), 0⟩, ⟨(some 2), none, (.mv (.t 13)), 0⟩]) .ret))⟩
theorem h62 : compF Try.prog own Try.f62 = some c62 := by kernel_rfl
theorem k62 : callOk Try.prog 62 = true := by kernel_rfl
def c17 : IF := ⟨1, 6, [(.t 2)], 
 (.seq (.reg false [⟨(some 2), none, (.mv (.c (.d (.bool false)))), 0⟩]) 
 (.seq (.reg false [⟨(some 3), none, (.mv (.t 0)), 0⟩, ⟨(some 4), none, (.bin .and (.t 3) (.c (.d (.int .i64 32)))), 0⟩, ⟨(some 5), none, (.bin .neq (.t 4) (.c (.d (.int .i64 0)))), 0⟩, ⟨(some 2), none, (.mv (.t 5)), 0⟩]) .ret))⟩
theorem h17 : compF Try.prog own Try.f17 = some c17 := by kernel_rfl
theorem k17 : callOk Try.prog 17 = true := by kernel_rfl
def c44 : IF := ⟨2, 53, [(.t 4)], 
 (.seq (.reg false [⟨(some 4), none, (.mv (.c (.d (.int .i64 0)))), 0⟩]) 
 (.seq 
 (.seq (.reg false [⟨(some 8), none, (.mv (.t 0)), 0⟩, ⟨(some 9), none, (.len (.t 8)), 0⟩, ⟨(some 10), none, (.mv (.c (.d (.int .i64 0)))), 0⟩]) (.block 0 (.loop 
 (.seq (.reg false [⟨(some 11), none, (.bin .lss (.t 10) (.t 9)), 0⟩]) 
 (.seq (.cond (.t 11) .skip (.exit 0)) 
 (.seq (.block 1 
 (.seq (.reg false [⟨(some 12), none, (.ia 3 (.t 8) (.t 10)), 0⟩, ⟨(some 13), none, (.ld (some 3) (.t 12)), 0⟩, ⟨(some 6), none, (.box (.c (.agg [(.d (.int .i64 0)), .nils, .nils]))), 0⟩, ⟨none, none, (.st 3 (.t 6) (.t 13)), 0⟩]) 
 (.seq (.block 2 
 (.seq (.reg false [⟨(some 15), none, (.fa (.t 6) 0), 0⟩, ⟨(some 16), none, (.ld none (.t 15)), 0⟩, ⟨(some 17), none, (.call 62 [] [(.t 16)]), 0⟩, ⟨(some 18), none, (.un .not (.t 17)), 0⟩, ⟨(some 14), none, (.mv (.t 18)), 0⟩]) (.cond (.t 14) 
 (.seq (.reg false [⟨(some 4), none, (.mv (.c (.d (.int .i64 15)))), 0⟩]) .ret) 
 (.seq (.reg false [⟨(some 20), none, (.mv (.t 1)), 0⟩, ⟨(some 21), none, (.bin .gtr (.t 20) (.c (.d (.int .i64 6)))), 0⟩, ⟨(some 19), none, (.mv (.t 21)), 0⟩]) (.cond (.t 19) 
 (.seq (.reg false [⟨(some 4), none, (.mv (.c (.d (.int .i64 17)))), 0⟩]) .ret) 
 (.seq (.reg false [⟨(some 23), none, (.fa (.t 6) 0), 0⟩, ⟨(some 24), none, (.ld none (.t 23)), 0⟩, ⟨(some 25), none, (.call 17 [] [(.t 24)]), 0⟩, ⟨(some 26), none, (.mv (.t 25)), 0⟩, ⟨(some 27), (some (26, true)), (.fa (.t 6) 1), 0⟩, ⟨(some 28), (some (26, true)), (.ld none (.t 27)), 0⟩, ⟨(some 29), (some (26, true)), (.len (.t 28)), 0⟩, ⟨(some 30), (some (26, true)), (.bin .gtr (.t 29) (.c (.d (.int .i64 0)))), 0⟩, ⟨(some 31), none, (.pick (.t 26) (.t 30) (.c (.d (.bool false)))), 0⟩, ⟨(some 32), none, (.mv (.t 31)), 0⟩, ⟨(some 33), (some (32, false)), (.fa (.t 6) 0), 0⟩, ⟨(some 34), (some (32, false)), (.ld none (.t 33)), 0⟩, ⟨(some 35), (some (32, false)), (.call 17 [] [(.t 34)]), 0⟩, ⟨(some 36), (some (32, false)), (.un .not (.t 35)), 0⟩, ⟨(some 37), (some (32, false)), (.mv (.t 36)), 0⟩, ⟨(some 38), (some (37, true)), (.fa (.t 6) 2), 0⟩, ⟨(some 39), (some (37, true)), (.ld none (.t 38)), 0⟩, ⟨(some 40), (some (37, true)), (.len (.t 39)), 0⟩, ⟨(some 41), (some (37, true)), (.bin .gtr (.t 40) (.c (.d (.int .i64 0)))), 0⟩, ⟨(some 42), (some (32, false)), (.pick (.t 37) (.t 41) (.c (.d (.bool false)))), 0⟩, ⟨(some 43), none, (.pick (.t 32) (.c (.d (.bool true))) (.t 42)), 0⟩, ⟨(some 22), none, (.mv (.t 43)), 0⟩]) (.cond (.t 22) 
 (.seq (.reg false [⟨(some 4), none, (.mv (.c (.d (.int .i64 12)))), 0⟩]) .ret) .skip))))))) 
 (.seq (.reg false [⟨(some 44), none, (.fa (.t 6) 2), 0⟩, ⟨(some 45), none, (.ld none (.t 44)), 0⟩, ⟨(some 46), none, (.mv (.t 1)), 0⟩, ⟨(some 47), none, (.bin .add (.t 46) (.c (.d (.int .i64 1)))), 0⟩, ⟨(some 48), none, (.call 44 [] [(.t 45), (.t 47)]), 0⟩, ⟨(some 7), none, (.mv (.t 48)), 0⟩]) 
 (.seq (.reg false [⟨(some 49), none, (.mv (.t 7)), 0⟩, ⟨(some 50), none, (.bin .neq (.t 49) (.c (.d (.int .i64 0)))), 0⟩]) (.cond (.t 50) 
 (.seq (.reg false [⟨(some 51), none, (.mv (.t 7)), 0⟩, ⟨(some 4), none, (.mv (.t 51)), 0⟩]) .ret) .skip)))))) (.reg false [⟨(some 52), none, (.bin .add (.t 10) (.c (.d (.int .i64 1)))), 0⟩, ⟨(some 10), none, (.mv (.t 52)), 0⟩]))))))) 
 (.seq (.reg false [⟨(some 4), none, (.mv (.c (.d (.int .i64 0)))), 0⟩]) .ret)))⟩
theorem h44 : compF Try.prog own Try.f44 = some c44 := by kernel_rfl
theorem k44 : callOk Try.prog 44 = true := by kernel_rfl
def c63 : IF := ⟨1, 9, [(.t 2)], 
 (.seq (.reg false [⟨(some 2), none, (.mv (.c (.d (.int .i64 0)))), 0⟩]) 
 (.seq (.block 0 
 (.seq (.reg false [⟨(some 4), none, (.mv (.t 0)), 0⟩, ⟨(some 5), none, (.bin .lss (.t 4) (.c (.d (.int .i64 128)))), 0⟩, ⟨(some 3), none, (.mv (.t 5)), 0⟩]) (.cond (.t 3) 
 (.seq (.reg false [⟨(some 2), none, (.mv (.c (.d (.int .i64 1)))), 0⟩]) .ret) 
 (.seq (.reg false [⟨(some 7), none, (.mv (.t 0)), 0⟩, ⟨(some 8), none, (.bin .lss (.t 7) (.c (.d (.int .i64 256)))), 0⟩, ⟨(some 6), none, (.mv (.t 8)), 0⟩]) (.cond (.t 6) 
 (.seq (.reg false [⟨(some 2), none, (.mv (.c (.d (.int .i64 2)))), 0⟩]) .ret) .skip))))) 
 (.seq (.reg false [⟨(some 2), none, (.mv (.c (.d (.int .i64 3)))), 0⟩]) .ret)))⟩
theorem h63 : compF Try.prog own Try.f63 = some c63 := by kernel_rfl
theorem k63 : callOk Try.prog 63 = true := by kernel_rfl
def c45 : IF := ⟨1, 29, [(.t 2)], 
 (.seq (.reg false [⟨(some 2), none, (.mv (.c (.d (.int .i64 0)))), 0⟩]) 
 (.seq (.reg false [⟨(some 3), none, (.mv (.c (.d (.int .i64 0)))), 0⟩]) 
 (.seq 
 (.seq (.reg false [⟨(some 7), none, (.mv (.t 0)), 0⟩, ⟨(some 8), none, (.len (.t 7)), 0⟩, ⟨(some 9), none, (.mv (.c (.d (.int .i64 0)))), 0⟩]) (.block 0 (.loop 
 (.seq (.reg false [⟨(some 10), none, (.bin .lss (.t 9) (.t 8)), 0⟩]) 
 (.seq (.cond (.t 10) .skip (.exit 0)) 
 (.seq (.block 1 
 (.seq (.reg false [⟨(some 11), none, (.ia 3 (.t 7) (.t 9)), 0⟩, ⟨(some 12), none, (.ld (some 3) (.t 11)), 0⟩, ⟨(some 5), none, (.box (.c (.agg [(.d (.int .i64 0)), .nils, .nils]))), 0⟩, ⟨none, none, (.st 3 (.t 5) (.t 12)), 0⟩]) 
 (.seq (.reg true [⟨(some 13), none, (.fa (.t 5) 1), 0⟩, ⟨(some 14), none, (.ld none (.t 13)), 1⟩, ⟨(some 15), none, (.len (.t 14)), 3⟩, ⟨(some 16), none, (.fa (.t 5) 2), 0⟩, ⟨(some 17), none, (.ld none (.t 16)), 8⟩, ⟨(some 18), none, (.call 45 [] [(.t 17)]), 24⟩, ⟨(some 19), none, (.bin .add (.t 15) (.t 18)), 63⟩, ⟨(some 6), none, (.mv (.t 19)), 127⟩]) (.reg false [⟨(some 20), none, (.mv (.t 3)), 0⟩, ⟨(some 21), none, (.mv (.t 6)), 0⟩, ⟨(some 22), none, (.call 63 [] [(.t 21)]), 0⟩, ⟨(some 23), none, (.bin .add (.c (.d (.int .i64 1))) (.t 22)), 0⟩, ⟨(some 24), none, (.mv (.t 6)), 0⟩, ⟨(some 25), none, (.bin .add (.t 23) (.t 24)), 0⟩, ⟨(some 26), none, (.bin .add (.t 20) (.t 25)), 0⟩, ⟨(some 3), none, (.mv (.t 26)), 0⟩])))) (.reg false [⟨(some 27), none, (.bin .add (.t 9) (.c (.d (.int .i64 1)))), 0⟩, ⟨(some 9), none, (.mv (.t 27)), 0⟩]))))))) 
 (.seq (.reg false [⟨(some 28), none, (.mv (.t 3)), 0⟩, ⟨(some 2), none, (.mv (.t 28)), 0⟩]) .ret))))⟩
theorem h45 : compF Try.prog own Try.f45 = some c45 := by kernel_rfl
theorem k45 : callOk Try.prog 45 = true := by kernel_rfl
def c23 : IF := ⟨1, 8, [(.t 2)], 
 (.seq (.reg false [⟨(some 2), none, (.mv (.c (.d (.int .i64 0)))), 0⟩]) 
 (.seq 
 (.seq (.reg false [⟨(some 3), none, (.mv (.t 0)), 0⟩, ⟨(some 4), none, (.call 44 [] [(.t 3), (.c (.d (.int .i64 0)))]), 0⟩, ⟨(some 5), none, (.bin .neq (.t 4) (.c (.d (.int .i64 0)))), 0⟩]) (.cond (.t 5) 
 (.seq (.reg false [⟨(some 2), none, (.mv (.c (.d (.int .i64 0)))), 0⟩]) .ret) .skip)) 
 (.seq (.reg false [⟨(some 6), none, (.mv (.t 0)), 0⟩, ⟨(some 7), none, (.call 45 [] [(.t 6)]), 0⟩, ⟨(some 2), none, (.mv (.t 7)), 0⟩]) .ret)))⟩
theorem h23 : compF Try.prog own Try.f23 = some c23 := by kernel_rfl
theorem k23 : callOk Try.prog 23 = true := by kernel_rfl
def c46 : IF := ⟨2, 60, [(.t 4)], 
 (.seq (.reg false [⟨(some 4), none, (.mv (.c .nils)), 0⟩]) 
 (.seq 
 (.seq (.reg false [⟨(some 8), none, (.mv (.t 1)), 0⟩, ⟨(some 9), none, (.len (.t 8)), 0⟩, ⟨(some 10), none, (.mv (.c (.d (.int .i64 0)))), 0⟩]) (.block 0 (.loop 
 (.seq (.reg false [⟨(some 11), none, (.bin .lss (.t 10) (.t 9)), 0⟩]) 
 (.seq (.cond (.t 11) .skip (.exit 0)) 
 (.seq (.block 1 
 (.seq (.reg false [⟨(some 12), none, (.ia 3 (.t 8) (.t 10)), 0⟩, ⟨(some 13), none, (.ld (some 3) (.t 12)), 0⟩, ⟨(some 6), none, (.box (.c (.agg [(.d (.int .i64 0)), .nils, .nils]))), 0⟩, ⟨none, none, (.st 3 (.t 6) (.t 13)), 0⟩]) 
 (.seq (.reg true [⟨(some 14), none, (.fa (.t 6) 1), 0⟩, ⟨(some 15), none, (.ld none (.t 14)), 1⟩, ⟨(some 16), none, (.len (.t 15)), 3⟩, ⟨(some 17), none, (.fa (.t 6) 2), 0⟩, ⟨(some 18), none, (.ld none (.t 17)), 8⟩, ⟨(some 19), none, (.call 45 [] [(.t 18)]), 24⟩, ⟨(some 20), none, (.bin .add (.t 16) (.t 19)), 63⟩, ⟨(some 7), none, (.mv (.t 20)), 127⟩]) 
 (.seq (.reg false [⟨(some 21), none, (.mv (.t 0)), 0⟩, ⟨(some 22), none, (.fa (.t 6) 0), 0⟩, ⟨(some 23), none, (.ld none (.t 22)), 0⟩, ⟨(some 24), none, (.cvi .u8 (.t 23)), 0⟩, ⟨(some 25), none, (.bsl 5 1 1 [(.int .u8 0)] [(0, 1, (.t 24))]), 0⟩, ⟨(some 26), none, (.app 5 1 1 (.t 21) (.t 25)), 0⟩, ⟨(some 0), none, (.mv (.t 26)), 0⟩]) 
 (.seq 
 (.seq (.reg false [⟨(some 27), none, (.mv (.t 7)), 0⟩, ⟨(some 28), none, (.call 63 [] [(.t 27)]), 0⟩]) (.block 2 
 (.seq (.reg false [⟨(some 38), none, (.bin .eql (.t 28) (.c (.d (.int .i64 1)))), 0⟩, ⟨(some 37), none, (.mv (.t 38)), 0⟩]) (.cond (.t 37) (.reg false [⟨(some 39), none, (.mv (.t 0)), 0⟩, ⟨(some 40), none, (.mv (.t 7)), 0⟩, ⟨(some 41), none, (.cvi .u8 (.t 40)), 0⟩, ⟨(some 42), none, (.bsl 5 1 1 [(.int .u8 0)] [(0, 1, (.t 41))]), 0⟩, ⟨(some 43), none, (.app 5 1 1 (.t 39) (.t 42)), 0⟩, ⟨(some 0), none, (.mv (.t 43)), 0⟩]) 
 (.seq (.reg false [⟨(some 45), none, (.bin .eql (.t 28) (.c (.d (.int .i64 2)))), 0⟩, ⟨(some 44), none, (.mv (.t 45)), 0⟩]) (.cond (.t 44) (.reg false [⟨(some 46), none, (.mv (.t 0)), 0⟩, ⟨(some 47), none, (.mv (.t 7)), 0⟩, ⟨(some 48), none, (.cvi .u8 (.t 47)), 0⟩, ⟨(some 49), none, (.bsl 5 1 2 [(.int .u8 0), (.int .u8 0)] [(0, 1, (.c (.d (.int .u8 129)))), (1, 1, (.t 48))]), 0⟩, ⟨(some 50), none, (.app 5 1 1 (.t 46) (.t 49)), 0⟩, ⟨(some 0), none, (.mv (.t 50)), 0⟩]) (.reg false [⟨(some 29), none, (.mv (.t 0)), 0⟩, ⟨(some 30), none, (.mv (.t 7)), 0⟩, ⟨(some 31), none, (.bin .shr (.t 30) (.c (.d (.int .u64 8)))), 0⟩, ⟨(some 32), none, (.cvi .u8 (.t 31)), 0⟩, ⟨(some 33), none, (.mv (.t 7)), 0⟩, ⟨(some 34), none, (.cvi .u8 (.t 33)), 0⟩, ⟨(some 35), none, (.bsl 5 1 3 [(.int .u8 0), (.int .u8 0), (.int .u8 0)] [(0, 1, (.c (.d (.int .u8 130)))), (1, 1, (.t 32)), (2, 1, (.t 34))]), 0⟩, ⟨(some 36), none, (.app 5 1 1 (.t 29) (.t 35)), 0⟩, ⟨(some 0), none, (.mv (.t 36)), 0⟩]))))))) (.reg true [⟨(some 51), none, (.mv (.t 0)), 0⟩, ⟨(some 52), none, (.fa (.t 6) 1), 0⟩, ⟨(some 53), none, (.ld none (.t 52)), 2⟩, ⟨(some 54), none, (.app 5 1 1 (.t 51) (.t 53)), 7⟩, ⟨(some 55), none, (.fa (.t 6) 2), 0⟩, ⟨(some 56), none, (.ld none (.t 55)), 16⟩, ⟨(some 57), none, (.call 46 [(0, 5, 1)] [(.t 54), (.t 56)]), 63⟩, ⟨(some 0), none, (.mv (.t 57)), 127⟩])))))) (.reg false [⟨(some 58), none, (.bin .add (.t 10) (.c (.d (.int .i64 1)))), 0⟩, ⟨(some 10), none, (.mv (.t 58)), 0⟩]))))))) 
 (.seq (.reg false [⟨(some 59), none, (.mv (.t 0)), 0⟩, ⟨(some 4), none, (.mv (.t 59)), 0⟩]) .ret)))⟩
theorem h46 : compF Try.prog own Try.f46 = some c46 := by kernel_rfl
theorem k46 : callOk Try.prog 46 = true := by kernel_rfl
def c16 : IF := ⟨1, 15, [(.t 2), (.t 3)], 
 (.seq (.reg false [⟨(some 2), none, (.mv (.c .nils)), 0⟩, ⟨(some 3), none, (.mv (.c (.d (.int .i64 0)))), 0⟩]) 
 (.seq 
 (.seq (.reg false [⟨(some 5), none, (.mv (.t 0)), 0⟩, ⟨(some 6), none, (.call 44 [] [(.t 5), (.c (.d (.int .i64 0)))]), 0⟩, ⟨(some 4), none, (.mv (.t 6)), 0⟩]) 
 (.seq (.reg false [⟨(some 7), none, (.mv (.t 4)), 0⟩, ⟨(some 8), none, (.bin .neq (.t 7) (.c (.d (.int .i64 0)))), 0⟩]) (.cond (.t 8) 
 (.seq (.reg false [⟨(some 9), none, (.mv (.t 4)), 0⟩, ⟨(some 2), none, (.mv (.c .nils)), 0⟩, ⟨(some 3), none, (.mv (.t 9)), 0⟩]) .ret) .skip))) 
 (.seq 
 (.seq (.reg false [⟨(some 10), none, (.mv (.t 0)), 0⟩, ⟨(some 11), none, (.call 45 [] [(.t 10)]), 0⟩, ⟨(some 12), none, (.bin .gtr (.t 11) (.c (.d (.int .i64 1500)))), 0⟩]) (.cond (.t 12) 
 (.seq (.reg false [⟨(some 2), none, (.mv (.c .nils)), 0⟩, ⟨(some 3), none, (.mv (.c (.d (.int .i64 4)))), 0⟩]) .ret) .skip)) 
 (.seq (.reg false [⟨(some 13), none, (.mv (.t 0)), 0⟩, ⟨(some 14), none, (.call 46 [(0, 5, 1)] [(.c .nils), (.t 13)]), 0⟩, ⟨(some 2), none, (.mv (.t 14)), 0⟩, ⟨(some 3), none, (.mv (.c (.d (.int .i64 0)))), 0⟩]) .ret))))⟩
theorem h16 : compF Try.prog own Try.f16 = some c16 := by kernel_rfl
theorem k16 : callOk Try.prog 16 = true := by kernel_rfl
def c20 : IF := ⟨1, 11, [(.t 2), (.t 3)], 
 (.seq (.reg false [⟨(some 2), none, (.mv (.c .nils)), 0⟩, ⟨(some 3), none, (.mv (.c (.d (.int .i64 0)))), 0⟩]) 
 (.seq 
 (.seq (.reg false [⟨(some 4), none, (.mv (.t 0)), 0⟩, ⟨(some 5), none, (.len (.t 4)), 0⟩, ⟨(some 6), none, (.bin .gtr (.t 5) (.c (.d (.int .i64 1500)))), 0⟩]) (.cond (.t 6) 
 (.seq (.reg false [⟨(some 2), none, (.mv (.c .nils)), 0⟩, ⟨(some 3), none, (.mv (.c (.d (.int .i64 4)))), 0⟩]) .ret) .skip)) 
 (.seq (.reg false [⟨(some 7), none, (.mv (.t 0)), 0⟩, ⟨(some 8), none, (.call 48 [] [(.t 7), (.c (.d (.int .i64 0)))]), 0⟩, ⟨(some 9), none, (.ex (.t 8) 0), 0⟩, ⟨(some 10), none, (.ex (.t 8) 1), 0⟩, ⟨(some 2), none, (.mv (.t 9)), 0⟩, ⟨(some 3), none, (.mv (.t 10)), 0⟩]) .ret)))⟩
theorem h20 : compF Try.prog own Try.f20 = some c20 := by kernel_rfl
theorem k20 : callOk Try.prog 20 = true := by kernel_rfl
def c48 : IF := ⟨2, 75, [(.t 4), (.t 5)], 
 (.seq (.reg false [⟨(some 4), none, (.mv (.c .nils)), 0⟩, ⟨(some 5), none, (.mv (.c (.d (.int .i64 0)))), 0⟩]) (.scope 
 (.seq (.reg false [⟨(some 6), none, (.mv (.c .nils)), 0⟩]) 
 (.seq (.label 0) 
 (.seq 
 (.seq (.reg false [⟨(some 12), none, (.mv (.t 0)), 0⟩, ⟨(some 13), none, (.len (.t 12)), 0⟩, ⟨(some 14), none, (.bin .eql (.t 13) (.c (.d (.int .i64 0)))), 0⟩]) (.cond (.t 14) 
 (.seq (.reg false [⟨(some 15), none, (.mv (.t 6)), 0⟩, ⟨(some 4), none, (.mv (.t 15)), 0⟩, ⟨(some 5), none, (.mv (.c (.d (.int .i64 0)))), 0⟩]) .ret) .skip)) 
 (.seq (.reg false [⟨(some 16), none, (.mv (.t 0)), 0⟩, ⟨(some 17), none, (.ia 1 (.t 16) (.c (.d (.int .i64 0)))), 0⟩, ⟨(some 18), none, (.ld none (.t 17)), 0⟩, ⟨(some 19), none, (.cvi .i64 (.t 18)), 0⟩, ⟨(some 20), none, (.build [(.d (.int .i64 0)), .nils, .nils] [(0, 1, (.t 19))]), 0⟩, ⟨(some 7), none, (.box (.c (.agg [(.d (.int .i64 0)), .nils, .nils]))), 0⟩, ⟨none, none, (.st 3 (.t 7) (.t 20)), 0⟩]) 
 (.seq (.block 0 
 (.seq (.reg false [⟨(some 22), none, (.fa (.t 7) 0), 0⟩, ⟨(some 23), none, (.ld none (.t 22)), 0⟩, ⟨(some 24), none, (.call 62 [] [(.t 23)]), 0⟩, ⟨(some 25), none, (.un .not (.t 24)), 0⟩, ⟨(some 21), none, (.mv (.t 25)), 0⟩]) (.cond (.t 21) 
 (.seq (.reg false [⟨(some 4), none, (.mv (.c .nils)), 0⟩, ⟨(some 5), none, (.mv (.c (.d (.int .i64 15)))), 0⟩]) .ret) 
 (.seq (.reg false [⟨(some 27), none, (.mv (.t 1)), 0⟩, ⟨(some 28), none, (.bin .gtr (.t 27) (.c (.d (.int .i64 6)))), 0⟩, ⟨(some 26), none, (.mv (.t 28)), 0⟩]) (.cond (.t 26) 
 (.seq (.reg false [⟨(some 4), none, (.mv (.c .nils)), 0⟩, ⟨(some 5), none, (.mv (.c (.d (.int .i64 17)))), 0⟩]) .ret) .skip))))) 
 (.seq (.reg false [⟨(some 30), none, (.mv (.t 0)), 0⟩, ⟨(some 31), none, (.sl 1 (.t 30) (some (.c (.d (.int .i64 1)))) none none), 0⟩, ⟨(some 32), none, (.call 64 [] [(.t 31)]), 0⟩, ⟨(some 29), none, (.mv (.t 32)), 0⟩, ⟨(some 33), none, (.ex (.t 29) 0), 0⟩, ⟨(some 34), none, (.ex (.t 29) 1), 0⟩, ⟨(some 35), none, (.ex (.t 29) 2), 0⟩, ⟨(some 8), none, (.mv (.t 33)), 0⟩, ⟨(some 9), none, (.mv (.t 34)), 0⟩, ⟨(some 10), none, (.mv (.t 35)), 0⟩]) 
 (.seq 
 (.seq (.reg false [⟨(some 36), none, (.mv (.t 10)), 0⟩, ⟨(some 37), none, (.bin .neq (.t 36) (.c (.d (.int .i64 0)))), 0⟩]) (.cond (.t 37) 
 (.seq (.reg false [⟨(some 38), none, (.mv (.t 10)), 0⟩, ⟨(some 4), none, (.mv (.c .nils)), 0⟩, ⟨(some 5), none, (.mv (.t 38)), 0⟩]) .ret) .skip)) 
 (.seq (.reg false [⟨(some 39), none, (.mv (.t 0)), 0⟩, ⟨(some 40), none, (.mv (.t 9)), 0⟩, ⟨(some 41), none, (.bin .add (.c (.d (.int .i64 1))) (.t 40)), 0⟩, ⟨(some 42), none, (.sl 1 (.t 39) (some (.t 41)) none none), 0⟩, ⟨(some 0), none, (.mv (.t 42)), 0⟩]) 
 (.seq 
 (.seq (.reg false [⟨(some 43), none, (.mv (.t 8)), 0⟩, ⟨(some 44), none, (.mv (.t 0)), 0⟩, ⟨(some 45), none, (.len (.t 44)), 0⟩, ⟨(some 46), none, (.bin .gtr (.t 43) (.t 45)), 0⟩]) (.cond (.t 46) 
 (.seq (.reg false [⟨(some 4), none, (.mv (.c .nils)), 0⟩, ⟨(some 5), none, (.mv (.c (.d (.int .i64 13)))), 0⟩]) .ret) .skip)) 
 (.seq (.reg false [⟨(some 47), none, (.mv (.t 0)), 0⟩, ⟨(some 48), none, (.mv (.t 8)), 0⟩, ⟨(some 49), none, (.mv (.t 8)), 0⟩, ⟨(some 50), none, (.sl 1 (.t 47) none (some (.t 48)) (some (.t 49))), 0⟩, ⟨(some 11), none, (.mv (.t 50)), 0⟩]) 
 (.seq 
 (.seq (.reg false [⟨(some 51), none, (.fa (.t 7) 0), 0⟩, ⟨(some 52), none, (.ld none (.t 51)), 0⟩, ⟨(some 53), none, (.call 17 [] [(.t 52)]), 0⟩]) (.cond (.t 53) 
 (.seq (.reg false [⟨(some 55), none, (.mv (.t 11)), 0⟩, ⟨(some 56), none, (.mv (.t 1)), 0⟩, ⟨(some 57), none, (.bin .add (.t 56) (.c (.d (.int .i64 1)))), 0⟩, ⟨(some 58), none, (.call 48 [] [(.t 55), (.t 57)]), 0⟩, ⟨(some 54), none, (.mv (.t 58)), 0⟩, ⟨(some 59), none, (.ex (.t 54) 0), 0⟩, ⟨(some 60), none, (.ex (.t 54) 1), 0⟩, ⟨(some 61), none, (.fa (.t 7) 2), 0⟩, ⟨none, none, (.st 1 (.t 61) (.t 59)), 0⟩, ⟨(some 10), none, (.mv (.t 60)), 0⟩]) 
 (.seq (.reg false [⟨(some 62), none, (.mv (.t 10)), 0⟩, ⟨(some 63), none, (.bin .neq (.t 62) (.c (.d (.int .i64 0)))), 0⟩]) (.cond (.t 63) 
 (.seq (.reg false [⟨(some 64), none, (.mv (.t 10)), 0⟩, ⟨(some 4), none, (.mv (.c .nils)), 0⟩, ⟨(some 5), none, (.mv (.t 64)), 0⟩]) .ret) .skip))) (.reg false [⟨(some 65), none, (.mv (.t 11)), 0⟩, ⟨(some 66), none, (.call 65 [] [(.t 65)]), 0⟩, ⟨(some 67), none, (.fa (.t 7) 1), 0⟩, ⟨none, none, (.st 1 (.t 67) (.t 66)), 0⟩]))) 
 (.seq (.reg true [⟨(some 68), none, (.mv (.t 6)), 0⟩, ⟨(some 69), none, (.ld (some 3) (.t 7)), 0⟩, ⟨(some 70), none, (.bsl 26 3 1 [(.int .i64 0), (.slice 0 []), (.slice 0 [])] [(0, 3, (.t 69))]), 2⟩, ⟨(some 71), none, (.app 26 3 56 (.t 68) (.t 70)), 7⟩, ⟨(some 72), none, (.mv (.t 0)), 0⟩, ⟨(some 73), none, (.mv (.t 8)), 0⟩, ⟨(some 74), none, (.sl 1 (.t 72) (some (.t 73)) none none), 48⟩, ⟨(some 6), none, (.mv (.t 71)), 15⟩, ⟨(some 0), none, (.mv (.t 74)), 255⟩]) (.goto 0)))))))))))))))⟩
theorem h48 : compF Try.prog own Try.f48 = some c48 := by kernel_rfl
theorem k48 : callOk Try.prog 48 = true := by kernel_rfl
def c64 : IF := ⟨1, 55, [(.t 2), (.t 3), (.t 4)], 
 (.seq (.reg false [⟨(some 2), none, (.mv (.c (.d (.int .i64 0)))), 0⟩, ⟨(some 3), none, (.mv (.c (.d (.int .i64 0)))), 0⟩, ⟨(some 4), none, (.mv (.c (.d (.int .i64 0)))), 0⟩]) 
 (.seq 
 (.seq (.reg false [⟨(some 7), none, (.mv (.t 0)), 0⟩, ⟨(some 8), none, (.len (.t 7)), 0⟩, ⟨(some 9), none, (.bin .eql (.t 8) (.c (.d (.int .i64 0)))), 0⟩]) (.cond (.t 9) 
 (.seq (.reg false [⟨(some 2), none, (.mv (.c (.d (.int .i64 0)))), 0⟩, ⟨(some 3), none, (.mv (.c (.d (.int .i64 0)))), 0⟩, ⟨(some 4), none, (.mv (.c (.d (.int .i64 13)))), 0⟩]) .ret) .skip)) 
 (.seq (.reg false [⟨(some 3), none, (.mv (.c (.d (.int .i64 1)))), 0⟩]) 
 (.seq 
 (.seq (.reg false [⟨(some 10), none, (.mv (.t 0)), 0⟩, ⟨(some 11), none, (.ia 1 (.t 10) (.c (.d (.int .i64 0)))), 0⟩, ⟨(some 12), none, (.ld none (.t 11)), 0⟩]) (.block 0 
 (.seq (.reg false [⟨(some 14), none, (.bin .eql (.t 12) (.c (.d (.int .u8 129)))), 0⟩, ⟨(some 13), none, (.mv (.t 14)), 0⟩]) (.cond (.t 13) (.reg false [⟨(some 3), none, (.mv (.c (.d (.int .i64 2)))), 0⟩]) 
 (.seq (.reg false [⟨(some 16), none, (.bin .eql (.t 12) (.c (.d (.int .u8 130)))), 0⟩, ⟨(some 15), none, (.mv (.t 16)), 0⟩]) (.cond (.t 15) (.reg false [⟨(some 3), none, (.mv (.c (.d (.int .i64 3)))), 0⟩]) .skip)))))) 
 (.seq 
 (.seq (.reg false [⟨(some 17), none, (.mv (.t 0)), 0⟩, ⟨(some 18), none, (.len (.t 17)), 0⟩, ⟨(some 19), none, (.mv (.t 3)), 0⟩, ⟨(some 20), none, (.bin .lss (.t 18) (.t 19)), 0⟩]) (.cond (.t 20) 
 (.seq (.reg false [⟨(some 2), none, (.mv (.c (.d (.int .i64 0)))), 0⟩, ⟨(some 3), none, (.mv (.c (.d (.int .i64 0)))), 0⟩, ⟨(some 4), none, (.mv (.c (.d (.int .i64 13)))), 0⟩]) .ret) .skip)) 
 (.seq (.reg false [⟨(some 21), none, (.mv (.t 0)), 0⟩, ⟨(some 22), none, (.ia 1 (.t 21) (.c (.d (.int .i64 0)))), 0⟩, ⟨(some 23), none, (.ld none (.t 22)), 0⟩, ⟨(some 24), none, (.cvi .i64 (.t 23)), 0⟩, ⟨(some 2), none, (.mv (.t 24)), 0⟩]) 
 (.seq 
 (.seq (.reg false [⟨(some 25), none, (.mv (.t 3)), 0⟩, ⟨(some 26), none, (.bin .gtr (.t 25) (.c (.d (.int .i64 1)))), 0⟩]) (.cond (.t 26) 
 (.seq (.reg false [⟨(some 2), none, (.mv (.c (.d (.int .i64 0)))), 0⟩]) 
 (.seq (.reg false [⟨(some 27), none, (.mv (.t 0)), 0⟩, ⟨(some 28), none, (.mv (.t 3)), 0⟩, ⟨(some 29), none, (.sl 1 (.t 27) (some (.c (.d (.int .i64 1)))) (some (.t 28)) none), 0⟩, ⟨(some 30), none, (.len (.t 29)), 0⟩, ⟨(some 31), none, (.mv (.c (.d (.int .i64 0)))), 0⟩]) (.block 1 (.loop 
 (.seq (.reg false [⟨(some 32), none, (.bin .lss (.t 31) (.t 30)), 0⟩]) 
 (.seq (.cond (.t 32) .skip (.exit 1)) 
 (.seq (.block 2 
 (.seq (.reg false [⟨(some 33), none, (.ia 1 (.t 29) (.t 31)), 0⟩, ⟨(some 34), none, (.ld none (.t 33)), 0⟩, ⟨(some 6), none, (.mv (.t 34)), 0⟩]) (.reg false [⟨(some 35), none, (.mv (.t 2)), 0⟩, ⟨(some 36), none, (.bin .shl (.t 35) (.c (.d (.int .u64 8)))), 0⟩, ⟨(some 37), none, (.mv (.t 6)), 0⟩, ⟨(some 38), none, (.cvi .i64 (.t 37)), 0⟩, ⟨(some 39), none, (.bin .or (.t 36) (.t 38)), 0⟩, ⟨(some 2), none, (.mv (.t 39)), 0⟩]))) (.reg false [⟨(some 40), none, (.bin .add (.t 31) (.c (.d (.int .i64 1)))), 0⟩, ⟨(some 31), none, (.mv (.t 40)), 0⟩])))))))) .skip)) 
 (.seq 
 (.seq (.reg false [⟨(some 41), none, (.mv (.t 3)), 0⟩, ⟨(some 42), none, (.bin .eql (.t 41) (.c (.d (.int .i64 1)))), 0⟩, ⟨(some 43), none, (.mv (.t 42)), 0⟩, ⟨(some 44), (some (43, true)), (.mv (.t 2)), 0⟩, ⟨(some 45), (some (43, true)), (.bin .gtr (.t 44) (.c (.d (.int .i64 127)))), 0⟩, ⟨(some 46), none, (.pick (.t 43) (.t 45) (.c (.d (.bool false)))), 0⟩, ⟨(some 47), none, (.mv (.t 46)), 0⟩, ⟨(some 48), (some (47, false)), (.mv (.t 2)), 0⟩, ⟨(some 49), (some (47, false)), (.call 63 [] [(.t 48)]), 0⟩, ⟨(some 50), (some (47, false)), (.mv (.t 3)), 0⟩, ⟨(some 51), (some (47, false)), (.bin .neq (.t 49) (.t 50)), 0⟩, ⟨(some 52), none, (.pick (.t 47) (.c (.d (.bool true))) (.t 51)), 0⟩]) (.cond (.t 52) 
 (.seq (.reg false [⟨(some 2), none, (.mv (.c (.d (.int .i64 0)))), 0⟩, ⟨(some 3), none, (.mv (.c (.d (.int .i64 0)))), 0⟩, ⟨(some 4), none, (.mv (.c (.d (.int .i64 16)))), 0⟩]) .ret) .skip)) 
 (.seq (.reg false [⟨(some 53), none, (.mv (.t 2)), 0⟩, ⟨(some 54), none, (.mv (.t 3)), 0⟩, ⟨(some 2), none, (.mv (.t 53)), 0⟩, ⟨(some 3), none, (.mv (.t 54)), 0⟩, ⟨(some 4), none, (.mv (.c (.d (.int .i64 0)))), 0⟩]) .ret)))))))))⟩
theorem h64 : compF Try.prog own Try.f64 = some c64 := by kernel_rfl
theorem k64 : callOk Try.prog 64 = true := by kernel_rfl
def c24 : IF := ⟨2, 8, [(.t 4)], 
 (.seq (.reg false [⟨(some 4), none, (.mv (.c (.d (.bool false)))), 0⟩]) 
 (.seq (.reg false [⟨(some 5), none, (.mv (.t 0)), 0⟩, ⟨(some 6), none, (.mv (.t 1)), 0⟩, ⟨(some 7), none, (.call 49 [] [(.t 5), (.t 6), (.c (.fn 50 []))]), 0⟩, ⟨(some 4), none, (.mv (.t 7)), 0⟩]) .ret))⟩
theorem h24 : compF Try.prog own Try.f24 = some c24 := by kernel_rfl
theorem k24 : callOk Try.prog 24 = true := by kernel_rfl
def c50 : IF := ⟨2, 24, [(.t 4)], 
 (.seq (.reg false [⟨(some 2), none, (.box (.t 0)), 0⟩, ⟨(some 3), none, (.box (.t 1)), 0⟩, ⟨(some 4), none, (.mv (.c (.d (.bool false)))), 0⟩]) 
 (.seq (.reg false [⟨(some 5), none, (.fa (.t 2) 0), 0⟩, ⟨(some 6), none, (.ld none (.t 5)), 0⟩, ⟨(some 7), none, (.fa (.t 3) 0), 0⟩, ⟨(some 8), none, (.ld none (.t 7)), 0⟩, ⟨(some 9), none, (.bin .eql (.t 6) (.t 8)), 0⟩, ⟨(some 10), none, (.mv (.t 9)), 0⟩, ⟨(some 11), (some (10, true)), (.fa (.t 2) 1), 0⟩, ⟨(some 12), (some (10, true)), (.ld none (.t 11)), 0⟩, ⟨(some 13), (some (10, true)), (.fa (.t 3) 1), 0⟩, ⟨(some 14), (some (10, true)), (.ld none (.t 13)), 0⟩, ⟨(some 15), (some (10, true)), (.call 51 [] [(.t 12), (.t 14)]), 0⟩, ⟨(some 16), none, (.pick (.t 10) (.t 15) (.c (.d (.bool false)))), 0⟩, ⟨(some 17), none, (.mv (.t 16)), 0⟩, ⟨(some 18), (some (17, true)), (.fa (.t 2) 2), 0⟩, ⟨(some 19), (some (17, true)), (.ld none (.t 18)), 0⟩, ⟨(some 20), (some (17, true)), (.fa (.t 3) 2), 0⟩, ⟨(some 21), (some (17, true)), (.ld none (.t 20)), 0⟩, ⟨(some 22), (some (17, true)), (.call 24 [] [(.t 19), (.t 21)]), 0⟩, ⟨(some 23), none, (.pick (.t 17) (.t 22) (.c (.d (.bool false)))), 0⟩, ⟨(some 4), none, (.mv (.t 23)), 0⟩]) .ret))⟩
theorem h50 : compF Try.prog own Try.f50 = some c50 := by kernel_rfl
theorem k50 : callOk Try.prog 50 = true := by kernel_rfl
def c49 : IF := ⟨3, 32, [(.t 6)], 
 (.seq (.reg false [⟨(some 6), none, (.mv (.c (.d (.bool false)))), 0⟩]) 
 (.seq 
 (.seq (.reg false [⟨(some 10), none, (.mv (.t 0)), 0⟩, ⟨(some 11), none, (.len (.t 10)), 0⟩, ⟨(some 12), none, (.mv (.t 1)), 0⟩, ⟨(some 13), none, (.len (.t 12)), 0⟩, ⟨(some 14), none, (.bin .neq (.t 11) (.t 13)), 0⟩]) (.cond (.t 14) 
 (.seq (.reg false [⟨(some 6), none, (.mv (.c (.d (.bool false)))), 0⟩]) .ret) .skip)) 
 (.seq 
 (.seq (.reg false [⟨(some 15), none, (.mv (.t 0)), 0⟩, ⟨(some 16), none, (.len (.t 15)), 0⟩, ⟨(some 17), none, (.mv (.c (.d (.int .i64 0)))), 0⟩]) (.block 0 (.loop 
 (.seq (.reg false [⟨(some 18), none, (.bin .lss (.t 17) (.t 16)), 0⟩]) 
 (.seq (.cond (.t 18) .skip (.exit 0)) 
 (.seq (.block 1 
 (.seq (.reg false [⟨(some 19), none, (.mv (.t 17)), 0⟩, ⟨(some 20), none, (.ia 3 (.t 15) (.t 17)), 0⟩, ⟨(some 21), none, (.ld (some 3) (.t 20)), 0⟩, ⟨(some 8), none, (.box (.c (.agg [(.d (.int .i64 0)), .nils, .nils]))), 0⟩, ⟨(some 7), none, (.mv (.t 19)), 0⟩, ⟨none, none, (.st 3 (.t 8) (.t 21)), 0⟩]) 
 (.seq (.reg false [⟨(some 22), none, (.mv (.t 1)), 0⟩, ⟨(some 23), none, (.mv (.t 7)), 0⟩, ⟨(some 24), none, (.ia 3 (.t 22) (.t 23)), 0⟩, ⟨(some 25), none, (.ld (some 3) (.t 24)), 0⟩, ⟨(some 9), none, (.box (.c (.agg [(.d (.int .i64 0)), .nils, .nils]))), 0⟩, ⟨none, none, (.st 3 (.t 9) (.t 25)), 0⟩]) 
 (.seq (.reg false [⟨(some 26), none, (.mv (.t 2)), 0⟩, ⟨(some 27), none, (.ld (some 3) (.t 8)), 0⟩, ⟨(some 28), none, (.ld (some 3) (.t 9)), 0⟩, ⟨(some 29), none, (.callv (.t 26) [(.t 27), (.t 28)]), 0⟩, ⟨(some 30), none, (.un .not (.t 29)), 0⟩]) (.cond (.t 30) 
 (.seq (.reg false [⟨(some 6), none, (.mv (.c (.d (.bool false)))), 0⟩]) .ret) .skip))))) (.reg false [⟨(some 31), none, (.bin .add (.t 17) (.c (.d (.int .i64 1)))), 0⟩, ⟨(some 17), none, (.mv (.t 31)), 0⟩]))))))) 
 (.seq (.reg false [⟨(some 6), none, (.mv (.c (.d (.bool true)))), 0⟩]) .ret))))⟩
theorem h49 : compF Try.prog own Try.f49 = some c49 := by kernel_rfl
theorem k49 : callOk Try.prog 49 = true := by kernel_rfl
def c51 : IF := ⟨2, 10, [(.t 4)], 
 (.seq (.reg false [⟨(some 4), none, (.mv (.c (.d (.bool false)))), 0⟩]) 
 (.seq (.reg false [⟨(some 5), none, (.mv (.t 0)), 0⟩, ⟨(some 6), none, (.b2s (.t 5)), 0⟩, ⟨(some 7), none, (.mv (.t 1)), 0⟩, ⟨(some 8), none, (.b2s (.t 7)), 0⟩, ⟨(some 9), none, (.bin .eql (.t 6) (.t 8)), 0⟩, ⟨(some 4), none, (.mv (.t 9)), 0⟩]) .ret))⟩
theorem h51 : compF Try.prog own Try.f51 = some c51 := by kernel_rfl
theorem k51 : callOk Try.prog 51 = true := by kernel_rfl
def c65 : IF := ⟨1, 8, [(.t 2)], 
 (.seq (.reg false [⟨(some 2), none, (.mv (.c .nils)), 0⟩]) 
 (.seq 
 (.seq (.reg false [⟨(some 3), none, (.mv (.t 0)), 0⟩, ⟨(some 4), none, (.isnil false (.t 3)), 0⟩]) (.cond (.t 4) 
 (.seq (.reg false [⟨(some 2), none, (.mv (.c .nils)), 0⟩]) .ret) .skip)) 
 (.seq (.reg false [⟨(some 5), none, (.bsl 5 1 0 [] []), 0⟩, ⟨(some 6), none, (.mv (.t 0)), 0⟩, ⟨(some 7), none, (.app 5 1 1 (.t 5) (.t 6)), 0⟩, ⟨(some 2), none, (.mv (.t 7)), 0⟩]) .ret)))⟩
theorem h65 : compF Try.prog own Try.f65 = some c65 := by kernel_rfl
theorem k65 : callOk Try.prog 65 = true := by kernel_rfl
def c74 : IF := ⟨1, 14, [(.t 2)], 
 (.seq (.reg false [⟨(some 2), none, (.mv (.c (.d (.bool false)))), 0⟩]) 
 (.seq (.reg false [⟨(some 3), none, (.mv (.t 0)), 0⟩, ⟨(some 4), none, (.bin .geq (.t 3) (.c (.d (.int .i64 1)))), 0⟩, ⟨(some 5), none, (.mv (.t 4)), 0⟩, ⟨(some 6), (some (5, true)), (.mv (.t 0)), 0⟩, ⟨(some 7), (some (5, true)), (.bin .leq (.t 6) (.c (.d (.int .i64 254)))), 0⟩, ⟨(some 8), none, (.pick (.t 5) (.t 7) (.c (.d (.bool false)))), 0⟩, ⟨(some 9), none, (.mv (.t 8)), 0⟩, ⟨(some 10), (some (9, true)), (.mv (.t 0)), 0⟩, ⟨(some 11), (some (9, true)), (.bin .and (.t 10) (.c (.d (.int .i64 31)))), 0⟩, ⟨(some 12), (some (9, true)), (.bin .neq (.t 11) (.c (.d (.int .i64 31)))), 0⟩, ⟨(some 13), none, (.pick (.t 9) (.t 12) (.c (.d (.bool false)))), 0⟩, ⟨(some 2), none, (.mv (.t 13)), 0⟩]) .ret))⟩
theorem h74 : compF Try.prog own Try.f74 = some c74 := by kernel_rfl
theorem k74 : callOk Try.prog 74 = true := by kernel_rfl
def c15 : IF := ⟨1, 6, [(.t 2)], 
 (.seq (.reg false [⟨(some 2), none, (.mv (.c (.d (.bool false)))), 0⟩]) 
 (.seq (.reg false [⟨(some 3), none, (.mv (.t 0)), 0⟩, ⟨(some 4), none, (.bin .and (.t 3) (.c (.d (.int .i64 32)))), 0⟩, ⟨(some 5), none, (.bin .neq (.t 4) (.c (.d (.int .i64 0)))), 0⟩, ⟨(some 2), none, (.mv (.t 5)), 0⟩]) .ret))⟩
theorem h15 : compF Try.prog own Try.f15 = some c15 := by kernel_rfl
theorem k15 : callOk Try.prog 15 = true := by kernel_rfl
def c75 : IF := ⟨1, 21, [(.t 2)], 
 (.seq (.reg false [⟨(some 2), none, (.mv (.c .nils)), 0⟩]) 
 (.seq (.block 0 
 (.seq (.reg false [⟨(some 4), none, (.mv (.t 0)), 0⟩, ⟨(some 5), none, (.bin .lss (.t 4) (.c (.d (.int .i64 128)))), 0⟩, ⟨(some 3), none, (.mv (.t 5)), 0⟩]) (.cond (.t 3) 
 (.seq (.reg false [⟨(some 6), none, (.mv (.t 0)), 0⟩, ⟨(some 7), none, (.cvi .u8 (.t 6)), 0⟩, ⟨(some 8), none, (.bsl 5 1 1 [(.int .u8 0)] [(0, 1, (.t 7))]), 0⟩, ⟨(some 2), none, (.mv (.t 8)), 0⟩]) .ret) 
 (.seq (.reg false [⟨(some 10), none, (.mv (.t 0)), 0⟩, ⟨(some 11), none, (.bin .lss (.t 10) (.c (.d (.int .i64 256)))), 0⟩, ⟨(some 9), none, (.mv (.t 11)), 0⟩]) (.cond (.t 9) 
 (.seq (.reg false [⟨(some 12), none, (.mv (.t 0)), 0⟩, ⟨(some 13), none, (.cvi .u8 (.t 12)), 0⟩, ⟨(some 14), none, (.bsl 5 1 2 [(.int .u8 0), (.int .u8 0)] [(0, 1, (.c (.d (.int .u8 129)))), (1, 1, (.t 13))]), 0⟩, ⟨(some 2), none, (.mv (.t 14)), 0⟩]) .ret) .skip))))) 
 (.seq (.reg false [⟨(some 15), none, (.mv (.t 0)), 0⟩, ⟨(some 16), none, (.bin .shr (.t 15) (.c (.d (.int .u64 8)))), 0⟩, ⟨(some 17), none, (.cvi .u8 (.t 16)), 0⟩, ⟨(some 18), none, (.mv (.t 0)), 0⟩, ⟨(some 19), none, (.cvi .u8 (.t 18)), 0⟩, ⟨(some 20), none, (.bsl 5 1 3 [(.int .u8 0), (.int .u8 0), (.int .u8 0)] [(0, 1, (.c (.d (.int .u8 130)))), (1, 1, (.t 17)), (2, 1, (.t 19))]), 0⟩, ⟨(some 2), none, (.mv (.t 20)), 0⟩]) .ret)))⟩
theorem h75 : compF Try.prog own Try.f75 = some c75 := by kernel_rfl
theorem k75 : callOk Try.prog 75 = true := by kernel_rfl
def c67 : IF := ⟨1, 34, [(.t 2)], 
 (.seq (.reg false [⟨(some 2), none, (.mv (.c (.d (.int .i64 0)))), 0⟩]) 
 (.seq (.reg false [⟨(some 3), none, (.mv (.c (.d (.int .i64 0)))), 0⟩]) 
 (.seq 
 (.seq (.reg false [⟨(some 4), none, (.mv (.c (.d (.int .i64 0)))), 0⟩]) (.block 0 (.loop 
 (.seq 
 (.seq (.reg false [⟨(some 6), none, (.mv (.t 4)), 0⟩, ⟨(some 7), none, (.mv (.t 0)), 0⟩, ⟨(some 8), none, (.len (.t 7)), 0⟩, ⟨(some 9), none, (.bin .lss (.t 6) (.t 8)), 0⟩]) (.cond (.t 9) .skip (.exit 0))) 
 (.seq (.block 1 
 (.seq (.reg true [⟨(some 12), none, (.mv (.t 0)), 0⟩, ⟨(some 13), none, (.mv (.t 4)), 0⟩, ⟨(some 14), none, (.ia 3 (.t 12) (.t 13)), 3⟩, ⟨(some 15), none, (.fa (.t 14) 1), 7⟩, ⟨(some 16), none, (.ld none (.t 15)), 15⟩, ⟨(some 17), none, (.len (.t 16)), 31⟩, ⟨(some 18), none, (.mv (.t 0)), 0⟩, ⟨(some 19), none, (.mv (.t 4)), 0⟩, ⟨(some 20), none, (.ia 3 (.t 18) (.t 19)), 192⟩, ⟨(some 21), none, (.fa (.t 20) 2), 448⟩, ⟨(some 22), none, (.ld none (.t 21)), 960⟩, ⟨(some 23), none, (.call 67 [] [(.t 22)]), 1984⟩, ⟨(some 24), none, (.bin .add (.t 17) (.t 23)), 4095⟩, ⟨(some 5), none, (.mv (.t 24)), 8191⟩]) (.reg false [⟨(some 25), none, (.mv (.t 3)), 0⟩, ⟨(some 26), none, (.bin .add (.t 25) (.c (.d (.int .i64 1)))), 0⟩, ⟨(some 27), none, (.mv (.t 5)), 0⟩, ⟨(some 28), none, (.call 75 [] [(.t 27)]), 0⟩, ⟨(some 29), none, (.len (.t 28)), 0⟩, ⟨(some 30), none, (.bin .add (.t 26) (.t 29)), 0⟩, ⟨(some 31), none, (.mv (.t 5)), 0⟩, ⟨(some 32), none, (.bin .add (.t 30) (.t 31)), 0⟩, ⟨(some 3), none, (.mv (.t 32)), 0⟩]))) (.reg false [⟨(some 10), none, (.mv (.t 4)), 0⟩, ⟨(some 11), none, (.bin .add (.t 10) (.c (.d (.int .i64 1)))), 0⟩, ⟨(some 4), none, (.mv (.t 11)), 0⟩])))))) 
 (.seq (.reg false [⟨(some 33), none, (.mv (.t 3)), 0⟩, ⟨(some 2), none, (.mv (.t 33)), 0⟩]) .ret))))⟩
theorem h67 : compF Try.prog own Try.f67 = some c67 := by kernel_rfl
theorem k67 : callOk Try.prog 67 = true := by kernel_rfl
def c68 : IF := ⟨1, 44, [(.t 2)], 
 (.seq (.reg false [⟨(some 2), none, (.mv (.c .nils)), 0⟩]) 
 (.seq (.reg false [⟨(some 3), none, (.mv (.c .nils)), 0⟩]) 
 (.seq 
 (.seq (.reg false [⟨(some 4), none, (.mv (.c (.d (.int .i64 0)))), 0⟩]) (.block 0 (.loop 
 (.seq 
 (.seq (.reg false [⟨(some 6), none, (.mv (.t 4)), 0⟩, ⟨(some 7), none, (.mv (.t 0)), 0⟩, ⟨(some 8), none, (.len (.t 7)), 0⟩, ⟨(some 9), none, (.bin .lss (.t 6) (.t 8)), 0⟩]) (.cond (.t 9) .skip (.exit 0))) 
 (.seq (.block 1 
 (.seq (.reg true [⟨(some 12), none, (.bsl 5 1 0 [] []), 0⟩, ⟨(some 13), none, (.mv (.t 0)), 0⟩, ⟨(some 14), none, (.mv (.t 4)), 0⟩, ⟨(some 15), none, (.ia 3 (.t 13) (.t 14)), 6⟩, ⟨(some 16), none, (.fa (.t 15) 1), 14⟩, ⟨(some 17), none, (.ld none (.t 16)), 30⟩, ⟨(some 18), none, (.app 5 1 1 (.t 12) (.t 17)), 63⟩, ⟨(some 19), none, (.mv (.t 0)), 0⟩, ⟨(some 20), none, (.mv (.t 4)), 0⟩, ⟨(some 21), none, (.ia 3 (.t 19) (.t 20)), 384⟩, ⟨(some 22), none, (.fa (.t 21) 2), 896⟩, ⟨(some 23), none, (.ld none (.t 22)), 1920⟩, ⟨(some 24), none, (.call 68 [] [(.t 23)]), 4095⟩, ⟨(some 25), none, (.app 5 1 1 (.t 18) (.t 24)), 8191⟩, ⟨(some 5), none, (.mv (.t 25)), 16383⟩]) 
 (.seq (.reg false [⟨(some 26), none, (.mv (.t 3)), 0⟩, ⟨(some 27), none, (.mv (.t 0)), 0⟩, ⟨(some 28), none, (.mv (.t 4)), 0⟩, ⟨(some 29), none, (.ia 3 (.t 27) (.t 28)), 0⟩, ⟨(some 30), none, (.fa (.t 29) 0), 0⟩, ⟨(some 31), none, (.ld none (.t 30)), 0⟩, ⟨(some 32), none, (.cvi .u8 (.t 31)), 0⟩, ⟨(some 33), none, (.bsl 5 1 1 [(.int .u8 0)] [(0, 1, (.t 32))]), 0⟩, ⟨(some 34), none, (.app 5 1 1 (.t 26) (.t 33)), 0⟩, ⟨(some 3), none, (.mv (.t 34)), 0⟩]) 
 (.seq (.reg false [⟨(some 35), none, (.mv (.t 3)), 0⟩, ⟨(some 36), none, (.mv (.t 5)), 0⟩, ⟨(some 37), none, (.len (.t 36)), 0⟩, ⟨(some 38), none, (.call 75 [] [(.t 37)]), 0⟩, ⟨(some 39), none, (.app 5 1 1 (.t 35) (.t 38)), 0⟩, ⟨(some 3), none, (.mv (.t 39)), 0⟩]) (.reg false [⟨(some 40), none, (.mv (.t 3)), 0⟩, ⟨(some 41), none, (.mv (.t 5)), 0⟩, ⟨(some 42), none, (.app 5 1 1 (.t 40) (.t 41)), 0⟩, ⟨(some 3), none, (.mv (.t 42)), 0⟩]))))) (.reg false [⟨(some 10), none, (.mv (.t 4)), 0⟩, ⟨(some 11), none, (.bin .add (.t 10) (.c (.d (.int .i64 1)))), 0⟩, ⟨(some 4), none, (.mv (.t 11)), 0⟩])))))) 
 (.seq (.reg false [⟨(some 43), none, (.mv (.t 3)), 0⟩, ⟨(some 2), none, (.mv (.t 43)), 0⟩]) .ret))))⟩
theorem h68 : compF Try.prog own Try.f68 = some c68 := by kernel_rfl
theorem k68 : callOk Try.prog 68 = true := by kernel_rfl
def c66 : IF := ⟨2, 69, [(.t 4)], 
 (.seq (.reg false [⟨(some 4), none, (.mv (.c (.d (.int .i64 0)))), 0⟩]) 
 (.seq 
 (.seq (.reg false [⟨(some 5), none, (.mv (.c (.d (.int .i64 0)))), 0⟩]) (.block 0 (.loop 
 (.seq 
 (.seq (.reg false [⟨(some 7), none, (.mv (.t 5)), 0⟩, ⟨(some 8), none, (.mv (.t 0)), 0⟩, ⟨(some 9), none, (.len (.t 8)), 0⟩, ⟨(some 10), none, (.bin .lss (.t 7) (.t 9)), 0⟩]) (.cond (.t 10) .skip (.exit 0))) 
 (.seq (.block 1 
 (.seq (.block 2 
 (.seq (.reg false [⟨(some 14), none, (.mv (.t 0)), 0⟩, ⟨(some 15), none, (.mv (.t 5)), 0⟩, ⟨(some 16), none, (.ia 3 (.t 14) (.t 15)), 0⟩, ⟨(some 17), none, (.fa (.t 16) 0), 0⟩, ⟨(some 18), none, (.ld none (.t 17)), 0⟩, ⟨(some 19), none, (.call 74 [] [(.t 18)]), 0⟩, ⟨(some 20), none, (.un .not (.t 19)), 0⟩, ⟨(some 13), none, (.mv (.t 20)), 0⟩]) (.cond (.t 13) 
 (.seq (.reg false [⟨(some 4), none, (.mv (.c (.d (.int .i64 15)))), 0⟩]) .ret) 
 (.seq (.reg false [⟨(some 22), none, (.mv (.t 1)), 0⟩, ⟨(some 23), none, (.bin .gtr (.t 22) (.c (.d (.int .i64 6)))), 0⟩, ⟨(some 21), none, (.mv (.t 23)), 0⟩]) (.cond (.t 21) 
 (.seq (.reg false [⟨(some 4), none, (.mv (.c (.d (.int .i64 17)))), 0⟩]) .ret) 
 (.seq (.reg false [⟨(some 25), none, (.mv (.t 0)), 0⟩, ⟨(some 26), none, (.mv (.t 5)), 0⟩, ⟨(some 27), none, (.ia 3 (.t 25) (.t 26)), 0⟩, ⟨(some 28), none, (.fa (.t 27) 0), 0⟩, ⟨(some 29), none, (.ld none (.t 28)), 0⟩, ⟨(some 30), none, (.call 15 [] [(.t 29)]), 0⟩, ⟨(some 31), none, (.un .not (.t 30)), 0⟩, ⟨(some 32), none, (.mv (.t 31)), 0⟩, ⟨(some 33), (some (32, true)), (.mv (.t 0)), 0⟩, ⟨(some 34), (some (32, true)), (.mv (.t 5)), 0⟩, ⟨(some 35), (some (32, true)), (.ia 3 (.t 33) (.t 34)), 0⟩, ⟨(some 36), (some (32, true)), (.fa (.t 35) 2), 0⟩, ⟨(some 37), (some (32, true)), (.ld none (.t 36)), 0⟩, ⟨(some 38), (some (32, true)), (.len (.t 37)), 0⟩, ⟨(some 39), (some (32, true)), (.bin .gtr (.t 38) (.c (.d (.int .i64 0)))), 0⟩, ⟨(some 40), none, (.pick (.t 32) (.t 39) (.c (.d (.bool false)))), 0⟩, ⟨(some 41), none, (.mv (.t 40)), 0⟩, ⟨(some 42), (some (41, false)), (.mv (.t 0)), 0⟩, ⟨(some 43), (some (41, false)), (.mv (.t 5)), 0⟩, ⟨(some 44), (some (41, false)), (.ia 3 (.t 42) (.t 43)), 0⟩, ⟨(some 45), (some (41, false)), (.fa (.t 44) 0), 0⟩, ⟨(some 46), (some (41, false)), (.ld none (.t 45)), 0⟩, ⟨(some 47), (some (41, false)), (.call 15 [] [(.t 46)]), 0⟩, ⟨(some 48), (some (41, false)), (.mv (.t 47)), 0⟩, ⟨(some 49), (some (48, true)), (.mv (.t 0)), 0⟩, ⟨(some 50), (some (48, true)), (.mv (.t 5)), 0⟩, ⟨(some 51), (some (48, true)), (.ia 3 (.t 49) (.t 50)), 0⟩, ⟨(some 52), (some (48, true)), (.fa (.t 51) 1), 0⟩, ⟨(some 53), (some (48, true)), (.ld none (.t 52)), 0⟩, ⟨(some 54), (some (48, true)), (.len (.t 53)), 0⟩, ⟨(some 55), (some (48, true)), (.bin .gtr (.t 54) (.c (.d (.int .i64 0)))), 0⟩, ⟨(some 56), (some (41, false)), (.pick (.t 48) (.t 55) (.c (.d (.bool false)))), 0⟩, ⟨(some 57), none, (.pick (.t 41) (.c (.d (.bool true))) (.t 56)), 0⟩, ⟨(some 24), none, (.mv (.t 57)), 0⟩]) (.cond (.t 24) 
 (.seq (.reg false [⟨(some 4), none, (.mv (.c (.d (.int .i64 12)))), 0⟩]) .ret) .skip))))))) 
 (.seq (.reg false [⟨(some 58), none, (.mv (.t 0)), 0⟩, ⟨(some 59), none, (.mv (.t 5)), 0⟩, ⟨(some 60), none, (.ia 3 (.t 58) (.t 59)), 0⟩, ⟨(some 61), none, (.fa (.t 60) 2), 0⟩, ⟨(some 62), none, (.ld none (.t 61)), 0⟩, ⟨(some 63), none, (.mv (.t 1)), 0⟩, ⟨(some 64), none, (.bin .add (.t 63) (.c (.d (.int .i64 1)))), 0⟩, ⟨(some 65), none, (.call 66 [] [(.t 62), (.t 64)]), 0⟩, ⟨(some 6), none, (.mv (.t 65)), 0⟩]) 
 (.seq (.reg false [⟨(some 66), none, (.mv (.t 6)), 0⟩, ⟨(some 67), none, (.bin .neq (.t 66) (.c (.d (.int .i64 0)))), 0⟩]) (.cond (.t 67) 
 (.seq (.reg false [⟨(some 68), none, (.mv (.t 6)), 0⟩, ⟨(some 4), none, (.mv (.t 68)), 0⟩]) .ret) .skip))))) (.reg false [⟨(some 11), none, (.mv (.t 5)), 0⟩, ⟨(some 12), none, (.bin .add (.t 11) (.c (.d (.int .i64 1)))), 0⟩, ⟨(some 5), none, (.mv (.t 12)), 0⟩])))))) 
 (.seq (.reg false [⟨(some 4), none, (.mv (.c (.d (.int .i64 0)))), 0⟩]) .ret)))⟩
theorem h66 : compF Try.prog own Try.f66 = some c66 := by kernel_rfl
theorem k66 : callOk Try.prog 66 = true := by kernel_rfl
def c52 : IF := ⟨1, 15, [(.t 2), (.t 3)], 
 (.seq (.reg false [⟨(some 2), none, (.mv (.c .nils)), 0⟩, ⟨(some 3), none, (.mv (.c (.d (.int .i64 0)))), 0⟩]) 
 (.seq (.reg false [⟨(some 5), none, (.mv (.t 0)), 0⟩, ⟨(some 6), none, (.call 66 [] [(.t 5), (.c (.d (.int .i64 0)))]), 0⟩, ⟨(some 4), none, (.mv (.t 6)), 0⟩]) 
 (.seq 
 (.seq (.reg false [⟨(some 7), none, (.mv (.t 4)), 0⟩, ⟨(some 8), none, (.bin .neq (.t 7) (.c (.d (.int .i64 0)))), 0⟩]) (.cond (.t 8) 
 (.seq (.reg false [⟨(some 9), none, (.mv (.t 4)), 0⟩, ⟨(some 2), none, (.mv (.c .nils)), 0⟩, ⟨(some 3), none, (.mv (.t 9)), 0⟩]) .ret) .skip)) 
 (.seq 
 (.seq (.reg false [⟨(some 10), none, (.mv (.t 0)), 0⟩, ⟨(some 11), none, (.call 67 [] [(.t 10)]), 0⟩, ⟨(some 12), none, (.bin .gtr (.t 11) (.c (.d (.int .i64 1500)))), 0⟩]) (.cond (.t 12) 
 (.seq (.reg false [⟨(some 2), none, (.mv (.c .nils)), 0⟩, ⟨(some 3), none, (.mv (.c (.d (.int .i64 4)))), 0⟩]) .ret) .skip)) 
 (.seq (.reg false [⟨(some 13), none, (.mv (.t 0)), 0⟩, ⟨(some 14), none, (.call 68 [] [(.t 13)]), 0⟩, ⟨(some 2), none, (.mv (.t 14)), 0⟩, ⟨(some 3), none, (.mv (.c (.d (.int .i64 0)))), 0⟩]) .ret)))))⟩
theorem h52 : compF Try.prog own Try.f52 = some c52 := by kernel_rfl
theorem k52 : callOk Try.prog 52 = true := by kernel_rfl
def c76 : IF := ⟨2, 76, [(.t 4), (.t 5), (.t 6), (.t 7)], 
 (.seq (.reg false [⟨(some 4), none, (.mv (.c (.d (.int .i64 0)))), 0⟩, ⟨(some 5), none, (.mv (.c (.d (.int .i64 0)))), 0⟩, ⟨(some 6), none, (.mv (.c (.d (.int .i64 0)))), 0⟩, ⟨(some 7), none, (.mv (.c (.d (.int .i64 0)))), 0⟩]) 
 (.seq 
 (.seq (.reg false [⟨(some 10), none, (.mv (.t 0)), 0⟩, ⟨(some 11), none, (.ia 1 (.t 10) (.c (.d (.int .i64 0)))), 0⟩, ⟨(some 12), none, (.ld none (.t 11)), 0⟩, ⟨(some 13), none, (.cvi .i64 (.t 12)), 0⟩, ⟨(some 14), none, (.call 74 [] [(.t 13)]), 0⟩, ⟨(some 15), none, (.un .not (.t 14)), 0⟩]) (.cond (.t 15) 
 (.seq (.reg false [⟨(some 4), none, (.mv (.c (.d (.int .i64 0)))), 0⟩, ⟨(some 5), none, (.mv (.c (.d (.int .i64 0)))), 0⟩, ⟨(some 6), none, (.mv (.c (.d (.int .i64 0)))), 0⟩, ⟨(some 7), none, (.mv (.c (.d (.int .i64 15)))), 0⟩]) .ret) .skip)) 
 (.seq 
 (.seq (.reg false [⟨(some 16), none, (.mv (.t 1)), 0⟩, ⟨(some 17), none, (.bin .gtr (.t 16) (.c (.d (.int .i64 6)))), 0⟩]) (.cond (.t 17) 
 (.seq (.reg false [⟨(some 4), none, (.mv (.c (.d (.int .i64 0)))), 0⟩, ⟨(some 5), none, (.mv (.c (.d (.int .i64 0)))), 0⟩, ⟨(some 6), none, (.mv (.c (.d (.int .i64 0)))), 0⟩, ⟨(some 7), none, (.mv (.c (.d (.int .i64 17)))), 0⟩]) .ret) .skip)) 
 (.seq 
 (.seq (.reg false [⟨(some 18), none, (.mv (.t 0)), 0⟩, ⟨(some 19), none, (.len (.t 18)), 0⟩, ⟨(some 20), none, (.bin .lss (.t 19) (.c (.d (.int .i64 2)))), 0⟩]) (.cond (.t 20) 
 (.seq (.reg false [⟨(some 4), none, (.mv (.c (.d (.int .i64 0)))), 0⟩, ⟨(some 5), none, (.mv (.c (.d (.int .i64 0)))), 0⟩, ⟨(some 6), none, (.mv (.c (.d (.int .i64 0)))), 0⟩, ⟨(some 7), none, (.mv (.c (.d (.int .i64 13)))), 0⟩]) .ret) .skip)) 
 (.seq (.reg true [⟨(some 21), none, (.mv (.t 0)), 0⟩, ⟨(some 22), none, (.ia 1 (.t 21) (.c (.d (.int .i64 1)))), 1⟩, ⟨(some 23), none, (.ld none (.t 22)), 3⟩, ⟨(some 24), none, (.cvi .i64 (.t 23)), 7⟩, ⟨(some 8), none, (.mv (.c (.d (.int .i64 2)))), 0⟩, ⟨(some 9), none, (.mv (.t 24)), 31⟩]) 
 (.seq (.block 0 
 (.seq (.reg false [⟨(some 26), none, (.mv (.t 0)), 0⟩, ⟨(some 27), none, (.ia 1 (.t 26) (.c (.d (.int .i64 1)))), 0⟩, ⟨(some 28), none, (.ld none (.t 27)), 0⟩, ⟨(some 29), none, (.bin .eql (.t 28) (.c (.d (.int .u8 129)))), 0⟩, ⟨(some 25), none, (.mv (.t 29)), 0⟩]) (.cond (.t 25) 
 (.seq 
 (.seq (.reg false [⟨(some 30), none, (.mv (.t 0)), 0⟩, ⟨(some 31), none, (.len (.t 30)), 0⟩, ⟨(some 32), none, (.bin .lss (.t 31) (.c (.d (.int .i64 3)))), 0⟩]) (.cond (.t 32) 
 (.seq (.reg false [⟨(some 4), none, (.mv (.c (.d (.int .i64 0)))), 0⟩, ⟨(some 5), none, (.mv (.c (.d (.int .i64 0)))), 0⟩, ⟨(some 6), none, (.mv (.c (.d (.int .i64 0)))), 0⟩, ⟨(some 7), none, (.mv (.c (.d (.int .i64 13)))), 0⟩]) .ret) .skip)) 
 (.seq (.reg true [⟨(some 33), none, (.mv (.t 0)), 0⟩, ⟨(some 34), none, (.ia 1 (.t 33) (.c (.d (.int .i64 2)))), 1⟩, ⟨(some 35), none, (.ld none (.t 34)), 3⟩, ⟨(some 36), none, (.cvi .i64 (.t 35)), 7⟩, ⟨(some 8), none, (.mv (.c (.d (.int .i64 3)))), 0⟩, ⟨(some 9), none, (.mv (.t 36)), 31⟩]) 
 (.seq (.reg false [⟨(some 37), none, (.mv (.t 9)), 0⟩, ⟨(some 38), none, (.bin .lss (.t 37) (.c (.d (.int .i64 128)))), 0⟩]) (.cond (.t 38) 
 (.seq (.reg false [⟨(some 4), none, (.mv (.c (.d (.int .i64 0)))), 0⟩, ⟨(some 5), none, (.mv (.c (.d (.int .i64 0)))), 0⟩, ⟨(some 6), none, (.mv (.c (.d (.int .i64 0)))), 0⟩, ⟨(some 7), none, (.mv (.c (.d (.int .i64 16)))), 0⟩]) .ret) .skip)))) 
 (.seq (.reg false [⟨(some 40), none, (.mv (.t 0)), 0⟩, ⟨(some 41), none, (.ia 1 (.t 40) (.c (.d (.int .i64 1)))), 0⟩, ⟨(some 42), none, (.ld none (.t 41)), 0⟩, ⟨(some 43), none, (.bin .eql (.t 42) (.c (.d (.int .u8 130)))), 0⟩, ⟨(some 39), none, (.mv (.t 43)), 0⟩]) (.cond (.t 39) 
 (.seq 
 (.seq (.reg false [⟨(some 44), none, (.mv (.t 0)), 0⟩, ⟨(some 45), none, (.len (.t 44)), 0⟩, ⟨(some 46), none, (.bin .lss (.t 45) (.c (.d (.int .i64 4)))), 0⟩]) (.cond (.t 46) 
 (.seq (.reg false [⟨(some 4), none, (.mv (.c (.d (.int .i64 0)))), 0⟩, ⟨(some 5), none, (.mv (.c (.d (.int .i64 0)))), 0⟩, ⟨(some 6), none, (.mv (.c (.d (.int .i64 0)))), 0⟩, ⟨(some 7), none, (.mv (.c (.d (.int .i64 13)))), 0⟩]) .ret) .skip)) 
 (.seq (.reg true [⟨(some 47), none, (.mv (.t 0)), 0⟩, ⟨(some 48), none, (.ia 1 (.t 47) (.c (.d (.int .i64 2)))), 1⟩, ⟨(some 49), none, (.ld none (.t 48)), 3⟩, ⟨(some 50), none, (.cvi .i64 (.t 49)), 7⟩, ⟨(some 51), none, (.bin .shl (.t 50) (.c (.d (.int .u64 8)))), 15⟩, ⟨(some 52), none, (.mv (.t 0)), 0⟩, ⟨(some 53), none, (.ia 1 (.t 52) (.c (.d (.int .i64 3)))), 32⟩, ⟨(some 54), none, (.ld none (.t 53)), 96⟩, ⟨(some 55), none, (.cvi .i64 (.t 54)), 224⟩, ⟨(some 56), none, (.bin .or (.t 51) (.t 55)), 511⟩, ⟨(some 8), none, (.mv (.c (.d (.int .i64 4)))), 0⟩, ⟨(some 9), none, (.mv (.t 56)), 2047⟩]) 
 (.seq (.reg false [⟨(some 57), none, (.mv (.t 9)), 0⟩, ⟨(some 58), none, (.bin .lss (.t 57) (.c (.d (.int .i64 256)))), 0⟩]) (.cond (.t 58) 
 (.seq (.reg false [⟨(some 4), none, (.mv (.c (.d (.int .i64 0)))), 0⟩, ⟨(some 5), none, (.mv (.c (.d (.int .i64 0)))), 0⟩, ⟨(some 6), none, (.mv (.c (.d (.int .i64 0)))), 0⟩, ⟨(some 7), none, (.mv (.c (.d (.int .i64 16)))), 0⟩]) .ret) .skip)))) 
 (.seq (.reg false [⟨(some 60), none, (.mv (.t 0)), 0⟩, ⟨(some 61), none, (.ia 1 (.t 60) (.c (.d (.int .i64 1)))), 0⟩, ⟨(some 62), none, (.ld none (.t 61)), 0⟩, ⟨(some 63), none, (.bin .geq (.t 62) (.c (.d (.int .u8 128)))), 0⟩, ⟨(some 59), none, (.mv (.t 63)), 0⟩]) (.cond (.t 59) 
 (.seq (.reg false [⟨(some 4), none, (.mv (.c (.d (.int .i64 0)))), 0⟩, ⟨(some 5), none, (.mv (.c (.d (.int .i64 0)))), 0⟩, ⟨(some 6), none, (.mv (.c (.d (.int .i64 0)))), 0⟩, ⟨(some 7), none, (.mv (.c (.d (.int .i64 16)))), 0⟩]) .ret) .skip))))))) 
 (.seq 
 (.seq (.reg false [⟨(some 64), none, (.mv (.t 0)), 0⟩, ⟨(some 65), none, (.len (.t 64)), 0⟩, ⟨(some 66), none, (.mv (.t 8)), 0⟩, ⟨(some 67), none, (.bin .sub (.t 65) (.t 66)), 0⟩, ⟨(some 68), none, (.mv (.t 9)), 0⟩, ⟨(some 69), none, (.bin .lss (.t 67) (.t 68)), 0⟩]) (.cond (.t 69) 
 (.seq (.reg false [⟨(some 4), none, (.mv (.c (.d (.int .i64 0)))), 0⟩, ⟨(some 5), none, (.mv (.c (.d (.int .i64 0)))), 0⟩, ⟨(some 6), none, (.mv (.c (.d (.int .i64 0)))), 0⟩, ⟨(some 7), none, (.mv (.c (.d (.int .i64 13)))), 0⟩]) .ret) .skip)) 
 (.seq (.reg false [⟨(some 70), none, (.mv (.t 0)), 0⟩, ⟨(some 71), none, (.ia 1 (.t 70) (.c (.d (.int .i64 0)))), 0⟩, ⟨(some 72), none, (.ld none (.t 71)), 0⟩, ⟨(some 73), none, (.cvi .i64 (.t 72)), 0⟩, ⟨(some 74), none, (.mv (.t 8)), 0⟩, ⟨(some 75), none, (.mv (.t 9)), 0⟩, ⟨(some 4), none, (.mv (.t 73)), 0⟩, ⟨(some 5), none, (.mv (.t 74)), 0⟩, ⟨(some 6), none, (.mv (.t 75)), 0⟩, ⟨(some 7), none, (.mv (.c (.d (.int .i64 0)))), 0⟩]) .ret))))))))⟩
theorem h76 : compF Try.prog own Try.f76 = some c76 := by kernel_rfl
theorem k76 : callOk Try.prog 76 = true := by kernel_rfl
def c72 : IF := ⟨2, 68, [(.t 4), (.t 5)], 
 (.seq (.reg false [⟨(some 4), none, (.mv (.c .nils)), 0⟩, ⟨(some 5), none, (.mv (.c (.d (.int .i64 0)))), 0⟩]) 
 (.seq (.reg false [⟨(some 6), none, (.mv (.c .nils)), 0⟩]) 
 (.seq (.block 0 (.loop 
 (.seq 
 (.seq (.reg false [⟨(some 14), none, (.mv (.t 0)), 0⟩, ⟨(some 15), none, (.len (.t 14)), 0⟩, ⟨(some 16), none, (.bin .gtr (.t 15) (.c (.d (.int .i64 0)))), 0⟩]) (.cond (.t 16) .skip (.exit 0))) (.block 1 
 (.seq (.reg false [⟨(some 18), none, (.mv (.t 0)), 0⟩, ⟨(some 19), none, (.mv (.t 1)), 0⟩, ⟨(some 20), none, (.call 76 [] [(.t 18), (.t 19)]), 0⟩, ⟨(some 17), none, (.mv (.t 20)), 0⟩, ⟨(some 21), none, (.ex (.t 17) 0), 0⟩, ⟨(some 22), none, (.ex (.t 17) 1), 0⟩, ⟨(some 23), none, (.ex (.t 17) 2), 0⟩, ⟨(some 24), none, (.ex (.t 17) 3), 0⟩, ⟨(some 7), none, (.mv (.t 21)), 0⟩, ⟨(some 8), none, (.mv (.t 22)), 0⟩, ⟨(some 9), none, (.mv (.t 23)), 0⟩, ⟨(some 10), none, (.mv (.t 24)), 0⟩]) 
 (.seq 
 (.seq (.reg false [⟨(some 25), none, (.mv (.t 10)), 0⟩, ⟨(some 26), none, (.bin .neq (.t 25) (.c (.d (.int .i64 0)))), 0⟩]) (.cond (.t 26) 
 (.seq (.reg false [⟨(some 27), none, (.mv (.t 10)), 0⟩, ⟨(some 4), none, (.mv (.c .nils)), 0⟩, ⟨(some 5), none, (.mv (.t 27)), 0⟩]) .ret) .skip)) 
 (.seq (.reg false [⟨(some 28), none, (.mv (.t 7)), 0⟩, ⟨(some 29), none, (.build [(.d (.int .i64 0)), .nils, .nils] [(0, 1, (.t 28))]), 0⟩, ⟨(some 11), none, (.box (.c (.agg [(.d (.int .i64 0)), .nils, .nils]))), 0⟩, ⟨none, none, (.st 3 (.t 11) (.t 29)), 0⟩]) 
 (.seq 
 (.seq (.reg false [⟨(some 30), none, (.mv (.t 7)), 0⟩, ⟨(some 31), none, (.call 15 [] [(.t 30)]), 0⟩]) (.cond (.t 31) 
 (.seq (.reg false [⟨(some 33), none, (.mv (.t 0)), 0⟩, ⟨(some 34), none, (.mv (.t 8)), 0⟩, ⟨(some 35), none, (.mv (.t 8)), 0⟩, ⟨(some 36), none, (.mv (.t 9)), 0⟩, ⟨(some 37), none, (.bin .add (.t 35) (.t 36)), 0⟩, ⟨(some 38), none, (.sl 1 (.t 33) (some (.t 34)) (some (.t 37)) none), 0⟩, ⟨(some 39), none, (.mv (.t 1)), 0⟩, ⟨(some 40), none, (.bin .add (.t 39) (.c (.d (.int .i64 1)))), 0⟩, ⟨(some 41), none, (.call 72 [] [(.t 38), (.t 40)]), 0⟩, ⟨(some 32), none, (.mv (.t 41)), 0⟩, ⟨(some 42), none, (.ex (.t 32) 0), 0⟩, ⟨(some 43), none, (.ex (.t 32) 1), 0⟩, ⟨(some 12), none, (.mv (.t 42)), 0⟩, ⟨(some 13), none, (.mv (.t 43)), 0⟩]) 
 (.seq 
 (.seq (.reg false [⟨(some 44), none, (.mv (.t 13)), 0⟩, ⟨(some 45), none, (.bin .neq (.t 44) (.c (.d (.int .i64 0)))), 0⟩]) (.cond (.t 45) 
 (.seq (.reg false [⟨(some 46), none, (.mv (.t 13)), 0⟩, ⟨(some 4), none, (.mv (.c .nils)), 0⟩, ⟨(some 5), none, (.mv (.t 46)), 0⟩]) .ret) .skip)) (.reg false [⟨(some 47), none, (.mv (.t 12)), 0⟩, ⟨(some 48), none, (.fa (.t 11) 2), 0⟩, ⟨none, none, (.st 1 (.t 48) (.t 47)), 0⟩]))) (.reg false [⟨(some 49), none, (.bsl 5 1 0 [] []), 0⟩, ⟨(some 50), none, (.mv (.t 0)), 0⟩, ⟨(some 51), none, (.mv (.t 8)), 0⟩, ⟨(some 52), none, (.mv (.t 8)), 0⟩, ⟨(some 53), none, (.mv (.t 9)), 0⟩, ⟨(some 54), none, (.bin .add (.t 52) (.t 53)), 0⟩, ⟨(some 55), none, (.sl 1 (.t 50) (some (.t 51)) (some (.t 54)) none), 0⟩, ⟨(some 56), none, (.app 5 1 1 (.t 49) (.t 55)), 0⟩, ⟨(some 57), none, (.fa (.t 11) 1), 0⟩, ⟨none, none, (.st 1 (.t 57) (.t 56)), 0⟩]))) 
 (.seq (.reg false [⟨(some 58), none, (.mv (.t 6)), 0⟩, ⟨(some 59), none, (.ld (some 3) (.t 11)), 0⟩, ⟨(some 60), none, (.bsl 82 3 1 [(.int .i64 0), (.slice 0 []), (.slice 0 [])] [(0, 3, (.t 59))]), 0⟩, ⟨(some 61), none, (.app 82 3 56 (.t 58) (.t 60)), 0⟩, ⟨(some 6), none, (.mv (.t 61)), 0⟩]) (.reg false [⟨(some 62), none, (.mv (.t 0)), 0⟩, ⟨(some 63), none, (.mv (.t 8)), 0⟩, ⟨(some 64), none, (.mv (.t 9)), 0⟩, ⟨(some 65), none, (.bin .add (.t 63) (.t 64)), 0⟩, ⟨(some 66), none, (.sl 1 (.t 62) (some (.t 65)) none none), 0⟩, ⟨(some 0), none, (.mv (.t 66)), 0⟩])))))))))) 
 (.seq (.reg false [⟨(some 67), none, (.mv (.t 6)), 0⟩, ⟨(some 4), none, (.mv (.t 67)), 0⟩, ⟨(some 5), none, (.mv (.c (.d (.int .i64 0)))), 0⟩]) .ret))))⟩
theorem h72 : compF Try.prog own Try.f72 = some c72 := by kernel_rfl
theorem k72 : callOk Try.prog 72 = true := by kernel_rfl
def c58 : IF := ⟨1, 11, [(.t 2), (.t 3)], 
 (.seq (.reg false [⟨(some 2), none, (.mv (.c .nils)), 0⟩, ⟨(some 3), none, (.mv (.c (.d (.int .i64 0)))), 0⟩]) 
 (.seq 
 (.seq (.reg false [⟨(some 4), none, (.mv (.t 0)), 0⟩, ⟨(some 5), none, (.len (.t 4)), 0⟩, ⟨(some 6), none, (.bin .gtr (.t 5) (.c (.d (.int .i64 1500)))), 0⟩]) (.cond (.t 6) 
 (.seq (.reg false [⟨(some 2), none, (.mv (.c .nils)), 0⟩, ⟨(some 3), none, (.mv (.c (.d (.int .i64 4)))), 0⟩]) .ret) .skip)) 
 (.seq (.reg false [⟨(some 7), none, (.mv (.t 0)), 0⟩, ⟨(some 8), none, (.call 72 [] [(.t 7), (.c (.d (.int .i64 0)))]), 0⟩, ⟨(some 9), none, (.ex (.t 8) 0), 0⟩, ⟨(some 10), none, (.ex (.t 8) 1), 0⟩, ⟨(some 2), none, (.mv (.t 9)), 0⟩, ⟨(some 3), none, (.mv (.t 10)), 0⟩]) .ret)))⟩
theorem h58 : compF Try.prog own Try.f58 = some c58 := by kernel_rfl
theorem k58 : callOk Try.prog 58 = true := by kernel_rfl
def c21 : IF := ⟨2, 57, [(.t 4)], 
 (.seq (.reg false [⟨(some 4), none, (.mv (.c (.d (.bool false)))), 0⟩]) 
 (.seq 
 (.seq (.reg false [⟨(some 6), none, (.mv (.t 0)), 0⟩, ⟨(some 7), none, (.len (.t 6)), 0⟩, ⟨(some 8), none, (.mv (.t 1)), 0⟩, ⟨(some 9), none, (.len (.t 8)), 0⟩, ⟨(some 10), none, (.bin .neq (.t 7) (.t 9)), 0⟩]) (.cond (.t 10) 
 (.seq (.reg false [⟨(some 4), none, (.mv (.c (.d (.bool false)))), 0⟩]) .ret) .skip)) 
 (.seq 
 (.seq (.reg false [⟨(some 5), none, (.mv (.c (.d (.int .i64 0)))), 0⟩]) (.block 0 (.loop 
 (.seq 
 (.seq (.reg false [⟨(some 11), none, (.mv (.t 5)), 0⟩, ⟨(some 12), none, (.mv (.t 0)), 0⟩, ⟨(some 13), none, (.len (.t 12)), 0⟩, ⟨(some 14), none, (.bin .lss (.t 11) (.t 13)), 0⟩]) (.cond (.t 14) .skip (.exit 0))) 
 (.seq (.block 1 
 (.seq (.reg true [⟨(some 17), none, (.mv (.t 0)), 0⟩, ⟨(some 18), none, (.mv (.t 5)), 0⟩, ⟨(some 19), none, (.ia 3 (.t 17) (.t 18)), 3⟩, ⟨(some 20), none, (.fa (.t 19) 0), 7⟩, ⟨(some 21), none, (.ld none (.t 20)), 15⟩, ⟨(some 22), none, (.mv (.t 1)), 0⟩, ⟨(some 23), none, (.mv (.t 5)), 0⟩, ⟨(some 24), none, (.ia 3 (.t 22) (.t 23)), 96⟩, ⟨(some 25), none, (.fa (.t 24) 0), 224⟩, ⟨(some 26), none, (.ld none (.t 25)), 480⟩, ⟨(some 27), none, (.bin .neq (.t 21) (.t 26)), 1023⟩, ⟨(some 28), none, (.mv (.t 27)), 2047⟩, ⟨(some 29), (some (28, false)), (.mv (.t 0)), 4095⟩, ⟨(some 30), (some (28, false)), (.mv (.t 5)), 4095⟩, ⟨(some 31), (some (28, false)), (.ia 3 (.t 29) (.t 30)), 16383⟩, ⟨(some 32), (some (28, false)), (.fa (.t 31) 1), 32767⟩, ⟨(some 33), (some (28, false)), (.ld none (.t 32)), 65535⟩, ⟨(some 34), (some (28, false)), (.b2s (.t 33)), 131071⟩, ⟨(some 35), (some (28, false)), (.mv (.t 1)), 4095⟩, ⟨(some 36), (some (28, false)), (.mv (.t 5)), 4095⟩, ⟨(some 37), (some (28, false)), (.ia 3 (.t 35) (.t 36)), 790527⟩, ⟨(some 38), (some (28, false)), (.fa (.t 37) 1), 1839103⟩, ⟨(some 39), (some (28, false)), (.ld none (.t 38)), 3936255⟩, ⟨(some 40), (some (28, false)), (.b2s (.t 39)), 8130559⟩, ⟨(some 41), (some (28, false)), (.bin .neq (.t 34) (.t 40)), 16777215⟩, ⟨(some 42), none, (.pick (.t 28) (.c (.d (.bool true))) (.t 41)), 33554431⟩, ⟨(some 43), none, (.mv (.t 42)), 67108863⟩, ⟨(some 44), (some (43, false)), (.mv (.t 0)), 134217727⟩, ⟨(some 45), (some (43, false)), (.mv (.t 5)), 134217727⟩, ⟨(some 46), (some (43, false)), (.ia 3 (.t 44) (.t 45)), 536870911⟩, ⟨(some 47), (some (43, false)), (.fa (.t 46) 2), 1073741823⟩, ⟨(some 48), (some (43, false)), (.ld none (.t 47)), 2147483647⟩, ⟨(some 49), (some (43, false)), (.mv (.t 1)), 134217727⟩, ⟨(some 50), (some (43, false)), (.mv (.t 5)), 134217727⟩, ⟨(some 51), (some (43, false)), (.ia 3 (.t 49) (.t 50)), 13019119615⟩, ⟨(some 52), (some (43, false)), (.fa (.t 51) 2), 30198988799⟩, ⟨(some 53), (some (43, false)), (.ld none (.t 52)), 64558727167⟩, ⟨(some 54), (some (43, false)), (.call 21 [] [(.t 48), (.t 53)]), 137438953471⟩, ⟨(some 55), (some (43, false)), (.un .not (.t 54)), 274877906943⟩, ⟨(some 56), none, (.pick (.t 43) (.c (.d (.bool true))) (.t 55)), 549755813887⟩]) (.cond (.t 56) 
 (.seq (.reg false [⟨(some 4), none, (.mv (.c (.d (.bool false)))), 0⟩]) .ret) .skip))) (.reg false [⟨(some 15), none, (.mv (.t 5)), 0⟩, ⟨(some 16), none, (.bin .add (.t 15) (.c (.d (.int .i64 1)))), 0⟩, ⟨(some 5), none, (.mv (.t 16)), 0⟩])))))) 
 (.seq (.reg false [⟨(some 4), none, (.mv (.c (.d (.bool true)))), 0⟩]) .ret))))⟩
theorem h21 : compF Try.prog own Try.f21 = some c21 := by kernel_rfl
theorem k21 : callOk Try.prog 21 = true := by kernel_rfl
def c22 : IF := ⟨1, 32, [(.t 2)], 
 (.seq (.reg false [⟨(some 2), none, (.mv (.c .nils)), 0⟩]) 
 (.seq (.reg false [⟨(some 3), none, (.mv (.c .nils)), 0⟩]) 
 (.seq 
 (.seq (.reg false [⟨(some 4), none, (.mv (.c (.d (.int .i64 0)))), 0⟩]) (.block 0 (.loop 
 (.seq 
 (.seq (.reg false [⟨(some 5), none, (.mv (.t 4)), 0⟩, ⟨(some 6), none, (.mv (.t 0)), 0⟩, ⟨(some 7), none, (.len (.t 6)), 0⟩, ⟨(some 8), none, (.bin .lss (.t 5) (.t 7)), 0⟩]) (.cond (.t 8) .skip (.exit 0))) 
 (.seq (.block 1 (.reg true [⟨(some 11), none, (.mv (.t 3)), 0⟩, ⟨(some 12), none, (.mv (.t 0)), 0⟩, ⟨(some 13), none, (.mv (.t 4)), 0⟩, ⟨(some 14), none, (.ia 3 (.t 12) (.t 13)), 6⟩, ⟨(some 15), none, (.fa (.t 14) 0), 14⟩, ⟨(some 16), none, (.ld none (.t 15)), 30⟩, ⟨(some 17), none, (.mv (.t 0)), 0⟩, ⟨(some 18), none, (.mv (.t 4)), 0⟩, ⟨(some 19), none, (.ia 3 (.t 17) (.t 18)), 192⟩, ⟨(some 20), none, (.fa (.t 19) 1), 448⟩, ⟨(some 21), none, (.ld none (.t 20)), 960⟩, ⟨(some 22), none, (.mv (.t 0)), 0⟩, ⟨(some 23), none, (.mv (.t 4)), 0⟩, ⟨(some 24), none, (.ia 3 (.t 22) (.t 23)), 6144⟩, ⟨(some 25), none, (.fa (.t 24) 2), 14336⟩, ⟨(some 26), none, (.ld none (.t 25)), 30720⟩, ⟨(some 27), none, (.call 22 [] [(.t 26)]), 63488⟩, ⟨(some 28), none, (.build [(.d (.int .i64 0)), .nils, .nils] [(0, 1, (.t 16)), (1, 1, (.t 21)), (2, 1, (.t 27))]), 131070⟩, ⟨(some 29), none, (.bsl 82 3 1 [(.int .i64 0), (.slice 0 []), (.slice 0 [])] [(0, 3, (.t 28))]), 262142⟩, ⟨(some 30), none, (.app 82 3 56 (.t 11) (.t 29)), 524287⟩, ⟨(some 3), none, (.mv (.t 30)), 1048575⟩])) (.reg false [⟨(some 9), none, (.mv (.t 4)), 0⟩, ⟨(some 10), none, (.bin .add (.t 9) (.c (.d (.int .i64 1)))), 0⟩, ⟨(some 4), none, (.mv (.t 10)), 0⟩])))))) 
 (.seq (.reg false [⟨(some 31), none, (.mv (.t 3)), 0⟩, ⟨(some 2), none, (.mv (.t 31)), 0⟩]) .ret))))⟩
theorem h22 : compF Try.prog own Try.f22 = some c22 := by kernel_rfl
theorem k22 : callOk Try.prog 22 = true := by kernel_rfl
def c47 : IF := ⟨1, 29, [(.t 2)], 
 (.seq (.reg false [⟨(some 2), none, (.mv (.c (.d (.int .i64 0)))), 0⟩]) 
 (.seq (.reg false [⟨(some 5), none, (.mv (.t 0)), 0⟩, ⟨(some 6), none, (.len (.t 5)), 0⟩, ⟨(some 3), none, (.mv (.t 6)), 0⟩]) 
 (.seq 
 (.seq (.reg false [⟨(some 4), none, (.mv (.c (.d (.int .i64 0)))), 0⟩]) (.block 0 (.loop 
 (.seq 
 (.seq (.reg false [⟨(some 7), none, (.mv (.t 4)), 0⟩, ⟨(some 8), none, (.mv (.t 0)), 0⟩, ⟨(some 9), none, (.len (.t 8)), 0⟩, ⟨(some 10), none, (.bin .lss (.t 7) (.t 9)), 0⟩]) (.cond (.t 10) .skip (.exit 0))) 
 (.seq (.block 1 (.reg true [⟨(some 13), none, (.mv (.t 3)), 0⟩, ⟨(some 14), none, (.mv (.t 0)), 0⟩, ⟨(some 15), none, (.mv (.t 4)), 0⟩, ⟨(some 16), none, (.ia 3 (.t 14) (.t 15)), 6⟩, ⟨(some 17), none, (.fa (.t 16) 1), 14⟩, ⟨(some 18), none, (.ld none (.t 17)), 30⟩, ⟨(some 19), none, (.len (.t 18)), 62⟩, ⟨(some 20), none, (.bin .add (.t 13) (.t 19)), 127⟩, ⟨(some 21), none, (.mv (.t 0)), 0⟩, ⟨(some 22), none, (.mv (.t 4)), 0⟩, ⟨(some 23), none, (.ia 3 (.t 21) (.t 22)), 768⟩, ⟨(some 24), none, (.fa (.t 23) 2), 1792⟩, ⟨(some 25), none, (.ld none (.t 24)), 3840⟩, ⟨(some 26), none, (.call 47 [] [(.t 25)]), 7936⟩, ⟨(some 27), none, (.bin .add (.t 20) (.t 26)), 16383⟩, ⟨(some 3), none, (.mv (.t 27)), 32767⟩])) (.reg false [⟨(some 11), none, (.mv (.t 4)), 0⟩, ⟨(some 12), none, (.bin .add (.t 11) (.c (.d (.int .i64 1)))), 0⟩, ⟨(some 4), none, (.mv (.t 12)), 0⟩])))))) 
 (.seq (.reg false [⟨(some 28), none, (.mv (.t 3)), 0⟩, ⟨(some 2), none, (.mv (.t 28)), 0⟩]) .ret))))⟩
theorem h47 : compF Try.prog own Try.f47 = some c47 := by kernel_rfl
theorem k47 : callOk Try.prog 47 = true := by kernel_rfl
def c39 : IF := ⟨2, 24, [(.t 4)], 
 (.seq (.reg false [⟨(some 4), none, (.mv (.c (.d (.bool false)))), 0⟩]) 
 (.seq 
 (.seq (.reg false [⟨(some 5), none, (.mv (.c (.d (.int .i64 0)))), 0⟩]) (.block 0 (.loop 
 (.seq 
 (.seq (.reg false [⟨(some 6), none, (.mv (.t 5)), 0⟩, ⟨(some 7), none, (.mv (.t 0)), 0⟩, ⟨(some 8), none, (.len (.t 7)), 0⟩, ⟨(some 9), none, (.bin .lss (.t 6) (.t 8)), 0⟩]) (.cond (.t 9) .skip (.exit 0))) 
 (.seq (.block 1 
 (.seq (.reg false [⟨(some 12), none, (.mv (.t 1)), 0⟩, ⟨(some 13), none, (.bin .lss (.t 12) (.c (.d (.int .i64 0)))), 0⟩, ⟨(some 14), none, (.mv (.t 13)), 0⟩, ⟨(some 15), (some (14, false)), (.mv (.t 0)), 0⟩, ⟨(some 16), (some (14, false)), (.mv (.t 5)), 0⟩, ⟨(some 17), (some (14, false)), (.ia 3 (.t 15) (.t 16)), 0⟩, ⟨(some 18), (some (14, false)), (.fa (.t 17) 2), 0⟩, ⟨(some 19), (some (14, false)), (.ld none (.t 18)), 0⟩, ⟨(some 20), (some (14, false)), (.mv (.t 1)), 0⟩, ⟨(some 21), (some (14, false)), (.bin .sub (.t 20) (.c (.d (.int .i64 1)))), 0⟩, ⟨(some 22), (some (14, false)), (.call 39 [] [(.t 19), (.t 21)]), 0⟩, ⟨(some 23), none, (.pick (.t 14) (.c (.d (.bool true))) (.t 22)), 0⟩]) (.cond (.t 23) 
 (.seq (.reg false [⟨(some 4), none, (.mv (.c (.d (.bool true)))), 0⟩]) .ret) .skip))) (.reg false [⟨(some 10), none, (.mv (.t 5)), 0⟩, ⟨(some 11), none, (.bin .add (.t 10) (.c (.d (.int .i64 1)))), 0⟩, ⟨(some 5), none, (.mv (.t 11)), 0⟩])))))) 
 (.seq (.reg false [⟨(some 4), none, (.mv (.c (.d (.bool false)))), 0⟩]) .ret)))⟩
theorem h39 : compF Try.prog own Try.f39 = some c39 := by kernel_rfl
theorem k39 : callOk Try.prog 39 = true := by kernel_rfl
def c18 : IF := ⟨1, 10, [(.t 2)], 
 (.seq (.reg false [⟨(some 2), none, (.mv (.c (.d (.bool false)))), 0⟩]) 
 (.seq (.reg false [⟨(some 3), none, (.mv (.t 0)), 0⟩, ⟨(some 4), none, (.call 39 [] [(.t 3), (.c (.d (.int .i64 12)))]), 0⟩, ⟨(some 5), none, (.mv (.t 4)), 0⟩, ⟨(some 6), (some (5, false)), (.mv (.t 0)), 0⟩, ⟨(some 7), (some (5, false)), (.call 47 [] [(.t 6)]), 0⟩, ⟨(some 8), (some (5, false)), (.bin .gtr (.t 7) (.c (.d (.int .i64 5000)))), 0⟩, ⟨(some 9), none, (.pick (.t 5) (.c (.d (.bool true))) (.t 8)), 0⟩, ⟨(some 2), none, (.mv (.t 9)), 0⟩]) .ret))⟩
theorem h18 : compF Try.prog own Try.f18 = some c18 := by kernel_rfl
theorem k18 : callOk Try.prog 18 = true := by kernel_rfl
def c14 : IF := ⟨0, 25, [(.t 0)], 
 (.seq (.reg false [⟨(some 0), none, (.mv (.c (.d (.bool false)))), 0⟩]) 
 (.seq (.reg false [⟨(some 4), none, (.build [(.d (.int .i64 0)), .nils, .nils] [(0, 1, (.c (.d (.int .i64 5))))]), 0⟩, ⟨(some 5), none, (.bsl 26 3 1 [(.int .i64 0), (.slice 0 []), (.slice 0 [])] [(0, 3, (.t 4))]), 0⟩, ⟨(some 6), none, (.build [(.d (.int .i64 0)), .nils, .nils] [(0, 1, (.c (.d (.int .i64 48)))), (2, 1, (.t 5))]), 0⟩, ⟨(some 7), none, (.bsl 26 3 1 [(.int .i64 0), (.slice 0 []), (.slice 0 [])] [(0, 3, (.t 6))]), 0⟩, ⟨(some 8), none, (.call 16 [] [(.t 7)]), 0⟩, ⟨(some 3), none, (.mv (.t 8)), 0⟩, ⟨(some 9), none, (.ex (.t 3) 0), 0⟩, ⟨(some 10), none, (.ex (.t 3) 1), 0⟩, ⟨(some 1), none, (.mv (.t 9)), 0⟩, ⟨(some 2), none, (.mv (.t 10)), 0⟩]) 
 (.seq (.reg false [⟨(some 11), none, (.mv (.t 2)), 0⟩, ⟨(some 12), none, (.bin .eql (.t 11) (.c (.d (.int .i64 0)))), 0⟩, ⟨(some 13), none, (.mv (.t 12)), 0⟩, ⟨(some 14), (some (13, true)), (.mv (.t 1)), 0⟩, ⟨(some 15), (some (13, true)), (.b2s (.t 14)), 0⟩, ⟨(some 16), (some (13, true)), (.bin .eql (.t 15) (.c (.d (.str [48, 2, 5, 0])))), 0⟩, ⟨(some 17), none, (.pick (.t 13) (.t 16) (.c (.d (.bool false)))), 0⟩, ⟨(some 18), none, (.mv (.t 17)), 0⟩, ⟨(some 19), (some (18, true)), (.call 17 [] [(.c (.d (.int .i64 48)))]), 0⟩, ⟨(some 20), none, (.pick (.t 18) (.t 19) (.c (.d (.bool false)))), 0⟩, ⟨(some 21), none, (.mv (.t 20)), 0⟩, ⟨(some 22), (some (21, true)), (.call 17 [] [(.c (.d (.int .i64 5)))]), 0⟩, ⟨(some 23), (some (21, true)), (.un .not (.t 22)), 0⟩, ⟨(some 24), none, (.pick (.t 21) (.t 23) (.c (.d (.bool false)))), 0⟩, ⟨(some 0), none, (.mv (.t 24)), 0⟩]) .ret)))⟩
theorem h14 : compF Try.prog own Try.f14 = some c14 := by kernel_rfl
theorem k14 : callOk Try.prog 14 = true := by kernel_rfl
def c19 : IF := ⟨2, 14, [(.t 4)], 
 (.seq (.reg false [⟨(some 4), none, (.mv (.c (.d (.int .i64 0)))), 0⟩]) 
 (.seq (.reg false [⟨(some 5), none, (.mv (.t 0)), 0⟩, ⟨(some 6), none, (.mv (.t 1)), 0⟩, ⟨(some 7), none, (.bin .rem (.t 5) (.t 6)), 0⟩, ⟨(some 0), none, (.mv (.t 7)), 0⟩]) 
 (.seq 
 (.seq (.reg false [⟨(some 8), none, (.mv (.t 0)), 0⟩, ⟨(some 9), none, (.bin .lss (.t 8) (.c (.d (.int .i64 0)))), 0⟩]) (.cond (.t 9) (.reg false [⟨(some 10), none, (.mv (.t 0)), 0⟩, ⟨(some 11), none, (.mv (.t 1)), 0⟩, ⟨(some 12), none, (.bin .add (.t 10) (.t 11)), 0⟩, ⟨(some 0), none, (.mv (.t 12)), 0⟩]) .skip)) 
 (.seq (.reg false [⟨(some 13), none, (.mv (.t 0)), 0⟩, ⟨(some 4), none, (.mv (.t 13)), 0⟩]) .ret))))⟩
theorem h19 : compF Try.prog own Try.f19 = some c19 := by kernel_rfl
theorem k19 : callOk Try.prog 19 = true := by kernel_rfl
def c3 : IF := ⟨2, 78, [(.t 4)], 
 (.seq (.reg false [⟨(some 4), none, (.mv (.c (.d (.bool false)))), 0⟩]) 
 (.seq 
 (.seq (.reg false [⟨(some 9), none, (.call 14 [] []), 0⟩, ⟨(some 10), none, (.un .not (.t 9)), 0⟩]) (.cond (.t 10) 
 (.seq (.reg false [⟨(some 4), none, (.mv (.c (.d (.bool false)))), 0⟩]) .ret) .skip)) 
 (.seq 
 (.seq (.reg false [⟨(some 11), none, (.mv (.t 1)), 0⟩, ⟨(some 12), none, (.len (.t 11)), 0⟩, ⟨(some 13), none, (.bin .gtr (.t 12) (.c (.d (.int .i64 200)))), 0⟩]) (.cond (.t 13) 
 (.seq (.reg false [⟨(some 4), none, (.mv (.c (.d (.bool true)))), 0⟩]) .ret) .skip)) 
 (.seq (.reg false [⟨(some 14), none, (.mv (.t 0)), 0⟩, ⟨(some 15), none, (.build [(.d (.int .i64 0)), .nils, .nils] [(0, 1, (.t 14))]), 0⟩, ⟨(some 5), none, (.box (.c (.agg [(.d (.int .i64 0)), .nils, .nils]))), 0⟩, ⟨none, none, (.st 3 (.t 5) (.t 15)), 0⟩]) 
 (.seq 
 (.seq (.reg false [⟨(some 16), none, (.mv (.t 0)), 0⟩, ⟨(some 17), none, (.call 15 [] [(.t 16)]), 0⟩, ⟨(some 18), none, (.un .not (.t 17)), 0⟩]) (.cond (.t 18) (.reg false [⟨(some 19), none, (.mv (.t 1)), 0⟩, ⟨(some 20), none, (.fa (.t 5) 1), 0⟩, ⟨none, none, (.st 1 (.t 20) (.t 19)), 0⟩]) .skip)) 
 (.seq (.reg false [⟨(some 22), none, (.ld (some 3) (.t 5)), 0⟩, ⟨(some 23), none, (.bsl 26 3 1 [(.int .i64 0), (.slice 0 []), (.slice 0 [])] [(0, 3, (.t 22))]), 0⟩, ⟨(some 24), none, (.call 16 [] [(.t 23)]), 0⟩, ⟨(some 21), none, (.mv (.t 24)), 0⟩, ⟨(some 25), none, (.ex (.t 21) 0), 0⟩, ⟨(some 26), none, (.ex (.t 21) 1), 0⟩, ⟨(some 6), none, (.mv (.t 25)), 0⟩, ⟨(some 7), none, (.mv (.t 26)), 0⟩]) 
 (.seq (.reg false [⟨(some 27), none, (.mv (.t 0)), 0⟩, ⟨(some 28), none, (.bin .geq (.t 27) (.c (.d (.int .i64 1)))), 0⟩, ⟨(some 29), none, (.mv (.t 28)), 0⟩, ⟨(some 30), (some (29, true)), (.mv (.t 0)), 0⟩, ⟨(some 31), (some (29, true)), (.bin .leq (.t 30) (.c (.d (.int .i64 254)))), 0⟩, ⟨(some 32), none, (.pick (.t 29) (.t 31) (.c (.d (.bool false)))), 0⟩, ⟨(some 33), none, (.mv (.t 32)), 0⟩, ⟨(some 34), (some (33, true)), (.mv (.t 0)), 0⟩, ⟨(some 35), (some (33, true)), (.bin .and (.t 34) (.c (.d (.int .i64 31)))), 0⟩, ⟨(some 36), (some (33, true)), (.bin .neq (.t 35) (.c (.d (.int .i64 31)))), 0⟩, ⟨(some 37), none, (.pick (.t 33) (.t 36) (.c (.d (.bool false)))), 0⟩, ⟨(some 8), none, (.mv (.t 37)), 0⟩]) 
 (.seq (.reg false [⟨(some 38), none, (.mv (.t 0)), 0⟩, ⟨(some 39), none, (.call 17 [] [(.t 38)]), 0⟩, ⟨(some 40), none, (.mv (.t 0)), 0⟩, ⟨(some 41), none, (.call 15 [] [(.t 40)]), 0⟩, ⟨(some 42), none, (.eqb false (.t 39) (.t 41)), 0⟩, ⟨(some 43), none, (.mv (.t 42)), 0⟩, ⟨(some 44), (some (43, true)), (.mv (.t 7)), 0⟩, ⟨(some 45), (some (43, true)), (.bin .eql (.t 44) (.c (.d (.int .i64 0)))), 0⟩, ⟨(some 46), (some (43, true)), (.mv (.t 8)), 0⟩, ⟨(some 47), (some (43, true)), (.eqb false (.t 45) (.t 46)), 0⟩, ⟨(some 48), none, (.pick (.t 43) (.t 47) (.c (.d (.bool false)))), 0⟩, ⟨(some 49), none, (.mv (.t 48)), 0⟩, ⟨(some 50), (some (49, true)), (.mv (.t 8)), 0⟩, ⟨(some 51), (some (49, true)), (.mv (.t 50)), 0⟩, ⟨(some 52), (some (51, true)), (.mv (.t 6)), 0⟩, ⟨(some 53), (some (51, true)), (.len (.t 52)), 0⟩, ⟨(some 54), (some (51, true)), (.bin .geq (.t 53) (.c (.d (.int .i64 2)))), 0⟩, ⟨(some 55), (some (49, true)), (.pick (.t 51) (.t 54) (.c (.d (.bool false)))), 0⟩, ⟨(some 56), (some (49, true)), (.mv (.t 55)), 0⟩, ⟨(some 57), (some (56, true)), (.mv (.t 6)), 0⟩, ⟨(some 58), (some (56, true)), (.ia 1 (.t 57) (.c (.d (.int .i64 0)))), 0⟩, ⟨(some 59), (some (56, true)), (.ld none (.t 58)), 0⟩, ⟨(some 60), (some (56, true)), (.cvi .i64 (.t 59)), 0⟩, ⟨(some 61), (some (56, true)), (.mv (.t 0)), 0⟩, ⟨(some 62), (some (56, true)), (.bin .eql (.t 60) (.t 61)), 0⟩, ⟨(some 63), (some (49, true)), (.pick (.t 56) (.t 62) (.c (.d (.bool false)))), 0⟩, ⟨(some 64), (some (49, true)), (.mv (.t 63)), 0⟩, ⟨(some 65), (some (64, false)), (.mv (.t 8)), 0⟩, ⟨(some 66), (some (64, false)), (.un .not (.t 65)), 0⟩, ⟨(some 67), (some (64, false)), (.mv (.t 66)), 0⟩, ⟨(some 68), (some (67, true)), (.mv (.t 7)), 0⟩, ⟨(some 69), (some (67, true)), (.bin .eql (.t 68) (.c (.d (.int .i64 15)))), 0⟩, ⟨(some 70), (some (64, false)), (.pick (.t 67) (.t 69) (.c (.d (.bool false)))), 0⟩, ⟨(some 71), (some (64, false)), (.mv (.t 70)), 0⟩, ⟨(some 72), (some (71, true)), (.mv (.t 6)), 0⟩, ⟨(some 73), (some (71, true)), (.len (.t 72)), 0⟩, ⟨(some 74), (some (71, true)), (.bin .eql (.t 73) (.c (.d (.int .i64 0)))), 0⟩, ⟨(some 75), (some (64, false)), (.pick (.t 71) (.t 74) (.c (.d (.bool false)))), 0⟩, ⟨(some 76), (some (49, true)), (.pick (.t 64) (.c (.d (.bool true))) (.t 75)), 0⟩, ⟨(some 77), none, (.pick (.t 49) (.t 76) (.c (.d (.bool false)))), 0⟩, ⟨(some 4), none, (.mv (.t 77)), 0⟩]) .ret))))))))⟩
theorem h3 : compF Try.prog own Try.f3 = some c3 := by kernel_rfl
theorem k3 : callOk Try.prog 3 = true := by kernel_rfl
def c4 : IF := ⟨2, 69, [(.t 4)], 
 (.seq (.reg false [⟨(some 2), none, (.box (.t 0)), 0⟩, ⟨(some 4), none, (.mv (.c (.d (.bool false)))), 0⟩]) 
 (.seq 
 (.seq (.reg false [⟨(some 11), none, (.call 14 [] []), 0⟩, ⟨(some 12), none, (.un .not (.t 11)), 0⟩]) (.cond (.t 12) 
 (.seq (.reg false [⟨(some 4), none, (.mv (.c (.d (.bool false)))), 0⟩]) .ret) .skip)) 
 (.seq 
 (.seq (.reg false [⟨(some 13), none, (.ld (some 3) (.t 2)), 0⟩, ⟨(some 14), none, (.bsl 26 3 1 [(.int .i64 0), (.slice 0 []), (.slice 0 [])] [(0, 3, (.t 13))]), 0⟩, ⟨(some 15), none, (.call 18 [] [(.t 14)]), 0⟩]) (.cond (.t 15) 
 (.seq (.reg false [⟨(some 4), none, (.mv (.c (.d (.bool true)))), 0⟩]) .ret) .skip)) 
 (.seq (.reg false [⟨(some 17), none, (.ld (some 3) (.t 2)), 0⟩, ⟨(some 18), none, (.bsl 26 3 1 [(.int .i64 0), (.slice 0 []), (.slice 0 [])] [(0, 3, (.t 17))]), 0⟩, ⟨(some 19), none, (.call 16 [] [(.t 18)]), 0⟩, ⟨(some 16), none, (.mv (.t 19)), 0⟩, ⟨(some 20), none, (.ex (.t 16) 0), 0⟩, ⟨(some 21), none, (.ex (.t 16) 1), 0⟩, ⟨(some 5), none, (.mv (.t 20)), 0⟩, ⟨(some 6), none, (.mv (.t 21)), 0⟩]) 
 (.seq 
 (.seq (.reg false [⟨(some 22), none, (.mv (.t 6)), 0⟩, ⟨(some 23), none, (.bin .neq (.t 22) (.c (.d (.int .i64 0)))), 0⟩, ⟨(some 24), none, (.mv (.t 23)), 0⟩, ⟨(some 25), (some (24, false)), (.mv (.t 5)), 0⟩, ⟨(some 26), (some (24, false)), (.len (.t 25)), 0⟩, ⟨(some 27), (some (24, false)), (.bin .lss (.t 26) (.c (.d (.int .i64 2)))), 0⟩, ⟨(some 28), none, (.pick (.t 24) (.c (.d (.bool true))) (.t 27)), 0⟩, ⟨(some 29), none, (.mv (.t 28)), 0⟩, ⟨(some 30), (some (29, false)), (.mv (.t 5)), 0⟩, ⟨(some 31), (some (29, false)), (.len (.t 30)), 0⟩, ⟨(some 32), (some (29, false)), (.bin .geq (.t 31) (.c (.d (.int .i64 1500)))), 0⟩, ⟨(some 33), none, (.pick (.t 29) (.c (.d (.bool true))) (.t 32)), 0⟩]) (.cond (.t 33) 
 (.seq (.reg false [⟨(some 4), none, (.mv (.c (.d (.bool true)))), 0⟩]) .ret) .skip)) 
 (.seq (.reg false [⟨(some 34), none, (.mv (.t 1)), 0⟩, ⟨(some 35), none, (.mv (.t 5)), 0⟩, ⟨(some 36), none, (.len (.t 35)), 0⟩, ⟨(some 37), none, (.bin .sub (.t 36) (.c (.d (.int .i64 1)))), 0⟩, ⟨(some 38), none, (.call 19 [] [(.t 34), (.t 37)]), 0⟩, ⟨(some 39), none, (.bin .add (.c (.d (.int .i64 1))) (.t 38)), 0⟩, ⟨(some 1), none, (.mv (.t 39)), 0⟩]) 
 (.seq (.reg false [⟨(some 41), none, (.mv (.t 5)), 0⟩, ⟨(some 42), none, (.mv (.t 1)), 0⟩, ⟨(some 43), none, (.sl 1 (.t 41) none (some (.t 42)) none), 0⟩, ⟨(some 44), none, (.call 20 [] [(.t 43)]), 0⟩, ⟨(some 40), none, (.mv (.t 44)), 0⟩, ⟨(some 45), none, (.ex (.t 40) 0), 0⟩, ⟨(some 46), none, (.ex (.t 40) 1), 0⟩, ⟨(some 7), none, (.mv (.t 45)), 0⟩, ⟨(some 8), none, (.mv (.t 46)), 0⟩]) 
 (.seq (.reg false [⟨(some 48), none, (.bsl 5 1 0 [] []), 0⟩, ⟨(some 49), none, (.mv (.t 5)), 0⟩, ⟨(some 50), none, (.app 5 1 1 (.t 48) (.t 49)), 0⟩, ⟨(some 51), none, (.mv (.t 1)), 0⟩, ⟨(some 52), none, (.cvi .u8 (.t 51)), 0⟩, ⟨(some 53), none, (.bsl 5 1 1 [(.int .u8 0)] [(0, 1, (.t 52))]), 0⟩, ⟨(some 54), none, (.app 5 1 1 (.t 50) (.t 53)), 0⟩, ⟨(some 55), none, (.call 20 [] [(.t 54)]), 0⟩, ⟨(some 47), none, (.mv (.t 55)), 0⟩, ⟨(some 56), none, (.ex (.t 47) 0), 0⟩, ⟨(some 57), none, (.ex (.t 47) 1), 0⟩, ⟨(some 9), none, (.mv (.t 56)), 0⟩, ⟨(some 10), none, (.mv (.t 57)), 0⟩]) 
 (.seq (.reg false [⟨(some 58), none, (.mv (.t 8)), 0⟩, ⟨(some 59), none, (.bin .eql (.t 58) (.c (.d (.int .i64 13)))), 0⟩, ⟨(some 60), none, (.mv (.t 59)), 0⟩, ⟨(some 61), (some (60, true)), (.mv (.t 10)), 0⟩, ⟨(some 62), (some (60, true)), (.bin .neq (.t 61) (.c (.d (.int .i64 0)))), 0⟩, ⟨(some 63), (some (60, true)), (.mv (.t 62)), 0⟩, ⟨(some 64), (some (63, false)), (.mv (.t 9)), 0⟩, ⟨(some 65), (some (63, false)), (.len (.t 64)), 0⟩, ⟨(some 66), (some (63, false)), (.bin .eql (.t 65) (.c (.d (.int .i64 2)))), 0⟩, ⟨(some 67), (some (60, true)), (.pick (.t 63) (.c (.d (.bool true))) (.t 66)), 0⟩, ⟨(some 68), none, (.pick (.t 60) (.t 67) (.c (.d (.bool false)))), 0⟩, ⟨(some 4), none, (.mv (.t 68)), 0⟩]) .ret)))))))))⟩
theorem h4 : compF Try.prog own Try.f4 = some c4 := by kernel_rfl
theorem k4 : callOk Try.prog 4 = true := by kernel_rfl
def c5 : IF := ⟨1, 47, [(.t 2)], 
 (.seq (.reg false [⟨(some 2), none, (.mv (.c (.d (.bool false)))), 0⟩]) 
 (.seq 
 (.seq (.reg false [⟨(some 7), none, (.call 14 [] []), 0⟩, ⟨(some 8), none, (.un .not (.t 7)), 0⟩]) (.cond (.t 8) 
 (.seq (.reg false [⟨(some 2), none, (.mv (.c (.d (.bool false)))), 0⟩]) .ret) .skip)) 
 (.seq 
 (.seq (.reg false [⟨(some 9), none, (.mv (.t 0)), 0⟩, ⟨(some 10), none, (.call 18 [] [(.t 9)]), 0⟩]) (.cond (.t 10) 
 (.seq (.reg false [⟨(some 2), none, (.mv (.c (.d (.bool true)))), 0⟩]) .ret) .skip)) 
 (.seq (.reg false [⟨(some 12), none, (.mv (.t 0)), 0⟩, ⟨(some 13), none, (.call 16 [] [(.t 12)]), 0⟩, ⟨(some 11), none, (.mv (.t 13)), 0⟩, ⟨(some 14), none, (.ex (.t 11) 0), 0⟩, ⟨(some 15), none, (.ex (.t 11) 1), 0⟩, ⟨(some 3), none, (.mv (.t 14)), 0⟩, ⟨(some 4), none, (.mv (.t 15)), 0⟩]) 
 (.seq 
 (.seq (.reg false [⟨(some 16), none, (.mv (.t 4)), 0⟩, ⟨(some 17), none, (.bin .neq (.t 16) (.c (.d (.int .i64 0)))), 0⟩]) (.cond (.t 17) 
 (.seq (.reg false [⟨(some 18), none, (.mv (.t 3)), 0⟩, ⟨(some 19), none, (.len (.t 18)), 0⟩, ⟨(some 20), none, (.bin .eql (.t 19) (.c (.d (.int .i64 0)))), 0⟩, ⟨(some 2), none, (.mv (.t 20)), 0⟩]) .ret) .skip)) 
 (.seq (.reg false [⟨(some 22), none, (.mv (.t 3)), 0⟩, ⟨(some 23), none, (.call 20 [] [(.t 22)]), 0⟩, ⟨(some 21), none, (.mv (.t 23)), 0⟩, ⟨(some 24), none, (.ex (.t 21) 0), 0⟩, ⟨(some 25), none, (.ex (.t 21) 1), 0⟩, ⟨(some 5), none, (.mv (.t 24)), 0⟩, ⟨(some 6), none, (.mv (.t 25)), 0⟩]) 
 (.seq (.reg false [⟨(some 26), none, (.mv (.t 6)), 0⟩, ⟨(some 27), none, (.bin .eql (.t 26) (.c (.d (.int .i64 0)))), 0⟩, ⟨(some 28), none, (.mv (.t 27)), 0⟩, ⟨(some 29), (some (28, true)), (.mv (.t 5)), 0⟩, ⟨(some 30), (some (28, true)), (.call 22 [] [(.t 29)]), 0⟩, ⟨(some 31), (some (28, true)), (.mv (.t 0)), 0⟩, ⟨(some 32), (some (28, true)), (.call 22 [] [(.t 31)]), 0⟩, ⟨(some 33), (some (28, true)), (.call 21 [] [(.t 30), (.t 32)]), 0⟩, ⟨(some 34), none, (.pick (.t 28) (.t 33) (.c (.d (.bool false)))), 0⟩, ⟨(some 35), none, (.mv (.t 34)), 0⟩, ⟨(some 36), (some (35, true)), (.mv (.t 0)), 0⟩, ⟨(some 37), (some (35, true)), (.call 23 [] [(.t 36)]), 0⟩, ⟨(some 38), (some (35, true)), (.mv (.t 3)), 0⟩, ⟨(some 39), (some (35, true)), (.len (.t 38)), 0⟩, ⟨(some 40), (some (35, true)), (.bin .eql (.t 37) (.t 39)), 0⟩, ⟨(some 41), none, (.pick (.t 35) (.t 40) (.c (.d (.bool false)))), 0⟩, ⟨(some 42), none, (.mv (.t 41)), 0⟩, ⟨(some 43), (some (42, true)), (.mv (.t 3)), 0⟩, ⟨(some 44), (some (42, true)), (.len (.t 43)), 0⟩, ⟨(some 45), (some (42, true)), (.bin .leq (.t 44) (.c (.d (.int .i64 1500)))), 0⟩, ⟨(some 46), none, (.pick (.t 42) (.t 45) (.c (.d (.bool false)))), 0⟩, ⟨(some 2), none, (.mv (.t 46)), 0⟩]) .ret)))))))⟩
theorem h5 : compF Try.prog own Try.f5 = some c5 := by kernel_rfl
theorem k5 : callOk Try.prog 5 = true := by kernel_rfl
def c6 : IF := ⟨2, 86, [(.t 4)], 
 (.seq (.reg false [⟨(some 4), none, (.mv (.c (.d (.bool false)))), 0⟩]) 
 (.seq 
 (.seq (.reg false [⟨(some 14), none, (.call 14 [] []), 0⟩, ⟨(some 15), none, (.un .not (.t 14)), 0⟩]) (.cond (.t 15) 
 (.seq (.reg false [⟨(some 4), none, (.mv (.c (.d (.bool false)))), 0⟩]) .ret) .skip)) 
 (.seq 
 (.seq (.reg false [⟨(some 16), none, (.mv (.t 0)), 0⟩, ⟨(some 17), none, (.call 18 [] [(.t 16)]), 0⟩, ⟨(some 18), none, (.mv (.t 17)), 0⟩, ⟨(some 19), (some (18, false)), (.mv (.t 1)), 0⟩, ⟨(some 20), (some (18, false)), (.call 18 [] [(.t 19)]), 0⟩, ⟨(some 21), none, (.pick (.t 18) (.c (.d (.bool true))) (.t 20)), 0⟩]) (.cond (.t 21) 
 (.seq (.reg false [⟨(some 4), none, (.mv (.c (.d (.bool true)))), 0⟩]) .ret) .skip)) 
 (.seq (.reg false [⟨(some 23), none, (.mv (.t 0)), 0⟩, ⟨(some 24), none, (.call 16 [] [(.t 23)]), 0⟩, ⟨(some 22), none, (.mv (.t 24)), 0⟩, ⟨(some 25), none, (.ex (.t 22) 0), 0⟩, ⟨(some 26), none, (.ex (.t 22) 1), 0⟩, ⟨(some 5), none, (.mv (.t 25)), 0⟩, ⟨(some 6), none, (.mv (.t 26)), 0⟩]) 
 (.seq (.reg false [⟨(some 28), none, (.mv (.t 1)), 0⟩, ⟨(some 29), none, (.call 16 [] [(.t 28)]), 0⟩, ⟨(some 27), none, (.mv (.t 29)), 0⟩, ⟨(some 30), none, (.ex (.t 27) 0), 0⟩, ⟨(some 31), none, (.ex (.t 27) 1), 0⟩, ⟨(some 7), none, (.mv (.t 30)), 0⟩, ⟨(some 8), none, (.mv (.t 31)), 0⟩]) 
 (.seq 
 (.seq (.reg false [⟨(some 32), none, (.mv (.t 6)), 0⟩, ⟨(some 33), none, (.bin .neq (.t 32) (.c (.d (.int .i64 0)))), 0⟩, ⟨(some 34), none, (.mv (.t 33)), 0⟩, ⟨(some 35), (some (34, false)), (.mv (.t 8)), 0⟩, ⟨(some 36), (some (34, false)), (.bin .neq (.t 35) (.c (.d (.int .i64 0)))), 0⟩, ⟨(some 37), none, (.pick (.t 34) (.c (.d (.bool true))) (.t 36)), 0⟩, ⟨(some 38), none, (.mv (.t 37)), 0⟩, ⟨(some 39), (some (38, false)), (.mv (.t 5)), 0⟩, ⟨(some 40), (some (38, false)), (.len (.t 39)), 0⟩, ⟨(some 41), (some (38, false)), (.mv (.t 7)), 0⟩, ⟨(some 42), (some (38, false)), (.len (.t 41)), 0⟩, ⟨(some 43), (some (38, false)), (.bin .add (.t 40) (.t 42)), 0⟩, ⟨(some 44), (some (38, false)), (.bin .gtr (.t 43) (.c (.d (.int .i64 1500)))), 0⟩, ⟨(some 45), none, (.pick (.t 38) (.c (.d (.bool true))) (.t 44)), 0⟩]) (.cond (.t 45) 
 (.seq (.reg false [⟨(some 4), none, (.mv (.c (.d (.bool true)))), 0⟩]) .ret) .skip)) 
 (.seq (.reg false [⟨(some 46), none, (.bsl 26 3 0 [] []), 0⟩, ⟨(some 47), none, (.mv (.t 0)), 0⟩, ⟨(some 48), none, (.app 26 3 56 (.t 46) (.t 47)), 0⟩, ⟨(some 49), none, (.mv (.t 1)), 0⟩, ⟨(some 50), none, (.app 26 3 56 (.t 48) (.t 49)), 0⟩, ⟨(some 9), none, (.mv (.t 50)), 0⟩]) 
 (.seq (.reg false [⟨(some 52), none, (.mv (.t 9)), 0⟩, ⟨(some 53), none, (.call 16 [] [(.t 52)]), 0⟩, ⟨(some 51), none, (.mv (.t 53)), 0⟩, ⟨(some 54), none, (.ex (.t 51) 0), 0⟩, ⟨(some 55), none, (.ex (.t 51) 1), 0⟩, ⟨(some 10), none, (.mv (.t 54)), 0⟩, ⟨(some 11), none, (.mv (.t 55)), 0⟩]) 
 (.seq (.reg false [⟨(some 57), none, (.bsl 5 1 0 [] []), 0⟩, ⟨(some 58), none, (.mv (.t 5)), 0⟩, ⟨(some 59), none, (.app 5 1 1 (.t 57) (.t 58)), 0⟩, ⟨(some 60), none, (.mv (.t 7)), 0⟩, ⟨(some 61), none, (.app 5 1 1 (.t 59) (.t 60)), 0⟩, ⟨(some 62), none, (.call 20 [] [(.t 61)]), 0⟩, ⟨(some 56), none, (.mv (.t 62)), 0⟩, ⟨(some 63), none, (.ex (.t 56) 0), 0⟩, ⟨(some 64), none, (.ex (.t 56) 1), 0⟩, ⟨(some 12), none, (.mv (.t 63)), 0⟩, ⟨(some 13), none, (.mv (.t 64)), 0⟩]) 
 (.seq (.reg false [⟨(some 65), none, (.mv (.t 11)), 0⟩, ⟨(some 66), none, (.bin .eql (.t 65) (.c (.d (.int .i64 0)))), 0⟩, ⟨(some 67), none, (.mv (.t 66)), 0⟩, ⟨(some 68), (some (67, true)), (.mv (.t 10)), 0⟩, ⟨(some 69), (some (67, true)), (.b2s (.t 68)), 0⟩, ⟨(some 70), (some (67, true)), (.mv (.t 5)), 0⟩, ⟨(some 71), (some (67, true)), (.b2s (.t 70)), 0⟩, ⟨(some 72), (some (67, true)), (.mv (.t 7)), 0⟩, ⟨(some 73), (some (67, true)), (.b2s (.t 72)), 0⟩, ⟨(some 74), (some (67, true)), (.bin .add (.t 71) (.t 73)), 0⟩, ⟨(some 75), (some (67, true)), (.bin .eql (.t 69) (.t 74)), 0⟩, ⟨(some 76), none, (.pick (.t 67) (.t 75) (.c (.d (.bool false)))), 0⟩, ⟨(some 77), none, (.mv (.t 76)), 0⟩, ⟨(some 78), (some (77, true)), (.mv (.t 13)), 0⟩, ⟨(some 79), (some (77, true)), (.bin .eql (.t 78) (.c (.d (.int .i64 0)))), 0⟩, ⟨(some 80), none, (.pick (.t 77) (.t 79) (.c (.d (.bool false)))), 0⟩, ⟨(some 81), none, (.mv (.t 80)), 0⟩, ⟨(some 82), (some (81, true)), (.mv (.t 12)), 0⟩, ⟨(some 83), (some (81, true)), (.mv (.t 9)), 0⟩, ⟨(some 84), (some (81, true)), (.call 24 [] [(.t 82), (.t 83)]), 0⟩, ⟨(some 85), none, (.pick (.t 81) (.t 84) (.c (.d (.bool false)))), 0⟩, ⟨(some 4), none, (.mv (.t 85)), 0⟩]) .ret))))))))))⟩
theorem h6 : compF Try.prog own Try.f6 = some c6 := by kernel_rfl
theorem k6 : callOk Try.prog 6 = true := by kernel_rfl
end Go.Proofs.Ytbdohnigbnhjnaa.Vc
