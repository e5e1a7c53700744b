/- The small-language texts of functions, as the kernel reduces them. -/
import Derived.Test.YtokbcminleemaaaVcOwn
import Derived.KernelRfl
namespace Go.Proofs.Ytokbcminleemaaa.Vc
open Go Go.Vk Go.Proofs
set_option maxRecDepth 100000
def c32 : IF := ⟨2, 14, [(.t 4)], 
 (.seq (.reg false [⟨(some 4), none, (.mv (.c (.d (.int .i64 0)))), 0⟩]) 
 (.seq (.reg false [⟨(some 5), none, (.mv (.t 0)), 0⟩, ⟨(some 6), none, (.mv (.t 1)), 0⟩, ⟨(some 7), none, (.bin .rem (.t 5) (.t 6)), 0⟩, ⟨(some 0), none, (.mv (.t 7)), 0⟩]) 
 (.seq 
 (.seq (.reg false [⟨(some 8), none, (.mv (.t 0)), 0⟩, ⟨(some 9), none, (.bin .lss (.t 8) (.c (.d (.int .i64 0)))), 0⟩]) (.cond (.t 9) (.reg false [⟨(some 10), none, (.mv (.t 0)), 0⟩, ⟨(some 11), none, (.mv (.t 1)), 0⟩, ⟨(some 12), none, (.bin .add (.t 10) (.t 11)), 0⟩, ⟨(some 0), none, (.mv (.t 12)), 0⟩]) .skip)) 
 (.seq (.reg false [⟨(some 13), none, (.mv (.t 0)), 0⟩, ⟨(some 4), none, (.mv (.t 13)), 0⟩]) .ret))))⟩
theorem h32 : compF Try.prog own Try.f32 = some c32 := by kernel_rfl
theorem k32 : callOk Try.prog 32 = true := by kernel_rfl
def c39 : IF := ⟨2, 14, [(.t 4)], 
 (.seq (.reg false [⟨(some 4), none, (.mv (.c (.d (.int .i64 0)))), 0⟩]) 
 (.seq (.reg false [⟨(some 5), none, (.mv (.t 0)), 0⟩, ⟨(some 6), none, (.mv (.t 1)), 0⟩, ⟨(some 7), none, (.bin .rem (.t 5) (.t 6)), 0⟩, ⟨(some 0), none, (.mv (.t 7)), 0⟩]) 
 (.seq 
 (.seq (.reg false [⟨(some 8), none, (.mv (.t 0)), 0⟩, ⟨(some 9), none, (.bin .lss (.t 8) (.c (.d (.int .i64 0)))), 0⟩]) (.cond (.t 9) (.reg false [⟨(some 10), none, (.mv (.t 0)), 0⟩, ⟨(some 11), none, (.mv (.t 1)), 0⟩, ⟨(some 12), none, (.bin .add (.t 10) (.t 11)), 0⟩, ⟨(some 0), none, (.mv (.t 12)), 0⟩]) .skip)) 
 (.seq (.reg false [⟨(some 13), none, (.mv (.t 0)), 0⟩, ⟨(some 4), none, (.mv (.t 13)), 0⟩]) .ret))))⟩
theorem h39 : compF Try.prog own Try.f39 = some c39 := by kernel_rfl
theorem k39 : callOk Try.prog 39 = true := by kernel_rfl
def c60 : IF := ⟨3, 15, [(.t 6)], 
 (.seq (.reg false [⟨(some 6), none, (.mv (.c (.d (.bool false)))), 0⟩]) 
 (.seq (.reg false [⟨(some 7), none, (.mv (.t 0)), 0⟩, ⟨(some 8), none, (.mv (.t 1)), 0⟩, ⟨(some 9), none, (.bin .geq (.t 7) (.t 8)), 0⟩, ⟨(some 10), none, (.mv (.t 9)), 0⟩, ⟨(some 11), (some (10, true)), (.mv (.t 0)), 0⟩, ⟨(some 12), (some (10, true)), (.mv (.t 2)), 0⟩, ⟨(some 13), (some (10, true)), (.bin .leq (.t 11) (.t 12)), 0⟩, ⟨(some 14), none, (.pick (.t 10) (.t 13) (.c (.d (.bool false)))), 0⟩, ⟨(some 6), none, (.mv (.t 14)), 0⟩]) .ret))⟩
theorem h60 : compF Try.prog own Try.f60 = some c60 := by kernel_rfl
theorem k60 : callOk Try.prog 60 = true := by kernel_rfl
def c54 : IF := ⟨3, 15, [(.t 6)], 
 (.seq (.reg false [⟨(some 6), none, (.mv (.c (.d (.bool false)))), 0⟩]) 
 (.seq (.reg false [⟨(some 7), none, (.mv (.t 0)), 0⟩, ⟨(some 8), none, (.mv (.t 1)), 0⟩, ⟨(some 9), none, (.bin .geq (.t 7) (.t 8)), 0⟩, ⟨(some 10), none, (.mv (.t 9)), 0⟩, ⟨(some 11), (some (10, true)), (.mv (.t 0)), 0⟩, ⟨(some 12), (some (10, true)), (.mv (.t 2)), 0⟩, ⟨(some 13), (some (10, true)), (.bin .leq (.t 11) (.t 12)), 0⟩, ⟨(some 14), none, (.pick (.t 10) (.t 13) (.c (.d (.bool false)))), 0⟩, ⟨(some 6), none, (.mv (.t 14)), 0⟩]) .ret))⟩
theorem h54 : compF Try.prog own Try.f54 = some c54 := by kernel_rfl
theorem k54 : callOk Try.prog 54 = true := by kernel_rfl
def c65 : IF := ⟨3, 15, [(.t 6)], 
 (.seq (.reg false [⟨(some 6), none, (.mv (.c (.d (.bool false)))), 0⟩]) 
 (.seq (.reg false [⟨(some 7), none, (.mv (.t 0)), 0⟩, ⟨(some 8), none, (.mv (.t 1)), 0⟩, ⟨(some 9), none, (.bin .geq (.t 7) (.t 8)), 0⟩, ⟨(some 10), none, (.mv (.t 9)), 0⟩, ⟨(some 11), (some (10, true)), (.mv (.t 0)), 0⟩, ⟨(some 12), (some (10, true)), (.mv (.t 2)), 0⟩, ⟨(some 13), (some (10, true)), (.bin .leq (.t 11) (.t 12)), 0⟩, ⟨(some 14), none, (.pick (.t 10) (.t 13) (.c (.d (.bool false)))), 0⟩, ⟨(some 6), none, (.mv (.t 14)), 0⟩]) .ret))⟩
theorem h65 : compF Try.prog own Try.f65 = some c65 := by kernel_rfl
theorem k65 : callOk Try.prog 65 = true := by kernel_rfl
def c49 : IF := ⟨1, 6, [(.cell 2 (some 6))], 
 (.seq (.reg false [⟨(some 2), none, (.box (.c (.agg [(.d (.int .i64 0)), (.d (.int .i64 0)), (.d (.str [])), (.d (.int .i64 0)), (.d (.int .i64 0)), (.d (.int .i64 0))]))), 0⟩]) 
 (.seq 
 (.seq (.reg false [⟨(some 3), none, (.mv (.t 0)), 0⟩]) (.cond (.t 3) 
 (.seq (.reg false [⟨(some 4), none, (.build [(.d (.int .i64 0)), (.d (.int .i64 0)), (.d (.str [])), (.d (.int .i64 0)), (.d (.int .i64 0)), (.d (.int .i64 0))] [(0, 1, (.c (.d (.int .i64 1)))), (1, 1, (.c (.d (.int .i64 1))))]), 0⟩, ⟨none, none, (.st 6 (.t 2) (.t 4)), 0⟩]) .ret) .skip)) 
 (.seq (.reg false [⟨(some 5), none, (.build [(.d (.int .i64 0)), (.d (.int .i64 0)), (.d (.str [])), (.d (.int .i64 0)), (.d (.int .i64 0)), (.d (.int .i64 0))] [(0, 1, (.c (.d (.int .i64 1))))]), 0⟩, ⟨none, none, (.st 6 (.t 2) (.t 5)), 0⟩]) .ret)))⟩
theorem h49 : compF Try.prog own Try.f49 = some c49 := by kernel_rfl
theorem k49 : callOk Try.prog 49 = true := by kernel_rfl
def c34 : IF := ⟨1, 16, [(.t 2)], 
 (.seq (.reg false [⟨(some 2), none, (.mv (.c .nils)), 0⟩]) 
 (.seq 
 (.seq (.reg false [⟨(some 3), none, (.mv (.t 0)), 0⟩, ⟨(some 4), none, (.bin .rem (.t 3) (.c (.d (.int .i64 3)))), 0⟩]) (.block 0 
 (.seq (.reg false [⟨(some 6), none, (.bin .eql (.t 4) (.c (.d (.int .i64 0)))), 0⟩, ⟨(some 5), none, (.mv (.t 6)), 0⟩]) (.cond (.t 5) 
 (.seq (.reg false [⟨(some 7), none, (.call 49 [] [(.c (.d (.bool false)))]), 0⟩, ⟨(some 8), none, (.bsl 78 6 1 [(.int .i64 0), (.int .i64 0), (.str []), (.int .i64 0), (.int .i64 0), (.int .i64 0)] [(0, 6, (.t 7))]), 0⟩, ⟨(some 2), none, (.mv (.t 8)), 0⟩]) .ret) 
 (.seq (.reg false [⟨(some 10), none, (.bin .eql (.t 4) (.c (.d (.int .i64 1)))), 0⟩, ⟨(some 9), none, (.mv (.t 10)), 0⟩]) (.cond (.t 9) 
 (.seq (.reg false [⟨(some 11), none, (.call 49 [] [(.c (.d (.bool true)))]), 0⟩, ⟨(some 12), none, (.build [(.d (.int .i64 0)), (.d (.int .i64 0)), (.d (.str [])), (.d (.int .i64 0)), (.d (.int .i64 0)), (.d (.int .i64 0))] [(0, 1, (.c (.d (.int .i64 2)))), (1, 1, (.c (.d (.int .i64 5))))]), 0⟩, ⟨(some 13), none, (.bsl 78 6 2 [(.int .i64 0), (.int .i64 0), (.str []), (.int .i64 0), (.int .i64 0), (.int .i64 0), (.int .i64 0), (.int .i64 0), (.str []), (.int .i64 0), (.int .i64 0), (.int .i64 0)] [(0, 6, (.t 11)), (6, 6, (.t 12))]), 0⟩, ⟨(some 2), none, (.mv (.t 13)), 0⟩]) .ret) .skip)))))) 
 (.seq (.reg false [⟨(some 14), none, (.build [(.d (.int .i64 0)), (.d (.int .i64 0)), (.d (.str [])), (.d (.int .i64 0)), (.d (.int .i64 0)), (.d (.int .i64 0))] [(0, 1, (.c (.d (.int .i64 4)))), (2, 1, (.c (.d (.str [120]))))]), 0⟩, ⟨(some 15), none, (.bsl 78 6 1 [(.int .i64 0), (.int .i64 0), (.str []), (.int .i64 0), (.int .i64 0), (.int .i64 0)] [(0, 6, (.t 14))]), 0⟩, ⟨(some 2), none, (.mv (.t 15)), 0⟩]) .ret)))⟩
theorem h34 : compF Try.prog own Try.f34 = some c34 := by kernel_rfl
theorem k34 : callOk Try.prog 34 = true := by kernel_rfl
def c35 : IF := ⟨1, 7, [(.cell 2 (some 3))], 
 (.seq (.reg false [⟨(some 1), none, (.box (.t 0)), 0⟩, ⟨(some 2), none, (.box (.c (.agg [(.d (.int .i64 0)), (.d (.int .i64 0)), (.d (.int .i64 0))]))), 0⟩]) 
 (.seq (.reg false [⟨(some 3), none, (.fa (.t 1) 1), 0⟩, ⟨(some 4), none, (.ld none (.t 3)), 0⟩, ⟨(some 5), none, (.bin .and (.t 4) (.c (.d (.int .i64 4294967295)))), 0⟩, ⟨(some 6), none, (.build [(.d (.int .i64 0)), (.d (.int .i64 0)), (.d (.int .i64 0))] [(0, 1, (.t 5))]), 0⟩, ⟨none, none, (.st 3 (.t 2) (.t 6)), 0⟩]) .ret))⟩
theorem h35 : compF Try.prog own Try.f35 = some c35 := by kernel_rfl
theorem k35 : callOk Try.prog 35 = true := by kernel_rfl
def c53 : IF := ⟨1, 10, [(.cell 2 (some 3))], 
 (.seq (.reg false [⟨(some 1), none, (.box (.t 0)), 0⟩, ⟨(some 2), none, (.box (.c (.agg [(.d (.int .i64 0)), (.d (.int .i64 0)), (.d (.int .i64 0))]))), 0⟩]) 
 (.seq (.reg false [⟨(some 3), none, (.fa (.t 1) 0), 0⟩, ⟨(some 4), none, (.ld none (.t 3)), 0⟩, ⟨(some 5), none, (.fa (.t 1) 1), 0⟩, ⟨(some 6), none, (.ld none (.t 5)), 0⟩, ⟨(some 7), none, (.fa (.t 1) 2), 0⟩, ⟨(some 8), none, (.ld none (.t 7)), 0⟩, ⟨(some 9), none, (.build [(.d (.int .i64 0)), (.d (.int .i64 0)), (.d (.int .i64 0))] [(0, 1, (.t 4)), (1, 1, (.t 6)), (2, 1, (.t 8))]), 0⟩, ⟨none, none, (.st 3 (.t 2) (.t 9)), 0⟩]) .ret))⟩
theorem h53 : compF Try.prog own Try.f53 = some c53 := by kernel_rfl
theorem k53 : callOk Try.prog 53 = true := by kernel_rfl
def c57 : IF := ⟨1, 20, [(.cell 2 (some 6))], 
 (.seq (.reg false [⟨(some 1), none, (.box (.t 0)), 0⟩, ⟨(some 2), none, (.box (.c (.agg [(.d (.int .i64 0)), (.d (.int .i64 0)), (.d (.str [])), (.d (.int .i64 0)), (.d (.int .i64 0)), (.d (.int .i64 0))]))), 0⟩]) 
 (.seq (.reg false [⟨(some 3), none, (.fa (.t 1) 0), 0⟩, ⟨(some 4), none, (.ld none (.t 3)), 0⟩, ⟨(some 5), none, (.fa (.t 1) 1), 0⟩, ⟨(some 6), none, (.ld none (.t 5)), 0⟩, ⟨(some 7), none, (.fa (.t 1) 2), 0⟩, ⟨(some 8), none, (.ld none (.t 7)), 0⟩, ⟨(some 9), none, (.fa (.t 1) 3), 0⟩, ⟨(some 10), none, (.fa (.t 9) 0), 0⟩, ⟨(some 11), none, (.ld none (.t 10)), 0⟩, ⟨(some 12), none, (.fa (.t 1) 3), 0⟩, ⟨(some 13), none, (.fa (.t 12) 1), 0⟩, ⟨(some 14), none, (.ld none (.t 13)), 0⟩, ⟨(some 15), none, (.fa (.t 1) 3), 0⟩, ⟨(some 16), none, (.fa (.t 15) 2), 0⟩, ⟨(some 17), none, (.ld none (.t 16)), 0⟩, ⟨(some 18), none, (.build [(.d (.int .i64 0)), (.d (.int .i64 0)), (.d (.int .i64 0))] [(0, 1, (.t 11)), (1, 1, (.t 14)), (2, 1, (.t 17))]), 0⟩, ⟨(some 19), none, (.build [(.d (.int .i64 0)), (.d (.int .i64 0)), (.d (.str [])), (.d (.int .i64 0)), (.d (.int .i64 0)), (.d (.int .i64 0))] [(0, 1, (.t 4)), (1, 1, (.t 6)), (2, 1, (.t 8)), (3, 3, (.t 18))]), 0⟩, ⟨none, none, (.st 6 (.t 2) (.t 19)), 0⟩]) .ret))⟩
theorem h57 : compF Try.prog own Try.f57 = some c57 := by kernel_rfl
theorem k57 : callOk Try.prog 57 = true := by kernel_rfl
def c22 : IF := ⟨1, 22, [(.cell 2 (some 10))], 
 (.seq (.reg false [⟨(some 1), none, (.box (.t 0)), 0⟩, ⟨(some 2), none, (.box (.c (.agg [(.d (.int .i64 0)), (.d (.int .i64 0)), (.d (.int .i64 0)), (.d (.int .i64 0)), (.d (.int .i64 0)), (.d (.int .i64 0)), (.d (.int .i64 0)), (.d (.bool false)), (.d (.int .i64 0)), .nils]))), 0⟩]) 
 (.seq (.reg true [⟨(some 3), none, (.fa (.t 1) 0), 0⟩, ⟨(some 4), none, (.ld none (.t 3)), 1⟩, ⟨(some 5), none, (.fa (.t 1) 1), 0⟩, ⟨(some 6), none, (.ld none (.t 5)), 4⟩, ⟨(some 7), none, (.fa (.t 1) 2), 0⟩, ⟨(some 8), none, (.ld (some 3) (.t 7)), 16⟩, ⟨(some 9), none, (.call 53 [] [(.t 8)]), 48⟩, ⟨(some 10), none, (.fa (.t 1) 5), 0⟩, ⟨(some 11), none, (.ld none (.t 10)), 128⟩, ⟨(some 12), none, (.fa (.t 1) 6), 0⟩, ⟨(some 13), none, (.ld none (.t 12)), 512⟩, ⟨(some 14), none, (.fa (.t 1) 7), 0⟩, ⟨(some 15), none, (.ld none (.t 14)), 2048⟩, ⟨(some 16), none, (.fa (.t 1) 8), 0⟩, ⟨(some 17), none, (.ld none (.t 16)), 8192⟩, ⟨(some 18), none, (.fa (.t 1) 9), 0⟩, ⟨(some 19), none, (.ld none (.t 18)), 32768⟩, ⟨(some 20), none, (.call 29 [] [(.t 19)]), 98416⟩, ⟨(some 21), none, (.build [(.d (.int .i64 0)), (.d (.int .i64 0)), (.d (.int .i64 0)), (.d (.int .i64 0)), (.d (.int .i64 0)), (.d (.int .i64 0)), (.d (.int .i64 0)), (.d (.bool false)), (.d (.int .i64 0)), .nils] [(0, 1, (.t 4)), (1, 1, (.t 6)), (2, 3, (.t 9)), (5, 1, (.t 11)), (6, 1, (.t 13)), (7, 1, (.t 15)), (8, 1, (.t 17)), (9, 1, (.t 20))]), 262143⟩, ⟨none, none, (.st 10 (.t 2) (.t 21)), 524287⟩]) .ret))⟩
theorem h22 : compF Try.prog own Try.f22 = some c22 := by kernel_rfl
theorem k22 : callOk Try.prog 22 = true := by kernel_rfl
def c24 : IF := ⟨1, 23, [(.cell 2 (some 9))], 
 (.seq (.reg false [⟨(some 1), none, (.box (.t 0)), 0⟩, ⟨(some 2), none, (.box (.c (.agg [(.d (.int .i64 0)), (.d (.int .i64 0)), (.d (.bool false)), (.d (.int .i64 0)), (.d (.int .i64 0)), (.d (.int .i64 0)), (.d (.int .i64 0)), (.d (.bool false)), .nils]))), 0⟩]) 
 (.seq (.reg true [⟨(some 3), none, (.fa (.t 1) 0), 0⟩, ⟨(some 4), none, (.ld none (.t 3)), 1⟩, ⟨(some 5), none, (.fa (.t 1) 1), 0⟩, ⟨(some 6), none, (.ld none (.t 5)), 4⟩, ⟨(some 7), none, (.fa (.t 1) 2), 0⟩, ⟨(some 8), none, (.ld none (.t 7)), 16⟩, ⟨(some 9), none, (.fa (.t 1) 3), 0⟩, ⟨(some 10), none, (.ld none (.t 9)), 64⟩, ⟨(some 11), none, (.fa (.t 1) 4), 0⟩, ⟨(some 12), none, (.ld none (.t 11)), 256⟩, ⟨(some 13), none, (.fa (.t 1) 5), 0⟩, ⟨(some 14), none, (.ld none (.t 13)), 1024⟩, ⟨(some 15), none, (.fa (.t 1) 6), 0⟩, ⟨(some 16), none, (.ld none (.t 15)), 4096⟩, ⟨(some 17), none, (.fa (.t 1) 7), 0⟩, ⟨(some 18), none, (.ld none (.t 17)), 16384⟩, ⟨(some 19), none, (.fa (.t 1) 8), 0⟩, ⟨(some 20), none, (.ld none (.t 19)), 65536⟩, ⟨(some 21), none, (.call 29 [] [(.t 20)]), 196608⟩, ⟨(some 22), none, (.build [(.d (.int .i64 0)), (.d (.int .i64 0)), (.d (.bool false)), (.d (.int .i64 0)), (.d (.int .i64 0)), (.d (.int .i64 0)), (.d (.int .i64 0)), (.d (.bool false)), .nils] [(0, 1, (.t 4)), (1, 1, (.t 6)), (2, 1, (.t 8)), (3, 1, (.t 10)), (4, 1, (.t 12)), (5, 1, (.t 14)), (6, 1, (.t 16)), (7, 1, (.t 18)), (8, 1, (.t 21))]), 524287⟩, ⟨none, none, (.st 9 (.t 2) (.t 22)), 1048575⟩]) .ret))⟩
theorem h24 : compF Try.prog own Try.f24 = some c24 := by kernel_rfl
theorem k24 : callOk Try.prog 24 = true := by kernel_rfl
def c29 : IF := ⟨1, 20, [(.t 2)], 
 (.seq (.reg false [⟨(some 2), none, (.mv (.c .nils)), 0⟩]) 
 (.seq (.reg false [⟨(some 3), none, (.mv (.c .nils)), 0⟩]) 
 (.seq 
 (.seq (.reg false [⟨(some 4), none, (.mv (.c (.d (.int .i64 0)))), 0⟩]) (.block 0 (.loop 
 (.seq 
 (.seq (.reg false [⟨(some 5), none, (.mv (.t 4)), 0⟩, ⟨(some 6), none, (.mv (.t 0)), 0⟩, ⟨(some 7), none, (.len (.t 6)), 0⟩, ⟨(some 8), none, (.bin .lss (.t 5) (.t 7)), 0⟩]) (.cond (.t 8) .skip (.exit 0))) 
 (.seq (.block 1 (.reg false [⟨(some 11), none, (.mv (.t 3)), 0⟩, ⟨(some 12), none, (.mv (.t 0)), 0⟩, ⟨(some 13), none, (.mv (.t 4)), 0⟩, ⟨(some 14), none, (.ia 6 (.t 12) (.t 13)), 0⟩, ⟨(some 15), none, (.ld (some 6) (.t 14)), 0⟩, ⟨(some 16), none, (.call 57 [] [(.t 15)]), 0⟩, ⟨(some 17), none, (.bsl 98 6 1 [(.int .i64 0), (.int .i64 0), (.str []), (.int .i64 0), (.int .i64 0), (.int .i64 0)] [(0, 6, (.t 16))]), 0⟩, ⟨(some 18), none, (.app 98 6 56 (.t 11) (.t 17)), 0⟩, ⟨(some 3), none, (.mv (.t 18)), 0⟩])) (.reg false [⟨(some 9), none, (.mv (.t 4)), 0⟩, ⟨(some 10), none, (.bin .add (.t 9) (.c (.d (.int .i64 1)))), 0⟩, ⟨(some 4), none, (.mv (.t 10)), 0⟩])))))) 
 (.seq (.reg false [⟨(some 19), none, (.mv (.t 3)), 0⟩, ⟨(some 2), none, (.mv (.t 19)), 0⟩]) .ret))))⟩
theorem h29 : compF Try.prog own Try.f29 = some c29 := by kernel_rfl
theorem k29 : callOk Try.prog 29 = true := by kernel_rfl
def c25 : IF := ⟨1, 20, [(.t 2)], 
 (.seq (.reg false [⟨(some 2), none, (.mv (.c (.d (.bool false)))), 0⟩]) 
 (.seq 
 (.seq (.reg false [⟨(some 4), none, (.mv (.t 0)), 0⟩, ⟨(some 5), none, (.len (.t 4)), 0⟩, ⟨(some 6), none, (.bin .gtr (.t 5) (.c (.d (.int .i64 60)))), 0⟩]) (.cond (.t 6) 
 (.seq (.reg false [⟨(some 2), none, (.mv (.c (.d (.bool true)))), 0⟩]) .ret) .skip)) 
 (.seq 
 (.seq (.reg false [⟨(some 3), none, (.mv (.c (.d (.int .i64 0)))), 0⟩]) (.block 0 (.loop 
 (.seq 
 (.seq (.reg false [⟨(some 7), none, (.mv (.t 3)), 0⟩, ⟨(some 8), none, (.mv (.t 0)), 0⟩, ⟨(some 9), none, (.len (.t 8)), 0⟩, ⟨(some 10), none, (.bin .lss (.t 7) (.t 9)), 0⟩]) (.cond (.t 10) .skip (.exit 0))) 
 (.seq (.block 1 
 (.seq (.reg false [⟨(some 13), none, (.mv (.t 0)), 0⟩, ⟨(some 14), none, (.mv (.t 3)), 0⟩, ⟨(some 15), none, (.ia 6 (.t 13) (.t 14)), 0⟩, ⟨(some 16), none, (.fa (.t 15) 2), 0⟩, ⟨(some 17), none, (.ld none (.t 16)), 0⟩, ⟨(some 18), none, (.lens (.t 17)), 0⟩, ⟨(some 19), none, (.bin .gtr (.t 18) (.c (.d (.int .i64 200)))), 0⟩]) (.cond (.t 19) 
 (.seq (.reg false [⟨(some 2), none, (.mv (.c (.d (.bool true)))), 0⟩]) .ret) .skip))) (.reg false [⟨(some 11), none, (.mv (.t 3)), 0⟩, ⟨(some 12), none, (.bin .add (.t 11) (.c (.d (.int .i64 1)))), 0⟩, ⟨(some 3), none, (.mv (.t 12)), 0⟩])))))) 
 (.seq (.reg false [⟨(some 2), none, (.mv (.c (.d (.bool false)))), 0⟩]) .ret))))⟩
theorem h25 : compF Try.prog own Try.f25 = some c25 := by kernel_rfl
theorem k25 : callOk Try.prog 25 = true := by kernel_rfl
def c66 : IF := ⟨1, 25, [(.t 2), (.t 3)], 
 (.seq (.reg false [⟨(some 2), none, (.mv (.c (.d .nilIface))), 0⟩, ⟨(some 3), none, (.mv (.c (.d (.bool false)))), 0⟩]) 
 (.seq 
 (.seq (.reg false [⟨(some 4), none, (.mv (.t 0)), 0⟩]) (.block 0 
 (.seq (.reg false [⟨(some 6), none, (.bin .eql (.t 4) (.c (.d (.int .i64 1)))), 0⟩, ⟨(some 5), none, (.mv (.t 6)), 0⟩]) (.cond (.t 5) 
 (.seq (.reg false [⟨(some 7), none, (.build [] []), 0⟩, ⟨(some 8), none, (.mki 114 (.t 7)), 0⟩, ⟨(some 2), none, (.mv (.t 8)), 0⟩, ⟨(some 3), none, (.mv (.c (.d (.bool true)))), 0⟩]) .ret) 
 (.seq (.reg false [⟨(some 10), none, (.bin .eql (.t 4) (.c (.d (.int .i64 2)))), 0⟩, ⟨(some 9), none, (.mv (.t 10)), 0⟩]) (.cond (.t 9) 
 (.seq (.reg false [⟨(some 11), none, (.build [] []), 0⟩, ⟨(some 12), none, (.mki 115 (.t 11)), 0⟩, ⟨(some 2), none, (.mv (.t 12)), 0⟩, ⟨(some 3), none, (.mv (.c (.d (.bool true)))), 0⟩]) .ret) 
 (.seq (.reg false [⟨(some 14), none, (.bin .eql (.t 4) (.c (.d (.int .i64 3)))), 0⟩, ⟨(some 13), none, (.mv (.t 14)), 0⟩]) (.cond (.t 13) 
 (.seq (.reg false [⟨(some 15), none, (.build [] []), 0⟩, ⟨(some 16), none, (.mki 116 (.t 15)), 0⟩, ⟨(some 2), none, (.mv (.t 16)), 0⟩, ⟨(some 3), none, (.mv (.c (.d (.bool true)))), 0⟩]) .ret) 
 (.seq (.reg false [⟨(some 18), none, (.bin .eql (.t 4) (.c (.d (.int .i64 4)))), 0⟩, ⟨(some 17), none, (.mv (.t 18)), 0⟩]) (.cond (.t 17) 
 (.seq (.reg false [⟨(some 19), none, (.build [] []), 0⟩, ⟨(some 20), none, (.mki 117 (.t 19)), 0⟩, ⟨(some 2), none, (.mv (.t 20)), 0⟩, ⟨(some 3), none, (.mv (.c (.d (.bool true)))), 0⟩]) .ret) 
 (.seq (.reg false [⟨(some 22), none, (.bin .eql (.t 4) (.c (.d (.int .i64 5)))), 0⟩, ⟨(some 21), none, (.mv (.t 22)), 0⟩]) (.cond (.t 21) 
 (.seq (.reg false [⟨(some 23), none, (.build [] []), 0⟩, ⟨(some 24), none, (.mki 118 (.t 23)), 0⟩, ⟨(some 2), none, (.mv (.t 24)), 0⟩, ⟨(some 3), none, (.mv (.c (.d (.bool true)))), 0⟩]) .ret) .skip)))))))))))) 
 (.seq (.reg false [⟨(some 2), none, (.mv (.c (.d .nilIface))), 0⟩, ⟨(some 3), none, (.mv (.c (.d (.bool false)))), 0⟩]) .ret)))⟩
theorem h66 : compF Try.prog own Try.f66 = some c66 := by kernel_rfl
theorem k66 : callOk Try.prog 66 = true := by kernel_rfl
def c67 : IF := ⟨2, 28, [(.cell 4 (some 6))], 
 (.seq (.reg false [⟨(some 2), none, (.box (.t 0)), 0⟩, ⟨(some 4), none, (.box (.c (.agg [(.d (.int .i64 0)), (.d (.int .i64 0)), (.d (.str [])), (.d (.int .i64 0)), (.d (.int .i64 0)), (.d (.int .i64 0))]))), 0⟩]) 
 (.seq 
 (.seq (.reg false [⟨(some 5), none, (.mv (.t 1)), 0⟩]) (.block 0 
 (.seq (.reg false [⟨(some 6), none, (.ta 114 (.agg []) (.t 5)), 0⟩, ⟨(some 7), none, (.ex (.t 6) 1), 0⟩, ⟨(some 8), none, (.ex (.t 6) 0), 0⟩, ⟨(some 9), none, (.ta 115 (.agg []) (.t 5)), 0⟩, ⟨(some 10), none, (.ex (.t 9) 1), 0⟩, ⟨(some 11), none, (.ex (.t 9) 0), 0⟩, ⟨(some 12), none, (.pick (.t 7) (.c (.d (.bool true))) (.t 10)), 0⟩]) (.cond (.t 12) (.reg false [⟨(some 13), none, (.fa (.t 2) 1), 0⟩, ⟨none, none, (.st 1 (.t 13) (.c (.d (.int .i64 0)))), 0⟩]) 
 (.seq (.reg false [⟨(some 14), none, (.ta 116 (.agg []) (.t 5)), 0⟩, ⟨(some 15), none, (.ex (.t 14) 1), 0⟩, ⟨(some 16), none, (.ex (.t 14) 0), 0⟩, ⟨(some 17), none, (.ta 117 (.agg []) (.t 5)), 0⟩, ⟨(some 18), none, (.ex (.t 17) 1), 0⟩, ⟨(some 19), none, (.ex (.t 17) 0), 0⟩, ⟨(some 20), none, (.pick (.t 15) (.c (.d (.bool true))) (.t 18)), 0⟩]) (.cond (.t 20) (.reg false [⟨(some 21), none, (.fa (.t 2) 2), 0⟩, ⟨none, none, (.st 1 (.t 21) (.c (.d (.str [])))), 0⟩]) 
 (.seq (.reg false [⟨(some 22), none, (.ta 118 (.agg []) (.t 5)), 0⟩, ⟨(some 23), none, (.ex (.t 22) 1), 0⟩, ⟨(some 24), none, (.ex (.t 22) 0), 0⟩]) (.cond (.t 23) (.reg false [⟨(some 25), none, (.build [(.d (.int .i64 0)), (.d (.int .i64 0)), (.d (.int .i64 0))] []), 0⟩, ⟨(some 26), none, (.fa (.t 2) 3), 0⟩, ⟨none, none, (.st 3 (.t 26) (.t 25)), 0⟩]) .skip)))))))) 
 (.seq (.reg false [⟨(some 27), none, (.ld (some 6) (.t 2)), 0⟩, ⟨none, none, (.st 6 (.t 4) (.t 27)), 0⟩]) .ret)))⟩
theorem h67 : compF Try.prog own Try.f67 = some c67 := by kernel_rfl
theorem k67 : callOk Try.prog 67 = true := by kernel_rfl
def c83 : IF := ⟨2, 13, [(.t 4)], 
 (.seq (.reg false [⟨(some 2), none, (.box (.t 0)), 0⟩, ⟨(some 3), none, (.box (.t 1)), 0⟩, ⟨(some 4), none, (.mv (.c (.d (.int .i64 0)))), 0⟩]) 
 (.seq 
 (.seq (.reg false [⟨(some 5), none, (.fa (.t 3) 1), 0⟩, ⟨(some 6), none, (.ld none (.t 5)), 0⟩, ⟨(some 7), none, (.bin .neq (.t 6) (.c (.d (.int .i64 0)))), 0⟩, ⟨(some 8), none, (.mv (.t 7)), 0⟩, ⟨(some 9), (some (8, true)), (.fa (.t 3) 1), 0⟩, ⟨(some 10), (some (8, true)), (.ld none (.t 9)), 0⟩, ⟨(some 11), (some (8, true)), (.bin .neq (.t 10) (.c (.d (.int .i64 1)))), 0⟩, ⟨(some 12), none, (.pick (.t 8) (.t 11) (.c (.d (.bool false)))), 0⟩]) (.cond (.t 12) 
 (.seq (.reg false [⟨(some 4), none, (.mv (.c (.d (.int .i64 2)))), 0⟩]) .ret) .skip)) 
 (.seq (.reg false [⟨(some 4), none, (.mv (.c (.d (.int .i64 0)))), 0⟩]) .ret)))⟩
theorem h83 : compF Try.prog own Try.f83 = some c83 := by kernel_rfl
theorem k83 : callOk Try.prog 83 = true := by kernel_rfl
def c87 : IF := ⟨2, 5, [(.t 4)], 
 (.seq (.reg false [⟨(some 2), none, (.box (.t 0)), 0⟩, ⟨(some 3), none, (.box (.t 1)), 0⟩, ⟨(some 4), none, (.mv (.c (.d (.int .i64 0)))), 0⟩]) 
 (.seq (.reg false [⟨(some 4), none, (.mv (.c (.d (.int .i64 0)))), 0⟩]) .ret))⟩
theorem h87 : compF Try.prog own Try.f87 = some c87 := by kernel_rfl
theorem k87 : callOk Try.prog 87 = true := by kernel_rfl
def c95 : IF := ⟨2, 9, [(.t 4)], 
 (.seq (.reg false [⟨(some 2), none, (.box (.t 0)), 0⟩, ⟨(some 3), none, (.box (.t 1)), 0⟩, ⟨(some 4), none, (.mv (.c (.d (.int .i64 0)))), 0⟩]) 
 (.seq 
 (.seq (.reg false [⟨(some 5), none, (.fa (.t 3) 2), 0⟩, ⟨(some 6), none, (.ld none (.t 5)), 0⟩, ⟨(some 7), none, (.lens (.t 6)), 0⟩, ⟨(some 8), none, (.bin .gtr (.t 7) (.c (.d (.int .i64 64)))), 0⟩]) (.cond (.t 8) 
 (.seq (.reg false [⟨(some 4), none, (.mv (.c (.d (.int .i64 4)))), 0⟩]) .ret) .skip)) 
 (.seq (.reg false [⟨(some 4), none, (.mv (.c (.d (.int .i64 0)))), 0⟩]) .ret)))⟩
theorem h95 : compF Try.prog own Try.f95 = some c95 := by kernel_rfl
theorem k95 : callOk Try.prog 95 = true := by kernel_rfl
def c91 : IF := ⟨2, 16, [(.t 4)], 
 (.seq (.reg false [⟨(some 2), none, (.box (.t 0)), 0⟩, ⟨(some 3), none, (.box (.t 1)), 0⟩, ⟨(some 4), none, (.mv (.c (.d (.int .i64 0)))), 0⟩]) 
 (.seq 
 (.seq (.reg false [⟨(some 6), none, (.build [] []), 0⟩, ⟨(some 7), none, (.ld (some 6) (.t 3)), 0⟩, ⟨(some 8), none, (.call 95 [] [(.t 6), (.t 7)]), 0⟩, ⟨(some 5), none, (.mv (.t 8)), 0⟩]) 
 (.seq (.reg false [⟨(some 9), none, (.mv (.t 5)), 0⟩, ⟨(some 10), none, (.bin .neq (.t 9) (.c (.d (.int .i64 0)))), 0⟩]) (.cond (.t 10) 
 (.seq (.reg false [⟨(some 11), none, (.mv (.t 5)), 0⟩, ⟨(some 4), none, (.mv (.t 11)), 0⟩]) .ret) .skip))) 
 (.seq 
 (.seq (.reg false [⟨(some 12), none, (.fa (.t 3) 2), 0⟩, ⟨(some 13), none, (.ld none (.t 12)), 0⟩, ⟨(some 14), none, (.call 96 [] [(.t 13), (.c (.d (.str [48, 49])))]), 0⟩, ⟨(some 15), none, (.bin .neq (.t 14) (.c (.d (.str [])))), 0⟩]) (.cond (.t 15) 
 (.seq (.reg false [⟨(some 4), none, (.mv (.c (.d (.int .i64 5)))), 0⟩]) .ret) .skip)) 
 (.seq (.reg false [⟨(some 4), none, (.mv (.c (.d (.int .i64 0)))), 0⟩]) .ret))))⟩
theorem h91 : compF Try.prog own Try.f91 = some c91 := by kernel_rfl
theorem k91 : callOk Try.prog 91 = true := by kernel_rfl
def c120 : IF := ⟨2, 28, [(.t 4)], 
 (.seq (.reg false [⟨(some 2), none, (.box (.t 0)), 0⟩, ⟨(some 3), none, (.box (.t 1)), 0⟩, ⟨(some 4), none, (.mv (.c (.d (.int .i64 0)))), 0⟩]) 
 (.seq (.reg false [⟨(some 5), none, (.mv (.c (.fn 124 []))), 0⟩]) 
 (.seq 
 (.seq (.reg false [⟨(some 6), none, (.mv (.t 5)), 0⟩, ⟨(some 7), none, (.fa (.t 3) 3), 0⟩, ⟨(some 8), none, (.fa (.t 7) 0), 0⟩, ⟨(some 9), none, (.ld none (.t 8)), 0⟩, ⟨(some 10), none, (.callv (.t 6) [(.t 9), (.c (.d (.int .i64 32)))]), 0⟩, ⟨(some 11), none, (.un .not (.t 10)), 0⟩, ⟨(some 12), none, (.mv (.t 11)), 0⟩, ⟨(some 13), (some (12, false)), (.mv (.t 5)), 0⟩, ⟨(some 14), (some (12, false)), (.fa (.t 3) 3), 0⟩, ⟨(some 15), (some (12, false)), (.fa (.t 14) 1), 0⟩, ⟨(some 16), (some (12, false)), (.ld none (.t 15)), 0⟩, ⟨(some 17), (some (12, false)), (.callv (.t 13) [(.t 16), (.c (.d (.int .i64 24)))]), 0⟩, ⟨(some 18), (some (12, false)), (.un .not (.t 17)), 0⟩, ⟨(some 19), none, (.pick (.t 12) (.c (.d (.bool true))) (.t 18)), 0⟩, ⟨(some 20), none, (.mv (.t 19)), 0⟩, ⟨(some 21), (some (20, false)), (.mv (.t 5)), 0⟩, ⟨(some 22), (some (20, false)), (.fa (.t 3) 3), 0⟩, ⟨(some 23), (some (20, false)), (.fa (.t 22) 2), 0⟩, ⟨(some 24), (some (20, false)), (.ld none (.t 23)), 0⟩, ⟨(some 25), (some (20, false)), (.callv (.t 21) [(.t 24), (.c (.d (.int .i64 8)))]), 0⟩, ⟨(some 26), (some (20, false)), (.un .not (.t 25)), 0⟩, ⟨(some 27), none, (.pick (.t 20) (.c (.d (.bool true))) (.t 26)), 0⟩]) (.cond (.t 27) 
 (.seq (.reg false [⟨(some 4), none, (.mv (.c (.d (.int .i64 2)))), 0⟩]) .ret) .skip)) 
 (.seq (.reg false [⟨(some 4), none, (.mv (.c (.d (.int .i64 0)))), 0⟩]) .ret))))⟩
theorem h120 : compF Try.prog own Try.f120 = some c120 := by kernel_rfl
theorem k120 : callOk Try.prog 120 = true := by kernel_rfl
def c124 : IF := ⟨2, 13, [(.t 4)], 
 (.seq (.reg false [⟨(some 4), none, (.mv (.c (.d (.bool false)))), 0⟩]) 
 (.seq (.reg false [⟨(some 5), none, (.mv (.t 0)), 0⟩, ⟨(some 6), none, (.bin .geq (.t 5) (.c (.d (.int .i64 0)))), 0⟩, ⟨(some 7), none, (.mv (.t 6)), 0⟩, ⟨(some 8), (some (7, true)), (.mv (.t 0)), 0⟩, ⟨(some 9), (some (7, true)), (.mv (.t 1)), 0⟩, ⟨(some 10), (some (7, true)), (.bin .shl (.c (.d (.int .i64 1))) (.t 9)), 0⟩, ⟨(some 11), (some (7, true)), (.bin .lss (.t 8) (.t 10)), 0⟩, ⟨(some 12), none, (.pick (.t 7) (.t 11) (.c (.d (.bool false)))), 0⟩, ⟨(some 4), none, (.mv (.t 12)), 0⟩]) .ret))⟩
theorem h124 : compF Try.prog own Try.f124 = some c124 := by kernel_rfl
theorem k124 : callOk Try.prog 124 = true := by kernel_rfl
def c96 : IF := ⟨2, 43, [(.t 4)], 
 (.seq (.reg false [⟨(some 4), none, (.mv (.c (.d (.str [])))), 0⟩]) 
 (.seq 
 (.seq (.reg false [⟨(some 7), none, (.mv (.t 0)), 0⟩, ⟨(some 8), none, (.bin .eql (.t 7) (.c (.d (.str [])))), 0⟩, ⟨(some 9), none, (.mv (.t 8)), 0⟩, ⟨(some 10), (some (9, false)), (.mv (.t 1)), 0⟩, ⟨(some 11), (some (9, false)), (.bin .eql (.t 10) (.c (.d (.str [])))), 0⟩, ⟨(some 12), none, (.pick (.t 9) (.c (.d (.bool true))) (.t 11)), 0⟩]) (.cond (.t 12) 
 (.seq (.reg false [⟨(some 13), none, (.mv (.t 0)), 0⟩, ⟨(some 4), none, (.mv (.t 13)), 0⟩]) .ret) .skip)) 
 (.seq 
 (.seq (.reg false [⟨(some 14), none, (.mv (.t 1)), 0⟩, ⟨(some 15), none, (.lens (.t 14)), 0⟩, ⟨(some 16), none, (.bin .eql (.t 15) (.c (.d (.int .i64 1)))), 0⟩, ⟨(some 17), none, (.mv (.t 16)), 0⟩, ⟨(some 18), (some (17, true)), (.mv (.t 1)), 0⟩, ⟨(some 19), (some (17, true)), (.ixs (.t 18) (.c (.d (.int .i64 0)))), 0⟩, ⟨(some 20), (some (17, true)), (.bin .lss (.t 19) (.c (.d (.int .u8 128)))), 0⟩, ⟨(some 21), none, (.pick (.t 17) (.t 20) (.c (.d (.bool false)))), 0⟩]) (.cond (.t 21) 
 (.seq (.reg true [⟨(some 22), none, (.mv (.t 0)), 0⟩, ⟨(some 23), none, (.mv (.t 1)), 0⟩, ⟨(some 24), none, (.ixs (.t 23) (.c (.d (.int .i64 0)))), 2⟩, ⟨(some 25), none, (.call 98 [] [(.t 22), (.t 24)]), 7⟩, ⟨(some 26), none, (.mv (.t 1)), 0⟩, ⟨(some 27), none, (.ixs (.t 26) (.c (.d (.int .i64 0)))), 16⟩, ⟨(some 28), none, (.call 97 [] [(.t 25), (.t 27)]), 63⟩, ⟨(some 4), none, (.mv (.t 28)), 127⟩]) .ret) .skip)) 
 (.seq 
 (.seq (.reg false [⟨(some 30), none, (.mv (.t 1)), 0⟩, ⟨(some 31), none, (.call 99 [] [(.t 30)]), 0⟩, ⟨(some 29), none, (.mv (.t 31)), 0⟩, ⟨(some 32), none, (.ex (.t 29) 0), 0⟩, ⟨(some 33), none, (.ex (.t 29) 1), 0⟩, ⟨(some 5), none, (.box (.c (.agg (List.replicate 256 (.d (.bool false)))))), 0⟩, ⟨none, none, (.st 256 (.t 5) (.t 32)), 0⟩, ⟨(some 6), none, (.mv (.t 33)), 0⟩]) 
 (.seq (.reg false [⟨(some 34), none, (.mv (.t 6)), 0⟩]) (.cond (.t 34) 
 (.seq (.reg false [⟨(some 35), none, (.mv (.t 0)), 0⟩, ⟨(some 36), none, (.call 101 [] [(.t 35), (.t 5)]), 0⟩, ⟨(some 37), none, (.call 100 [] [(.t 36), (.t 5)]), 0⟩, ⟨(some 4), none, (.mv (.t 37)), 0⟩]) .ret) .skip))) 
 (.seq (.reg false [⟨(some 38), none, (.mv (.t 0)), 0⟩, ⟨(some 39), none, (.mv (.t 1)), 0⟩, ⟨(some 40), none, (.call 103 [] [(.t 38), (.t 39)]), 0⟩, ⟨(some 41), none, (.mv (.t 1)), 0⟩, ⟨(some 42), none, (.call 102 [] [(.t 40), (.t 41)]), 0⟩, ⟨(some 4), none, (.mv (.t 42)), 0⟩]) .ret)))))⟩
theorem h96 : compF Try.prog own Try.f96 = some c96 := by kernel_rfl
theorem k96 : callOk Try.prog 96 = true := by kernel_rfl
def c99 : IF := ⟨1, 21, [(.cell 2 (some 256)), (.t 3)], 
 (.seq (.reg false [⟨(some 2), none, (.box (.c (.agg (List.replicate 256 (.d (.bool false)))))), 0⟩, ⟨(some 3), none, (.mv (.c (.d (.bool false)))), 0⟩]) 
 (.seq 
 (.seq (.reg false [⟨(some 4), none, (.mv (.c (.d (.int .i64 0)))), 0⟩]) (.block 0 (.loop 
 (.seq 
 (.seq (.reg false [⟨(some 6), none, (.mv (.t 4)), 0⟩, ⟨(some 7), none, (.mv (.t 0)), 0⟩, ⟨(some 8), none, (.lens (.t 7)), 0⟩, ⟨(some 9), none, (.bin .lss (.t 6) (.t 8)), 0⟩]) (.cond (.t 9) .skip (.exit 0))) 
 (.seq (.block 1 
 (.seq (.reg false [⟨(some 12), none, (.mv (.t 0)), 0⟩, ⟨(some 13), none, (.mv (.t 4)), 0⟩, ⟨(some 14), none, (.ixs (.t 12) (.t 13)), 0⟩, ⟨(some 5), none, (.mv (.t 14)), 0⟩]) 
 (.seq 
 (.seq (.reg false [⟨(some 15), none, (.mv (.t 5)), 0⟩, ⟨(some 16), none, (.bin .geq (.t 15) (.c (.d (.int .u8 128)))), 0⟩]) (.cond (.t 16) 
 (.seq (.reg false [⟨(some 17), none, (.ld (some 256) (.t 2)), 0⟩, ⟨none, none, (.st 256 (.t 2) (.t 17)), 0⟩, ⟨(some 3), none, (.mv (.c (.d (.bool false)))), 0⟩]) .ret) .skip)) (.reg false [⟨(some 18), none, (.mv (.t 5)), 0⟩, ⟨(some 19), none, (.iaA 256 1 (.t 2) (.t 18)), 0⟩, ⟨none, none, (.st 1 (.t 19) (.c (.d (.bool true)))), 0⟩])))) (.reg false [⟨(some 10), none, (.mv (.t 4)), 0⟩, ⟨(some 11), none, (.bin .add (.t 10) (.c (.d (.int .i64 1)))), 0⟩, ⟨(some 4), none, (.mv (.t 11)), 0⟩])))))) 
 (.seq (.reg false [⟨(some 20), none, (.ld (some 256) (.t 2)), 0⟩, ⟨none, none, (.st 256 (.t 2) (.t 20)), 0⟩, ⟨(some 3), none, (.mv (.c (.d (.bool true)))), 0⟩]) .ret)))⟩
theorem h99 : compF Try.prog own Try.f99 = some c99 := by kernel_rfl
theorem k99 : callOk Try.prog 99 = true := by kernel_rfl
def c100 : IF := ⟨2, 16, [(.t 4)], 
 (.seq (.reg false [⟨(some 4), none, (.mv (.c (.d (.str [])))), 0⟩]) 
 (.seq (.block 0 (.loop 
 (.seq 
 (.seq (.reg false [⟨(some 5), none, (.mv (.t 0)), 0⟩, ⟨(some 6), none, (.lens (.t 5)), 0⟩, ⟨(some 7), none, (.bin .gtr (.t 6) (.c (.d (.int .i64 0)))), 0⟩]) (.cond (.t 7) .skip (.exit 0))) (.block 1 
 (.seq 
 (.seq (.reg false [⟨(some 8), none, (.mv (.t 1)), 0⟩, ⟨(some 9), none, (.mv (.t 0)), 0⟩, ⟨(some 10), none, (.ixs (.t 9) (.c (.d (.int .i64 0)))), 0⟩, ⟨(some 11), none, (.call 104 [] [(.t 8), (.t 10)]), 0⟩, ⟨(some 12), none, (.un .not (.t 11)), 0⟩]) (.cond (.t 12) (.exit 0) .skip)) (.reg false [⟨(some 13), none, (.mv (.t 0)), 0⟩, ⟨(some 14), none, (.sls (.t 13) (some (.c (.d (.int .i64 1)))) none), 0⟩, ⟨(some 0), none, (.mv (.t 14)), 0⟩])))))) 
 (.seq (.reg false [⟨(some 15), none, (.mv (.t 0)), 0⟩, ⟨(some 4), none, (.mv (.t 15)), 0⟩]) .ret)))⟩
theorem h100 : compF Try.prog own Try.f100 = some c100 := by kernel_rfl
theorem k100 : callOk Try.prog 100 = true := by kernel_rfl
def c101 : IF := ⟨2, 22, [(.t 4)], 
 (.seq (.reg false [⟨(some 4), none, (.mv (.c (.d (.str [])))), 0⟩]) 
 (.seq (.block 0 (.loop 
 (.seq 
 (.seq (.reg false [⟨(some 5), none, (.mv (.t 0)), 0⟩, ⟨(some 6), none, (.lens (.t 5)), 0⟩, ⟨(some 7), none, (.bin .gtr (.t 6) (.c (.d (.int .i64 0)))), 0⟩]) (.cond (.t 7) .skip (.exit 0))) (.block 1 
 (.seq 
 (.seq (.reg false [⟨(some 8), none, (.mv (.t 1)), 0⟩, ⟨(some 9), none, (.mv (.t 0)), 0⟩, ⟨(some 10), none, (.mv (.t 0)), 0⟩, ⟨(some 11), none, (.lens (.t 10)), 0⟩, ⟨(some 12), none, (.bin .sub (.t 11) (.c (.d (.int .i64 1)))), 0⟩, ⟨(some 13), none, (.ixs (.t 9) (.t 12)), 0⟩, ⟨(some 14), none, (.call 104 [] [(.t 8), (.t 13)]), 0⟩, ⟨(some 15), none, (.un .not (.t 14)), 0⟩]) (.cond (.t 15) (.exit 0) .skip)) (.reg false [⟨(some 16), none, (.mv (.t 0)), 0⟩, ⟨(some 17), none, (.mv (.t 0)), 0⟩, ⟨(some 18), none, (.lens (.t 17)), 0⟩, ⟨(some 19), none, (.bin .sub (.t 18) (.c (.d (.int .i64 1)))), 0⟩, ⟨(some 20), none, (.sls (.t 16) none (some (.t 19))), 0⟩, ⟨(some 0), none, (.mv (.t 20)), 0⟩])))))) 
 (.seq (.reg false [⟨(some 21), none, (.mv (.t 0)), 0⟩, ⟨(some 4), none, (.mv (.t 21)), 0⟩]) .ret)))⟩
theorem h101 : compF Try.prog own Try.f101 = some c101 := by kernel_rfl
theorem k101 : callOk Try.prog 101 = true := by kernel_rfl
def c104 : IF := ⟨2, 10, [(.t 4)], 
 (.seq (.reg false [⟨(some 4), none, (.mv (.c (.d (.bool false)))), 0⟩]) 
 (.seq (.reg false [⟨(some 5), none, (.mv (.t 0)), 0⟩, ⟨(some 6), none, (.mv (.t 1)), 0⟩, ⟨(some 7), none, (.nilc (.t 5)), 0⟩, ⟨(some 8), none, (.iaA 256 1 (.t 7) (.t 6)), 0⟩, ⟨(some 9), none, (.ld none (.t 8)), 0⟩, ⟨(some 4), none, (.mv (.t 9)), 0⟩]) .ret))⟩
theorem h104 : compF Try.prog own Try.f104 = some c104 := by kernel_rfl
theorem k104 : callOk Try.prog 104 = true := by kernel_rfl
def c61 : IF := ⟨1, 25, [(.t 2)], 
 (.seq (.reg false [⟨(some 1), none, (.box (.t 0)), 0⟩, ⟨(some 2), none, (.mv (.c (.d (.int .i64 0)))), 0⟩]) 
 (.seq (.reg false [⟨(some 6), none, (.fa (.t 1) 0), 0⟩, ⟨(some 7), none, (.ld none (.t 6)), 0⟩, ⟨(some 8), none, (.call 66 [] [(.t 7)]), 0⟩, ⟨(some 5), none, (.mv (.t 8)), 0⟩, ⟨(some 9), none, (.ex (.t 5) 0), 0⟩, ⟨(some 10), none, (.ex (.t 5) 1), 0⟩, ⟨(some 3), none, (.mv (.t 9)), 0⟩, ⟨(some 4), none, (.mv (.t 10)), 0⟩]) 
 (.seq (.block 0 
 (.seq (.reg false [⟨(some 12), none, (.mv (.t 4)), 0⟩, ⟨(some 13), none, (.un .not (.t 12)), 0⟩, ⟨(some 11), none, (.mv (.t 13)), 0⟩]) (.cond (.t 11) 
 (.seq (.reg false [⟨(some 2), none, (.mv (.c (.d (.int .i64 10)))), 0⟩]) .ret) 
 (.seq (.reg true [⟨(some 15), none, (.ld (some 6) (.t 1)), 0⟩, ⟨(some 16), none, (.mv (.t 3)), 0⟩, ⟨(some 17), none, (.call 67 [] [(.t 15), (.t 16)]), 3⟩, ⟨(some 18), none, (.fa (.t 1) 0), 0⟩, ⟨(some 19), none, (.ld none (.t 18)), 8⟩, ⟨(some 20), none, (.build [(.d (.int .i64 0)), (.d (.int .i64 0)), (.d (.str [])), (.d (.int .i64 0)), (.d (.int .i64 0)), (.d (.int .i64 0))] [(0, 1, (.t 19))]), 24⟩, ⟨(some 21), none, (.eq true [.int, .int, .str, .int, .int, .int] (.t 17) (.t 20)), 63⟩, ⟨(some 14), none, (.mv (.t 21)), 127⟩]) (.cond (.t 14) 
 (.seq (.reg false [⟨(some 2), none, (.mv (.c (.d (.int .i64 12)))), 0⟩]) .ret) .skip))))) 
 (.seq (.reg false [⟨(some 22), none, (.mv (.t 3)), 0⟩, ⟨(some 23), none, (.ld (some 6) (.t 1)), 0⟩, ⟨(some 24), none, (.inv (.t 22) [(114, 83), (115, 87), (116, 91), (117, 95), (118, 120)] [(.t 23)]), 0⟩, ⟨(some 2), none, (.mv (.t 24)), 0⟩]) .ret))))⟩
theorem h61 : compF Try.prog own Try.f61 = some c61 := by kernel_rfl
theorem k61 : callOk Try.prog 61 = true := by kernel_rfl
def c55 : IF := ⟨1, 111, [(.t 2)], 
 (.seq (.reg false [⟨(some 1), none, (.box (.t 0)), 0⟩, ⟨(some 2), none, (.mv (.c (.d (.int .i64 0)))), 0⟩]) 
 (.seq 
 (.seq (.reg false [⟨(some 6), none, (.fa (.t 1) 0), 0⟩, ⟨(some 7), none, (.ld none (.t 6)), 0⟩, ⟨(some 8), none, (.call 65 [] [(.t 7), (.c (.d (.int .i64 1))), (.c (.d (.int .i64 5)))]), 0⟩, ⟨(some 9), none, (.un .not (.t 8)), 0⟩]) (.cond (.t 9) 
 (.seq (.reg false [⟨(some 2), none, (.mv (.c (.d (.int .i64 10)))), 0⟩]) .ret) .skip)) 
 (.seq (.reg true [⟨(some 10), none, (.fa (.t 1) 0), 0⟩, ⟨(some 11), none, (.ld none (.t 10)), 1⟩, ⟨(some 12), none, (.bin .eql (.t 11) (.c (.d (.int .i64 1)))), 3⟩, ⟨(some 13), none, (.mv (.t 12)), 7⟩, ⟨(some 14), (some (13, false)), (.fa (.t 1) 0), 15⟩, ⟨(some 15), (some (13, false)), (.ld none (.t 14)), 31⟩, ⟨(some 16), (some (13, false)), (.bin .eql (.t 15) (.c (.d (.int .i64 2)))), 63⟩, ⟨(some 17), none, (.pick (.t 13) (.c (.d (.bool true))) (.t 16)), 127⟩, ⟨(some 18), none, (.fa (.t 1) 0), 0⟩, ⟨(some 19), none, (.ld none (.t 18)), 256⟩, ⟨(some 20), none, (.bin .eql (.t 19) (.c (.d (.int .i64 3)))), 768⟩, ⟨(some 21), none, (.mv (.t 20)), 1807⟩, ⟨(some 22), (some (21, false)), (.fa (.t 1) 0), 3855⟩, ⟨(some 23), (some (21, false)), (.ld none (.t 22)), 7951⟩, ⟨(some 24), (some (21, false)), (.bin .eql (.t 23) (.c (.d (.int .i64 4)))), 16143⟩, ⟨(some 25), none, (.pick (.t 21) (.c (.d (.bool true))) (.t 24)), 32527⟩, ⟨(some 3), none, (.mv (.t 17)), 4095⟩, ⟨(some 4), none, (.mv (.t 25)), 131071⟩]) 
 (.seq 
 (.seq (.reg false [⟨(some 26), none, (.mv (.t 3)), 0⟩, ⟨(some 27), none, (.un .not (.t 26)), 0⟩, ⟨(some 28), none, (.mv (.t 27)), 0⟩, ⟨(some 29), (some (28, true)), (.fa (.t 1) 1), 0⟩, ⟨(some 30), (some (28, true)), (.ld none (.t 29)), 0⟩, ⟨(some 31), (some (28, true)), (.bin .neq (.t 30) (.c (.d (.int .i64 0)))), 0⟩, ⟨(some 32), none, (.pick (.t 28) (.t 31) (.c (.d (.bool false)))), 0⟩, ⟨(some 33), none, (.mv (.t 32)), 0⟩, ⟨(some 34), (some (33, false)), (.mv (.t 4)), 0⟩, ⟨(some 35), (some (33, false)), (.un .not (.t 34)), 0⟩, ⟨(some 36), (some (33, false)), (.mv (.t 35)), 0⟩, ⟨(some 37), (some (36, true)), (.fa (.t 1) 2), 0⟩, ⟨(some 38), (some (36, true)), (.ld none (.t 37)), 0⟩, ⟨(some 39), (some (36, true)), (.bin .neq (.t 38) (.c (.d (.str [])))), 0⟩, ⟨(some 40), (some (33, false)), (.pick (.t 36) (.t 39) (.c (.d (.bool false)))), 0⟩, ⟨(some 41), none, (.pick (.t 33) (.c (.d (.bool true))) (.t 40)), 0⟩, ⟨(some 42), none, (.mv (.t 41)), 0⟩, ⟨(some 43), (some (42, false)), (.fa (.t 1) 0), 0⟩, ⟨(some 44), (some (42, false)), (.ld none (.t 43)), 0⟩, ⟨(some 45), (some (42, false)), (.bin .neq (.t 44) (.c (.d (.int .i64 5)))), 0⟩, ⟨(some 46), (some (42, false)), (.mv (.t 45)), 0⟩, ⟨(some 47), (some (46, true)), (.fa (.t 1) 3), 0⟩, ⟨(some 48), (some (46, true)), (.ld (some 3) (.t 47)), 0⟩, ⟨(some 49), (some (46, true)), (.build [(.d (.int .i64 0)), (.d (.int .i64 0)), (.d (.int .i64 0))] []), 0⟩, ⟨(some 50), (some (46, true)), (.eq true [.int, .int, .int] (.t 48) (.t 49)), 0⟩, ⟨(some 51), (some (42, false)), (.pick (.t 46) (.t 50) (.c (.d (.bool false)))), 0⟩, ⟨(some 52), none, (.pick (.t 42) (.c (.d (.bool true))) (.t 51)), 0⟩]) (.cond (.t 52) 
 (.seq (.reg false [⟨(some 2), none, (.mv (.c (.d (.int .i64 12)))), 0⟩]) .ret) .skip)) 
 (.seq 
 (.seq (.reg false [⟨(some 53), none, (.fa (.t 1) 0), 0⟩, ⟨(some 54), none, (.ld none (.t 53)), 0⟩, ⟨(some 55), none, (.bin .eql (.t 54) (.c (.d (.int .i64 1)))), 0⟩, ⟨(some 56), none, (.mv (.t 55)), 0⟩, ⟨(some 57), (some (56, true)), (.fa (.t 1) 1), 0⟩, ⟨(some 58), (some (56, true)), (.ld none (.t 57)), 0⟩, ⟨(some 59), (some (56, true)), (.call 65 [] [(.t 58), (.c (.d (.int .i64 0))), (.c (.d (.int .i64 1)))]), 0⟩, ⟨(some 60), (some (56, true)), (.un .not (.t 59)), 0⟩, ⟨(some 61), none, (.pick (.t 56) (.t 60) (.c (.d (.bool false)))), 0⟩, ⟨(some 62), none, (.mv (.t 61)), 0⟩, ⟨(some 63), (some (62, false)), (.fa (.t 1) 3), 0⟩, ⟨(some 64), (some (62, false)), (.fa (.t 63) 0), 0⟩, ⟨(some 65), (some (62, false)), (.ld none (.t 64)), 0⟩, ⟨(some 66), (some (62, false)), (.call 65 [] [(.t 65), (.c (.d (.int .i64 0))), (.c (.d (.int .i64 4294967295)))]), 0⟩, ⟨(some 67), (some (62, false)), (.un .not (.t 66)), 0⟩, ⟨(some 68), none, (.pick (.t 62) (.c (.d (.bool true))) (.t 67)), 0⟩, ⟨(some 69), none, (.mv (.t 68)), 0⟩, ⟨(some 70), (some (69, false)), (.fa (.t 1) 3), 0⟩, ⟨(some 71), (some (69, false)), (.fa (.t 70) 1), 0⟩, ⟨(some 72), (some (69, false)), (.ld none (.t 71)), 0⟩, ⟨(some 73), (some (69, false)), (.call 65 [] [(.t 72), (.c (.d (.int .i64 0))), (.c (.d (.int .i64 16777215)))]), 0⟩, ⟨(some 74), (some (69, false)), (.un .not (.t 73)), 0⟩, ⟨(some 75), none, (.pick (.t 69) (.c (.d (.bool true))) (.t 74)), 0⟩, ⟨(some 76), none, (.mv (.t 75)), 0⟩, ⟨(some 77), (some (76, false)), (.fa (.t 1) 3), 0⟩, ⟨(some 78), (some (76, false)), (.fa (.t 77) 2), 0⟩, ⟨(some 79), (some (76, false)), (.ld none (.t 78)), 0⟩, ⟨(some 80), (some (76, false)), (.call 65 [] [(.t 79), (.c (.d (.int .i64 0))), (.c (.d (.int .i64 255)))]), 0⟩, ⟨(some 81), (some (76, false)), (.un .not (.t 80)), 0⟩, ⟨(some 82), none, (.pick (.t 76) (.c (.d (.bool true))) (.t 81)), 0⟩]) (.cond (.t 82) 
 (.seq (.reg false [⟨(some 2), none, (.mv (.c (.d (.int .i64 2)))), 0⟩]) .ret) .skip)) 
 (.seq 
 (.seq (.reg false [⟨(some 83), none, (.fa (.t 1) 2), 0⟩, ⟨(some 84), none, (.ld none (.t 83)), 0⟩, ⟨(some 85), none, (.lens (.t 84)), 0⟩, ⟨(some 86), none, (.bin .gtr (.t 85) (.c (.d (.int .i64 64)))), 0⟩]) (.cond (.t 86) 
 (.seq (.reg false [⟨(some 2), none, (.mv (.c (.d (.int .i64 4)))), 0⟩]) .ret) .skip)) 
 (.seq 
 (.seq (.reg false [⟨(some 5), none, (.mv (.c (.d (.int .i64 0)))), 0⟩]) (.block 0 (.loop 
 (.seq 
 (.seq (.reg false [⟨(some 87), none, (.mv (.t 5)), 0⟩, ⟨(some 88), none, (.fa (.t 1) 2), 0⟩, ⟨(some 89), none, (.ld none (.t 88)), 0⟩, ⟨(some 90), none, (.lens (.t 89)), 0⟩, ⟨(some 91), none, (.bin .lss (.t 87) (.t 90)), 0⟩, ⟨(some 92), none, (.mv (.t 91)), 0⟩, ⟨(some 93), (some (92, true)), (.fa (.t 1) 0), 0⟩, ⟨(some 94), (some (92, true)), (.ld none (.t 93)), 0⟩, ⟨(some 95), (some (92, true)), (.bin .eql (.t 94) (.c (.d (.int .i64 3)))), 0⟩, ⟨(some 96), none, (.pick (.t 92) (.t 95) (.c (.d (.bool false)))), 0⟩]) (.cond (.t 96) .skip (.exit 0))) 
 (.seq (.block 1 
 (.seq (.reg false [⟨(some 99), none, (.fa (.t 1) 2), 0⟩, ⟨(some 100), none, (.ld none (.t 99)), 0⟩, ⟨(some 101), none, (.mv (.t 5)), 0⟩, ⟨(some 102), none, (.ixs (.t 100) (.t 101)), 0⟩, ⟨(some 103), none, (.bin .neq (.t 102) (.c (.d (.int .u8 48)))), 0⟩, ⟨(some 104), none, (.mv (.t 103)), 0⟩, ⟨(some 105), (some (104, true)), (.fa (.t 1) 2), 0⟩, ⟨(some 106), (some (104, true)), (.ld none (.t 105)), 0⟩, ⟨(some 107), (some (104, true)), (.mv (.t 5)), 0⟩, ⟨(some 108), (some (104, true)), (.ixs (.t 106) (.t 107)), 0⟩, ⟨(some 109), (some (104, true)), (.bin .neq (.t 108) (.c (.d (.int .u8 49)))), 0⟩, ⟨(some 110), none, (.pick (.t 104) (.t 109) (.c (.d (.bool false)))), 0⟩]) (.cond (.t 110) 
 (.seq (.reg false [⟨(some 2), none, (.mv (.c (.d (.int .i64 5)))), 0⟩]) .ret) .skip))) (.reg false [⟨(some 97), none, (.mv (.t 5)), 0⟩, ⟨(some 98), none, (.bin .add (.t 97) (.c (.d (.int .i64 1)))), 0⟩, ⟨(some 5), none, (.mv (.t 98)), 0⟩])))))) 
 (.seq (.reg false [⟨(some 2), none, (.mv (.c (.d (.int .i64 0)))), 0⟩]) .ret))))))))⟩
theorem h55 : compF Try.prog own Try.f55 = some c55 := by kernel_rfl
theorem k55 : callOk Try.prog 55 = true := by kernel_rfl
def c62 : IF := ⟨2, 26, [(.t 4)], 
 (.seq (.reg false [⟨(some 4), none, (.mv (.c (.d (.bool false)))), 0⟩]) 
 (.seq 
 (.seq (.reg false [⟨(some 6), none, (.mv (.t 0)), 0⟩, ⟨(some 7), none, (.len (.t 6)), 0⟩, ⟨(some 8), none, (.mv (.t 1)), 0⟩, ⟨(some 9), none, (.len (.t 8)), 0⟩, ⟨(some 10), none, (.bin .neq (.t 7) (.t 9)), 0⟩]) (.cond (.t 10) 
 (.seq (.reg false [⟨(some 4), none, (.mv (.c (.d (.bool false)))), 0⟩]) .ret) .skip)) 
 (.seq 
 (.seq (.reg false [⟨(some 11), none, (.mv (.t 0)), 0⟩, ⟨(some 12), none, (.len (.t 11)), 0⟩, ⟨(some 13), none, (.mv (.c (.d (.int .i64 0)))), 0⟩]) (.block 0 (.loop 
 (.seq (.reg false [⟨(some 14), none, (.bin .lss (.t 13) (.t 12)), 0⟩]) 
 (.seq (.cond (.t 14) .skip (.exit 0)) 
 (.seq (.block 1 
 (.seq (.reg false [⟨(some 15), none, (.mv (.t 13)), 0⟩, ⟨(some 5), none, (.mv (.t 15)), 0⟩]) 
 (.seq (.reg true [⟨(some 16), none, (.mv (.t 0)), 0⟩, ⟨(some 17), none, (.mv (.t 5)), 0⟩, ⟨(some 18), none, (.ia 6 (.t 16) (.t 17)), 3⟩, ⟨(some 19), none, (.ld (some 6) (.t 18)), 7⟩, ⟨(some 20), none, (.mv (.t 1)), 0⟩, ⟨(some 21), none, (.mv (.t 5)), 0⟩, ⟨(some 22), none, (.ia 6 (.t 20) (.t 21)), 48⟩, ⟨(some 23), none, (.ld (some 6) (.t 22)), 112⟩, ⟨(some 24), none, (.eq true [.int, .int, .str, .int, .int, .int] (.t 19) (.t 23)), 255⟩]) (.cond (.t 24) 
 (.seq (.reg false [⟨(some 4), none, (.mv (.c (.d (.bool false)))), 0⟩]) .ret) .skip)))) (.reg false [⟨(some 25), none, (.bin .add (.t 13) (.c (.d (.int .i64 1)))), 0⟩, ⟨(some 13), none, (.mv (.t 25)), 0⟩]))))))) 
 (.seq (.reg false [⟨(some 4), none, (.mv (.c (.d (.bool true)))), 0⟩]) .ret))))⟩
theorem h62 : compF Try.prog own Try.f62 = some c62 := by kernel_rfl
theorem k62 : callOk Try.prog 62 = true := by kernel_rfl
def c37 : IF := ⟨2, 8, [(.t 4)], 
 (.seq (.reg false [⟨(some 4), none, (.mv (.c (.d (.bool false)))), 0⟩]) 
 (.seq (.reg false [⟨(some 5), none, (.mv (.t 0)), 0⟩, ⟨(some 6), none, (.mv (.t 1)), 0⟩, ⟨(some 7), none, (.call 62 [] [(.t 5), (.t 6)]), 0⟩, ⟨(some 4), none, (.mv (.t 7)), 0⟩]) .ret))⟩
theorem h37 : compF Try.prog own Try.f37 = some c37 := by kernel_rfl
theorem k37 : callOk Try.prog 37 = true := by kernel_rfl
def c46 : IF := ⟨1, 8, [(.t 2)], 
 (.seq (.reg false [⟨(some 2), none, (.mv (.c .nils)), 0⟩]) 
 (.seq 
 (.seq (.reg false [⟨(some 3), none, (.mv (.t 0)), 0⟩, ⟨(some 4), none, (.isnil false (.t 3)), 0⟩]) (.cond (.t 4) 
 (.seq (.reg false [⟨(some 2), none, (.mv (.c .nils)), 0⟩]) .ret) .skip)) 
 (.seq (.reg false [⟨(some 5), none, (.bsl 78 6 0 [] []), 0⟩, ⟨(some 6), none, (.mv (.t 0)), 0⟩, ⟨(some 7), none, (.app 78 6 56 (.t 5) (.t 6)), 0⟩, ⟨(some 2), none, (.mv (.t 7)), 0⟩]) .ret)))⟩
theorem h46 : compF Try.prog own Try.f46 = some c46 := by kernel_rfl
theorem k46 : callOk Try.prog 46 = true := by kernel_rfl
def c28 : IF := ⟨2, 26, [(.t 4)], 
 (.seq (.reg false [⟨(some 4), none, (.mv (.c (.d (.bool false)))), 0⟩]) 
 (.seq 
 (.seq (.reg false [⟨(some 6), none, (.mv (.t 0)), 0⟩, ⟨(some 7), none, (.len (.t 6)), 0⟩, ⟨(some 8), none, (.mv (.t 1)), 0⟩, ⟨(some 9), none, (.len (.t 8)), 0⟩, ⟨(some 10), none, (.bin .neq (.t 7) (.t 9)), 0⟩]) (.cond (.t 10) 
 (.seq (.reg false [⟨(some 4), none, (.mv (.c (.d (.bool false)))), 0⟩]) .ret) .skip)) 
 (.seq 
 (.seq (.reg false [⟨(some 5), none, (.mv (.c (.d (.int .i64 0)))), 0⟩]) (.block 0 (.loop 
 (.seq 
 (.seq (.reg false [⟨(some 11), none, (.mv (.t 5)), 0⟩, ⟨(some 12), none, (.mv (.t 0)), 0⟩, ⟨(some 13), none, (.len (.t 12)), 0⟩, ⟨(some 14), none, (.bin .lss (.t 11) (.t 13)), 0⟩]) (.cond (.t 14) .skip (.exit 0))) 
 (.seq (.block 1 
 (.seq (.reg true [⟨(some 17), none, (.mv (.t 0)), 0⟩, ⟨(some 18), none, (.mv (.t 5)), 0⟩, ⟨(some 19), none, (.ia 6 (.t 17) (.t 18)), 3⟩, ⟨(some 20), none, (.ld (some 6) (.t 19)), 7⟩, ⟨(some 21), none, (.mv (.t 1)), 0⟩, ⟨(some 22), none, (.mv (.t 5)), 0⟩, ⟨(some 23), none, (.ia 6 (.t 21) (.t 22)), 48⟩, ⟨(some 24), none, (.ld (some 6) (.t 23)), 112⟩, ⟨(some 25), none, (.eq true [.int, .int, .str, .int, .int, .int] (.t 20) (.t 24)), 255⟩]) (.cond (.t 25) 
 (.seq (.reg false [⟨(some 4), none, (.mv (.c (.d (.bool false)))), 0⟩]) .ret) .skip))) (.reg false [⟨(some 15), none, (.mv (.t 5)), 0⟩, ⟨(some 16), none, (.bin .add (.t 15) (.c (.d (.int .i64 1)))), 0⟩, ⟨(some 5), none, (.mv (.t 16)), 0⟩])))))) 
 (.seq (.reg false [⟨(some 4), none, (.mv (.c (.d (.bool true)))), 0⟩]) .ret))))⟩
theorem h28 : compF Try.prog own Try.f28 = some c28 := by kernel_rfl
theorem k28 : callOk Try.prog 28 = true := by kernel_rfl
def c36 : IF := ⟨1, 59, [(.t 2)], 
 (.seq (.reg false [⟨(some 1), none, (.box (.t 0)), 0⟩, ⟨(some 2), none, (.mv (.c (.d (.int .i64 0)))), 0⟩]) 
 (.seq 
 (.seq (.reg false [⟨(some 7), none, (.fa (.t 1) 0), 0⟩, ⟨(some 8), none, (.ld none (.t 7)), 0⟩, ⟨(some 9), none, (.call 60 [] [(.t 8), (.c (.d (.int .i64 0))), (.c (.d (.int .i64 999)))]), 0⟩, ⟨(some 10), none, (.un .not (.t 9)), 0⟩, ⟨(some 11), none, (.mv (.t 10)), 0⟩, ⟨(some 12), (some (11, false)), (.fa (.t 1) 1), 0⟩, ⟨(some 13), (some (11, false)), (.ld none (.t 12)), 0⟩, ⟨(some 14), (some (11, false)), (.call 60 [] [(.t 13), (.c (.d (.int .i64 1))), (.c (.d (.int .i64 65535)))]), 0⟩, ⟨(some 15), (some (11, false)), (.un .not (.t 14)), 0⟩, ⟨(some 16), none, (.pick (.t 11) (.c (.d (.bool true))) (.t 15)), 0⟩, ⟨(some 17), none, (.mv (.t 16)), 0⟩, ⟨(some 18), (some (17, false)), (.fa (.t 1) 5), 0⟩, ⟨(some 19), (some (17, false)), (.ld none (.t 18)), 0⟩, ⟨(some 20), (some (17, false)), (.call 60 [] [(.t 19), (.c (.d (.int .i64 1))), (.c (.d (.int .i64 4294967295)))]), 0⟩, ⟨(some 21), (some (17, false)), (.un .not (.t 20)), 0⟩, ⟨(some 22), none, (.pick (.t 17) (.c (.d (.bool true))) (.t 21)), 0⟩, ⟨(some 23), none, (.mv (.t 22)), 0⟩, ⟨(some 24), (some (23, false)), (.fa (.t 1) 6), 0⟩, ⟨(some 25), (some (23, false)), (.ld none (.t 24)), 0⟩, ⟨(some 26), (some (23, false)), (.call 60 [] [(.t 25), (.c (.d (.int .i64 0))), (.c (.d (.int .i64 4294967295)))]), 0⟩, ⟨(some 27), (some (23, false)), (.un .not (.t 26)), 0⟩, ⟨(some 28), none, (.pick (.t 23) (.c (.d (.bool true))) (.t 27)), 0⟩, ⟨(some 29), none, (.mv (.t 28)), 0⟩, ⟨(some 30), (some (29, false)), (.fa (.t 1) 8), 0⟩, ⟨(some 31), (some (29, false)), (.ld none (.t 30)), 0⟩, ⟨(some 32), (some (29, false)), (.call 60 [] [(.t 31), (.c (.d (.int .i64 0))), (.c (.d (.int .i64 4294967295)))]), 0⟩, ⟨(some 33), (some (29, false)), (.un .not (.t 32)), 0⟩, ⟨(some 34), none, (.pick (.t 29) (.c (.d (.bool true))) (.t 33)), 0⟩]) (.cond (.t 34) 
 (.seq (.reg false [⟨(some 2), none, (.mv (.c (.d (.int .i64 2)))), 0⟩]) .ret) .skip)) 
 (.seq 
 (.seq (.reg false [⟨(some 35), none, (.fa (.t 1) 2), 0⟩, ⟨(some 36), none, (.ld (some 3) (.t 35)), 0⟩, ⟨(some 37), none, (.build [(.d (.int .i64 0)), (.d (.int .i64 0)), (.d (.str [])), (.d (.int .i64 0)), (.d (.int .i64 0)), (.d (.int .i64 0))] [(0, 1, (.c (.d (.int .i64 5)))), (3, 3, (.t 36))]), 0⟩, ⟨(some 38), none, (.call 61 [] [(.t 37)]), 0⟩, ⟨(some 3), none, (.mv (.t 38)), 0⟩]) 
 (.seq (.reg false [⟨(some 39), none, (.mv (.t 3)), 0⟩, ⟨(some 40), none, (.bin .neq (.t 39) (.c (.d (.int .i64 0)))), 0⟩]) (.cond (.t 40) 
 (.seq (.reg false [⟨(some 41), none, (.mv (.t 3)), 0⟩, ⟨(some 2), none, (.mv (.t 41)), 0⟩]) .ret) .skip))) 
 (.seq 
 (.seq (.reg false [⟨(some 42), none, (.fa (.t 1) 9), 0⟩, ⟨(some 43), none, (.ld none (.t 42)), 0⟩, ⟨(some 44), none, (.len (.t 43)), 0⟩, ⟨(some 45), none, (.bin .gtr (.t 44) (.c (.d (.int .i64 24)))), 0⟩]) (.cond (.t 45) 
 (.seq (.reg false [⟨(some 2), none, (.mv (.c (.d (.int .i64 3)))), 0⟩]) .ret) .skip)) 
 (.seq 
 (.seq (.reg false [⟨(some 46), none, (.fa (.t 1) 9), 0⟩, ⟨(some 47), none, (.ld none (.t 46)), 0⟩, ⟨(some 48), none, (.len (.t 47)), 0⟩, ⟨(some 49), none, (.mv (.c (.d (.int .i64 0)))), 0⟩]) (.block 0 (.loop 
 (.seq (.reg false [⟨(some 50), none, (.bin .lss (.t 49) (.t 48)), 0⟩]) 
 (.seq (.cond (.t 50) .skip (.exit 0)) 
 (.seq (.block 1 
 (.seq (.reg false [⟨(some 51), none, (.ia 6 (.t 47) (.t 49)), 0⟩, ⟨(some 52), none, (.ld (some 6) (.t 51)), 0⟩, ⟨(some 5), none, (.box (.c (.agg [(.d (.int .i64 0)), (.d (.int .i64 0)), (.d (.str [])), (.d (.int .i64 0)), (.d (.int .i64 0)), (.d (.int .i64 0))]))), 0⟩, ⟨none, none, (.st 6 (.t 5) (.t 52)), 0⟩]) 
 (.seq (.reg false [⟨(some 53), none, (.ld (some 6) (.t 5)), 0⟩, ⟨(some 54), none, (.call 61 [] [(.t 53)]), 0⟩, ⟨(some 6), none, (.mv (.t 54)), 0⟩]) 
 (.seq (.reg false [⟨(some 55), none, (.mv (.t 6)), 0⟩, ⟨(some 56), none, (.bin .neq (.t 55) (.c (.d (.int .i64 0)))), 0⟩]) (.cond (.t 56) 
 (.seq (.reg false [⟨(some 57), none, (.mv (.t 6)), 0⟩, ⟨(some 2), none, (.mv (.t 57)), 0⟩]) .ret) .skip))))) (.reg false [⟨(some 58), none, (.bin .add (.t 49) (.c (.d (.int .i64 1)))), 0⟩, ⟨(some 49), none, (.mv (.t 58)), 0⟩]))))))) 
 (.seq (.reg false [⟨(some 2), none, (.mv (.c (.d (.int .i64 0)))), 0⟩]) .ret))))))⟩
theorem h36 : compF Try.prog own Try.f36 = some c36 := by kernel_rfl
theorem k36 : callOk Try.prog 36 = true := by kernel_rfl
def c26 : IF := ⟨1, 60, [(.t 2)], 
 (.seq (.reg false [⟨(some 1), none, (.box (.t 0)), 0⟩, ⟨(some 2), none, (.mv (.c (.d (.int .i64 0)))), 0⟩]) 
 (.seq 
 (.seq (.reg false [⟨(some 5), none, (.fa (.t 1) 0), 0⟩, ⟨(some 6), none, (.ld none (.t 5)), 0⟩, ⟨(some 7), none, (.call 54 [] [(.t 6), (.c (.d (.int .i64 0))), (.c (.d (.int .i64 999)))]), 0⟩, ⟨(some 8), none, (.un .not (.t 7)), 0⟩, ⟨(some 9), none, (.mv (.t 8)), 0⟩, ⟨(some 10), (some (9, false)), (.fa (.t 1) 1), 0⟩, ⟨(some 11), (some (9, false)), (.ld none (.t 10)), 0⟩, ⟨(some 12), (some (9, false)), (.call 54 [] [(.t 11), (.c (.d (.int .i64 1))), (.c (.d (.int .i64 65535)))]), 0⟩, ⟨(some 13), (some (9, false)), (.un .not (.t 12)), 0⟩, ⟨(some 14), none, (.pick (.t 9) (.c (.d (.bool true))) (.t 13)), 0⟩, ⟨(some 15), none, (.mv (.t 14)), 0⟩, ⟨(some 16), (some (15, false)), (.fa (.t 1) 5), 0⟩, ⟨(some 17), (some (15, false)), (.ld none (.t 16)), 0⟩, ⟨(some 18), (some (15, false)), (.call 54 [] [(.t 17), (.c (.d (.int .i64 1))), (.c (.d (.int .i64 4294967295)))]), 0⟩, ⟨(some 19), (some (15, false)), (.un .not (.t 18)), 0⟩, ⟨(some 20), none, (.pick (.t 15) (.c (.d (.bool true))) (.t 19)), 0⟩, ⟨(some 21), none, (.mv (.t 20)), 0⟩, ⟨(some 22), (some (21, false)), (.fa (.t 1) 6), 0⟩, ⟨(some 23), (some (21, false)), (.ld none (.t 22)), 0⟩, ⟨(some 24), (some (21, false)), (.call 54 [] [(.t 23), (.c (.d (.int .i64 0))), (.c (.d (.int .i64 4294967295)))]), 0⟩, ⟨(some 25), (some (21, false)), (.un .not (.t 24)), 0⟩, ⟨(some 26), none, (.pick (.t 21) (.c (.d (.bool true))) (.t 25)), 0⟩, ⟨(some 27), none, (.mv (.t 26)), 0⟩, ⟨(some 28), (some (27, false)), (.fa (.t 1) 8), 0⟩, ⟨(some 29), (some (27, false)), (.ld none (.t 28)), 0⟩, ⟨(some 30), (some (27, false)), (.call 54 [] [(.t 29), (.c (.d (.int .i64 0))), (.c (.d (.int .i64 4294967295)))]), 0⟩, ⟨(some 31), (some (27, false)), (.un .not (.t 30)), 0⟩, ⟨(some 32), none, (.pick (.t 27) (.c (.d (.bool true))) (.t 31)), 0⟩]) (.cond (.t 32) 
 (.seq (.reg false [⟨(some 2), none, (.mv (.c (.d (.int .i64 2)))), 0⟩]) .ret) .skip)) 
 (.seq (.reg false [⟨(some 33), none, (.fa (.t 1) 2), 0⟩, ⟨(some 34), none, (.ld (some 3) (.t 33)), 0⟩, ⟨(some 35), none, (.build [(.d (.int .i64 0)), (.d (.int .i64 0)), (.d (.str [])), (.d (.int .i64 0)), (.d (.int .i64 0)), (.d (.int .i64 0))] [(0, 1, (.c (.d (.int .i64 5)))), (3, 3, (.t 34))]), 0⟩, ⟨(some 36), none, (.call 55 [] [(.t 35)]), 0⟩, ⟨(some 3), none, (.mv (.t 36)), 0⟩]) 
 (.seq 
 (.seq (.reg false [⟨(some 37), none, (.mv (.t 3)), 0⟩, ⟨(some 38), none, (.bin .neq (.t 37) (.c (.d (.int .i64 0)))), 0⟩]) (.cond (.t 38) 
 (.seq (.reg false [⟨(some 39), none, (.mv (.t 3)), 0⟩, ⟨(some 2), none, (.mv (.t 39)), 0⟩]) .ret) .skip)) 
 (.seq 
 (.seq (.reg false [⟨(some 40), none, (.fa (.t 1) 9), 0⟩, ⟨(some 41), none, (.ld none (.t 40)), 0⟩, ⟨(some 42), none, (.len (.t 41)), 0⟩, ⟨(some 43), none, (.bin .gtr (.t 42) (.c (.d (.int .i64 24)))), 0⟩]) (.cond (.t 43) 
 (.seq (.reg false [⟨(some 2), none, (.mv (.c (.d (.int .i64 3)))), 0⟩]) .ret) .skip)) 
 (.seq 
 (.seq (.reg false [⟨(some 4), none, (.mv (.c (.d (.int .i64 0)))), 0⟩]) (.block 0 (.loop 
 (.seq 
 (.seq (.reg false [⟨(some 44), none, (.mv (.t 4)), 0⟩, ⟨(some 45), none, (.fa (.t 1) 9), 0⟩, ⟨(some 46), none, (.ld none (.t 45)), 0⟩, ⟨(some 47), none, (.len (.t 46)), 0⟩, ⟨(some 48), none, (.bin .lss (.t 44) (.t 47)), 0⟩]) (.cond (.t 48) .skip (.exit 0))) 
 (.seq (.block 1 
 (.seq (.reg false [⟨(some 51), none, (.fa (.t 1) 9), 0⟩, ⟨(some 52), none, (.ld none (.t 51)), 0⟩, ⟨(some 53), none, (.mv (.t 4)), 0⟩, ⟨(some 54), none, (.ia 6 (.t 52) (.t 53)), 0⟩, ⟨(some 55), none, (.ld (some 6) (.t 54)), 0⟩, ⟨(some 56), none, (.call 55 [] [(.t 55)]), 0⟩, ⟨(some 3), none, (.mv (.t 56)), 0⟩]) 
 (.seq (.reg false [⟨(some 57), none, (.mv (.t 3)), 0⟩, ⟨(some 58), none, (.bin .neq (.t 57) (.c (.d (.int .i64 0)))), 0⟩]) (.cond (.t 58) 
 (.seq (.reg false [⟨(some 59), none, (.mv (.t 3)), 0⟩, ⟨(some 2), none, (.mv (.t 59)), 0⟩]) .ret) .skip)))) (.reg false [⟨(some 49), none, (.mv (.t 4)), 0⟩, ⟨(some 50), none, (.bin .add (.t 49) (.c (.d (.int .i64 1)))), 0⟩, ⟨(some 4), none, (.mv (.t 50)), 0⟩])))))) 
 (.seq (.reg false [⟨(some 2), none, (.mv (.c (.d (.int .i64 0)))), 0⟩]) .ret)))))))⟩
theorem h26 : compF Try.prog own Try.f26 = some c26 := by kernel_rfl
theorem k26 : callOk Try.prog 26 = true := by kernel_rfl
end Go.Proofs.Ytokbcminleemaaa.Vc
