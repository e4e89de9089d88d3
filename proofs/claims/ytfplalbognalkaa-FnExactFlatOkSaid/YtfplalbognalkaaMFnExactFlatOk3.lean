/- The code of functions, in the small language. -/
import Derived.Test.YtfplalbognalkaaMFnExactFlatOk2
set_option linter.unusedSimpArgs false
set_option linter.unusedVariables false
set_option linter.unnecessarySimpa false
set_option linter.constructorNameAsVariable false
namespace Go.Proofs.Ytfplalbognalkaa.Ab
open Go
def c172 : F := ⟨12, [(.tmp 4)], (.seq (.reg [⟨(some 4), none, (.mov (.c (.int 0)))⟩]) (.seq (.reg [⟨(some 5), none, (.mov (.s 1))⟩, ⟨(some 6), none, (.mov (.s 0))⟩, ⟨(some 7), none, (.lenl (.s 6))⟩, ⟨(some 8), none, (.bin .sub (.s 5) (.s 7))⟩, ⟨(some 1), none, (.mov (.s 8))⟩]) (.seq (.seq (.reg [⟨(some 9), none, (.mov (.s 1))⟩, ⟨(some 10), none, (.bin .lss (.s 9) (.c (.int 0)))⟩]) (.cond (.s 10) (.seq (.reg [⟨(some 4), none, (.mov (.c (.int (-1))))⟩]) .ret) .skip)) (.seq (.reg [⟨(some 11), none, (.mov (.s 1))⟩, ⟨(some 4), none, (.mov (.s 11))⟩]) .ret))))⟩
theorem p172 : prepF Try.prog 172 = some c172 := by kernel_rfl
def c144 : F := ⟨26, [(.tmp 4)], (.seq (.reg [⟨(some 4), none, (.mov (.c (.bool false)))⟩]) (.seq (.reg [⟨(some 5), none, (.mov (.s 1))⟩, ⟨(some 6), none, (.bin .geq (.s 5) (.c (.int 0)))⟩, ⟨(some 7), none, (.mov (.s 6))⟩, ⟨(some 8), (some (7, true)), (.mov (.s 0))⟩, ⟨(some 9), (some (7, true)), (.lenl (.s 8))⟩, ⟨(some 10), (some (7, true)), (.bin .geq (.s 9) (.c (.int 1)))⟩, ⟨(some 11), none, (.pick (.s 7) (.s 10) (.c (.bool false)))⟩, ⟨(some 12), none, (.mov (.s 11))⟩, ⟨(some 13), (some (12, true)), (.mov (.s 0))⟩, ⟨(some 14), (some (12, true)), (.lenl (.s 13))⟩, ⟨(some 15), (some (12, true)), (.bin .leq (.s 14) (.c (.int 5000)))⟩, ⟨(some 16), none, (.pick (.s 12) (.s 15) (.c (.bool false)))⟩, ⟨(some 17), none, (.mov (.s 16))⟩, ⟨(some 18), (some (17, true)), (.mov (.s 0))⟩, ⟨(some 19), (some (17, true)), (.mov (.s 0))⟩, ⟨(some 20), (some (17, true)), (.lenl (.s 19))⟩, ⟨(some 21), (some (17, true)), (.bin .sub (.s 20) (.c (.int 1)))⟩, ⟨(some 22), (some (17, true)), (.mov (.s 1))⟩, ⟨(some 23), (some (17, true)), (.call 186 [(.s 18), (.s 21), (.s 22)])⟩, ⟨(some 24), (some (17, true)), (.bin .eql (.s 23) (.c (.int 0)))⟩, ⟨(some 25), none, (.pick (.s 17) (.s 24) (.c (.bool false)))⟩, ⟨(some 4), none, (.mov (.s 25))⟩]) .ret))⟩
theorem p144 : prepF Try.prog 144 = some c144 := by kernel_rfl
def c176 : F := ⟨23, [(.tmp 2)], (.seq (.reg [⟨(some 2), none, (.mov (.c .zs))⟩]) (.seq (.reg [⟨(some 5), none, (.mov (.s 0))⟩, ⟨(some 6), none, (.lenl (.s 5))⟩, ⟨(some 7), none, (.mks [(.int 0), (.int 0)] (.s 6))⟩, ⟨(some 3), none, (.mov (.s 7))⟩]) (.seq (.seq (.reg [⟨(some 4), none, (.mov (.c (.int 0)))⟩]) (.block 0 (.loop (.seq (.seq (.reg [⟨(some 8), none, (.mov (.s 4))⟩, ⟨(some 9), none, (.mov (.s 0))⟩, ⟨(some 10), none, (.lenl (.s 9))⟩, ⟨(some 11), none, (.bin .lss (.s 8) (.s 10))⟩]) (.cond (.s 11) .skip (.exit 0))) (.seq (.block 1 (.reg [⟨(some 14), none, (.mov (.s 3))⟩, ⟨(some 15), none, (.mov (.s 4))⟩, ⟨(some 16), none, (.mov (.s 0))⟩, ⟨(some 17), none, (.mov (.s 4))⟩, ⟨(some 18), none, (.iadr none 2 (.s 16) (.s 17))⟩, ⟨(some 19), none, (.load true 2 (.s 18))⟩, ⟨(some 20), none, (.call 195 [(.s 19)])⟩, ⟨(some 21), none, (.iadr none 2 (.s 14) (.s 15))⟩, ⟨none, none, (.store true 2 (.s 21) (.s 20))⟩])) (.reg [⟨(some 12), none, (.mov (.s 4))⟩, ⟨(some 13), none, (.bin .add (.s 12) (.c (.int 1)))⟩, ⟨(some 4), none, (.mov (.s 13))⟩])))))) (.seq (.reg [⟨(some 22), none, (.mov (.s 3))⟩, ⟨(some 2), none, (.mov (.s 22))⟩]) .ret))))⟩
theorem p176 : prepF Try.prog 176 = some c176 := by kernel_rfl
def c181 : F := ⟨78, [(.tmp 4)], (.seq (.reg [⟨(some 4), none, (.mov (.c (.bool false)))⟩]) (.seq (.seq (.reg [⟨(some 9), none, (.mov (.s 0))⟩, ⟨(some 10), none, (.lenl (.s 9))⟩, ⟨(some 11), none, (.bin .gtr (.s 10) (.c (.int 5000)))⟩, ⟨(some 12), none, (.mov (.s 11))⟩, ⟨(some 13), (some (12, false)), (.mov (.s 1))⟩, ⟨(some 14), (some (12, false)), (.bin .lss (.s 13) (.c (.int 0)))⟩, ⟨(some 15), none, (.pick (.s 12) (.c (.bool true)) (.s 14))⟩]) (.cond (.s 15) (.seq (.reg [⟨(some 4), none, (.mov (.c (.bool false)))⟩]) .ret) .skip)) (.seq (.reg [⟨(some 5), none, (.mov (.c (.int 0)))⟩]) (.seq (.seq (.reg [⟨(some 16), none, (.mov (.s 0))⟩, ⟨(some 17), none, (.lenl (.s 16))⟩, ⟨(some 18), none, (.mov (.c (.int 0)))⟩]) (.block 0 (.loop (.seq (.reg [⟨(some 19), none, (.bin .lss (.s 18) (.s 17))⟩]) (.seq (.cond (.s 19) .skip (.exit 0)) (.seq (.block 1 (.seq (.reg [⟨(some 20), none, (.iadr none 2 (.s 16) (.s 18))⟩, ⟨(some 21), none, (.load true 2 (.s 20))⟩, ⟨(some 7), none, (.alloc [(.int 0), (.int 0)])⟩, ⟨none, none, (.store true 2 (.s 7) (.s 21))⟩]) (.seq (.reg [⟨(some 8), none, (.mov (.c (.int 0)))⟩]) (.seq (.seq (.reg [⟨(some 22), none, (.fadr 0 (.s 7))⟩, ⟨(some 23), none, (.load false 1 (.s 22))⟩]) (.block 2 (.seq (.reg [⟨(some 25), none, (.bin .eql (.s 23) (.c (.int 1)))⟩, ⟨(some 24), none, (.mov (.s 25))⟩]) (.cond (.s 24) .skip (.seq (.reg [⟨(some 27), none, (.bin .eql (.s 23) (.c (.int 2)))⟩, ⟨(some 26), none, (.mov (.s 27))⟩]) (.cond (.s 26) (.seq (.reg [⟨(some 28), none, (.fadr 1 (.s 7))⟩, ⟨(some 29), none, (.load false 1 (.s 28))⟩, ⟨(some 30), none, (.bin .neq (.s 29) (.c (.int 0)))⟩]) (.cond (.s 30) (.seq (.reg [⟨(some 4), none, (.mov (.c (.bool false)))⟩]) .ret) .skip)) (.seq (.reg [⟨(some 32), none, (.bin .eql (.s 23) (.c (.int 3)))⟩, ⟨(some 31), none, (.mov (.s 32))⟩]) (.cond (.s 31) (.seq (.reg [⟨(some 33), none, (.fadr 1 (.s 7))⟩, ⟨(some 34), none, (.load false 1 (.s 33))⟩, ⟨(some 35), none, (.bin .lss (.s 34) (.c (.int 0)))⟩, ⟨(some 36), none, (.mov (.s 35))⟩, ⟨(some 37), (some (36, false)), (.fadr 1 (.s 7))⟩, ⟨(some 38), (some (36, false)), (.load false 1 (.s 37))⟩, ⟨(some 39), (some (36, false)), (.mov (.s 1))⟩, ⟨(some 40), (some (36, false)), (.bin .geq (.s 38) (.s 39))⟩, ⟨(some 41), none, (.pick (.s 36) (.c (.bool true)) (.s 40))⟩]) (.cond (.s 41) (.seq (.reg [⟨(some 4), none, (.mov (.c (.bool false)))⟩]) .ret) .skip)) (.seq (.reg [⟨(some 43), none, (.bin .eql (.s 23) (.c (.int 4)))⟩, ⟨(some 42), none, (.mov (.s 43))⟩]) (.cond (.s 42) (.seq (.reg [⟨(some 8), none, (.mov (.c (.int 2)))⟩]) (.seq (.reg [⟨(some 44), none, (.fadr 1 (.s 7))⟩, ⟨(some 45), none, (.load false 1 (.s 44))⟩, ⟨(some 46), none, (.bin .lss (.s 45) (.c (.int 1)))⟩, ⟨(some 47), none, (.mov (.s 46))⟩, ⟨(some 48), (some (47, false)), (.fadr 1 (.s 7))⟩, ⟨(some 49), (some (47, false)), (.load false 1 (.s 48))⟩, ⟨(some 50), (some (47, false)), (.bin .gtr (.s 49) (.c (.int 6)))⟩, ⟨(some 51), none, (.pick (.s 47) (.c (.bool true)) (.s 50))⟩]) (.cond (.s 51) (.seq (.reg [⟨(some 4), none, (.mov (.c (.bool false)))⟩]) .ret) .skip))) (.seq (.seq (.reg [⟨(some 53), none, (.bin .eql (.s 23) (.c (.int 5)))⟩, ⟨(some 52), none, (.mov (.s 53))⟩]) (.cond (.s 52) .skip (.reg [⟨(some 54), none, (.bin .eql (.s 23) (.c (.int 6)))⟩, ⟨(some 52), none, (.mov (.s 54))⟩]))) (.cond (.s 52) (.reg [⟨(some 8), none, (.mov (.c (.int 2)))⟩]) (.seq (.seq (.reg [⟨(some 56), none, (.bin .eql (.s 23) (.c (.int 7)))⟩, ⟨(some 55), none, (.mov (.s 56))⟩]) (.cond (.s 55) .skip (.reg [⟨(some 57), none, (.bin .eql (.s 23) (.c (.int 8)))⟩, ⟨(some 55), none, (.mov (.s 57))⟩]))) (.cond (.s 55) (.reg [⟨(some 8), none, (.mov (.c (.int 1)))⟩]) (.seq (.reg [⟨(some 4), none, (.mov (.c (.bool false)))⟩]) .ret))))))))))))))) (.seq (.seq (.reg [⟨(some 58), none, (.fadr 0 (.s 7))⟩, ⟨(some 59), none, (.load false 1 (.s 58))⟩, ⟨(some 60), none, (.bin .gtr (.s 59) (.c (.int 4)))⟩, ⟨(some 61), none, (.mov (.s 60))⟩, ⟨(some 62), (some (61, true)), (.fadr 1 (.s 7))⟩, ⟨(some 63), (some (61, true)), (.load false 1 (.s 62))⟩, ⟨(some 64), (some (61, true)), (.bin .neq (.s 63) (.c (.int 0)))⟩, ⟨(some 65), none, (.pick (.s 61) (.s 64) (.c (.bool false)))⟩, ⟨(some 66), none, (.mov (.s 65))⟩, ⟨(some 67), (some (66, false)), (.mov (.s 5))⟩, ⟨(some 68), (some (66, false)), (.mov (.s 8))⟩, ⟨(some 69), (some (66, false)), (.bin .lss (.s 67) (.s 68))⟩, ⟨(some 70), none, (.pick (.s 66) (.c (.bool true)) (.s 69))⟩]) (.cond (.s 70) (.seq (.reg [⟨(some 4), none, (.mov (.c (.bool false)))⟩]) .ret) .skip)) (.reg [⟨(some 71), none, (.mov (.s 5))⟩, ⟨(some 72), none, (.mov (.s 8))⟩, ⟨(some 73), none, (.bin .sub (.c (.int 1)) (.s 72))⟩, ⟨(some 74), none, (.bin .add (.s 71) (.s 73))⟩, ⟨(some 5), none, (.mov (.s 74))⟩])))))) (.reg [⟨(some 75), none, (.bin .add (.s 18) (.c (.int 1)))⟩, ⟨(some 18), none, (.mov (.s 75))⟩]))))))) (.seq (.reg [⟨(some 76), none, (.mov (.s 5))⟩, ⟨(some 77), none, (.bin .eql (.s 76) (.c (.int 1)))⟩, ⟨(some 4), none, (.mov (.s 77))⟩]) .ret)))))⟩
theorem p181 : prepF Try.prog 181 = some c181 := by kernel_rfl
def c184 : F := ⟨27, [(.tmp 4)], (.seq (.reg [⟨(some 4), none, (.mov (.c (.bool false)))⟩]) (.seq (.seq (.reg [⟨(some 6), none, (.mov (.s 0))⟩, ⟨(some 7), none, (.lenl (.s 6))⟩, ⟨(some 8), none, (.mov (.s 1))⟩, ⟨(some 9), none, (.lenl (.s 8))⟩, ⟨(some 10), none, (.bin .neq (.s 7) (.s 9))⟩]) (.cond (.s 10) (.seq (.reg [⟨(some 4), none, (.mov (.c (.bool false)))⟩]) .ret) .skip)) (.seq (.seq (.reg [⟨(some 5), none, (.mov (.c (.int 0)))⟩]) (.block 0 (.loop (.seq (.seq (.reg [⟨(some 11), none, (.mov (.s 5))⟩, ⟨(some 12), none, (.mov (.s 0))⟩, ⟨(some 13), none, (.lenl (.s 12))⟩, ⟨(some 14), none, (.bin .lss (.s 11) (.s 13))⟩]) (.cond (.s 14) .skip (.exit 0))) (.seq (.block 1 (.seq (.dreg [⟨⟨(some 17), none, (.mov (.s 0))⟩, [], [0]⟩, ⟨⟨(some 18), none, (.mov (.s 5))⟩, [0], [5]⟩, ⟨⟨(some 19), none, (.iadr none 2 (.s 17) (.s 18))⟩, [], [17, 18]⟩, ⟨⟨(some 20), none, (.load true 2 (.s 19))⟩, [], [19]⟩, ⟨⟨(some 21), none, (.mov (.s 1))⟩, [0, 1, 2, 3], [1]⟩, ⟨⟨(some 22), none, (.mov (.s 5))⟩, [0, 1, 2, 3, 4], [5]⟩, ⟨⟨(some 23), none, (.iadr none 2 (.s 21) (.s 22))⟩, [0, 1, 2, 3], [21, 22]⟩, ⟨⟨(some 24), none, (.load true 2 (.s 23))⟩, [0, 1, 2, 3], [23]⟩, ⟨⟨(some 25), none, (.call 197 [(.s 20), (.s 24)])⟩, [], [20, 24]⟩, ⟨⟨(some 26), none, (.un .not (.s 25))⟩, [], [25]⟩]) (.cond (.s 26) (.seq (.reg [⟨(some 4), none, (.mov (.c (.bool false)))⟩]) .ret) .skip))) (.reg [⟨(some 15), none, (.mov (.s 5))⟩, ⟨(some 16), none, (.bin .add (.s 15) (.c (.int 1)))⟩, ⟨(some 5), none, (.mov (.s 16))⟩])))))) (.seq (.reg [⟨(some 4), none, (.mov (.c (.bool true)))⟩]) .ret))))⟩
theorem p184 : prepF Try.prog 184 = some c184 := by kernel_rfl
def c186 : F := ⟨34, [(.tmp 6)], (.seq (.reg [⟨(some 6), none, (.mov (.c (.int 0)))⟩]) (.seq (.reg [⟨(some 7), none, (.mov (.c (.int 1)))⟩]) (.seq (.block 0 (.loop (.seq (.seq (.reg [⟨(some 8), none, (.mov (.s 7))⟩, ⟨(some 9), none, (.bin .gtr (.s 8) (.c (.int 0)))⟩]) (.cond (.s 9) .skip (.exit 0))) (.block 1 (.seq (.seq (.reg [⟨(some 10), none, (.mov (.s 1))⟩, ⟨(some 11), none, (.bin .lss (.s 10) (.c (.int 0)))⟩, ⟨(some 12), none, (.mov (.s 11))⟩, ⟨(some 13), (some (12, false)), (.mov (.s 0))⟩, ⟨(some 14), (some (12, false)), (.mov (.s 1))⟩, ⟨(some 15), (some (12, false)), (.iadr none 2 (.s 13) (.s 14))⟩, ⟨(some 16), (some (12, false)), (.load true 2 (.s 15))⟩, ⟨(some 17), (some (12, false)), (.mov (.s 2))⟩, ⟨(some 18), (some (12, false)), (.call 198 [(.s 16), (.s 17)])⟩, ⟨(some 19), (some (12, false)), (.bin .lss (.s 18) (.c (.int 0)))⟩, ⟨(some 20), none, (.pick (.s 12) (.c (.bool true)) (.s 19))⟩]) (.cond (.s 20) (.seq (.reg [⟨(some 6), none, (.mov (.c (.int (-1))))⟩]) .ret) .skip)) (.seq (.reg [⟨(some 21), none, (.mov (.s 7))⟩, ⟨(some 22), none, (.bin .sub (.s 21) (.c (.int 1)))⟩, ⟨(some 23), none, (.mov (.s 0))⟩, ⟨(some 24), none, (.mov (.s 1))⟩, ⟨(some 25), none, (.iadr none 2 (.s 23) (.s 24))⟩, ⟨(some 26), none, (.load true 2 (.s 25))⟩, ⟨(some 27), none, (.mov (.s 2))⟩, ⟨(some 28), none, (.call 198 [(.s 26), (.s 27)])⟩, ⟨(some 29), none, (.bin .add (.s 22) (.s 28))⟩, ⟨(some 7), none, (.mov (.s 29))⟩]) (.reg [⟨(some 30), none, (.mov (.s 1))⟩, ⟨(some 31), none, (.bin .sub (.s 30) (.c (.int 1)))⟩, ⟨(some 1), none, (.mov (.s 31))⟩]))))))) (.seq (.reg [⟨(some 32), none, (.mov (.s 1))⟩, ⟨(some 33), none, (.bin .add (.s 32) (.c (.int 1)))⟩, ⟨(some 6), none, (.mov (.s 33))⟩]) .ret))))⟩
theorem p186 : prepF Try.prog 186 = some c186 := by kernel_rfl
def c195 : F := ⟨11, [(.cell 2 true 2)], (.seq (.reg [⟨(some 1), none, (.box (.s 0))⟩, ⟨(some 2), none, (.alloc [(.int 0), (.int 0)])⟩]) (.seq (.reg [⟨(some 3), none, (.alloc [(.int 0), (.int 0)])⟩]) (.seq (.reg [⟨(some 4), none, (.fadr 0 (.s 1))⟩, ⟨(some 5), none, (.load false 1 (.s 4))⟩, ⟨(some 6), none, (.fadr 0 (.s 3))⟩, ⟨none, none, (.store false 1 (.s 6) (.s 5))⟩]) (.seq (.reg [⟨(some 7), none, (.fadr 1 (.s 1))⟩, ⟨(some 8), none, (.load false 1 (.s 7))⟩, ⟨(some 9), none, (.fadr 1 (.s 3))⟩, ⟨none, none, (.store false 1 (.s 9) (.s 8))⟩]) (.seq (.reg [⟨(some 10), none, (.load true 2 (.s 3))⟩, ⟨none, none, (.store true 2 (.s 2) (.s 10))⟩]) .ret)))))⟩
theorem p195 : prepF Try.prog 195 = some c195 := by kernel_rfl
def c197 : F := ⟨15, [(.tmp 4)], (.seq (.reg [⟨(some 2), none, (.box (.s 0))⟩, ⟨(some 3), none, (.box (.s 1))⟩, ⟨(some 4), none, (.mov (.c (.bool false)))⟩]) (.seq (.seq (.reg [⟨(some 5), none, (.fadr 0 (.s 2))⟩, ⟨(some 6), none, (.load false 1 (.s 5))⟩, ⟨(some 7), none, (.fadr 0 (.s 3))⟩, ⟨(some 8), none, (.load false 1 (.s 7))⟩, ⟨(some 9), none, (.bin .neq (.s 6) (.s 8))⟩]) (.cond (.s 9) (.seq (.reg [⟨(some 4), none, (.mov (.c (.bool false)))⟩]) .ret) .skip)) (.seq (.seq (.reg [⟨(some 10), none, (.fadr 1 (.s 2))⟩, ⟨(some 11), none, (.load false 1 (.s 10))⟩, ⟨(some 12), none, (.fadr 1 (.s 3))⟩, ⟨(some 13), none, (.load false 1 (.s 12))⟩, ⟨(some 14), none, (.bin .neq (.s 11) (.s 13))⟩]) (.cond (.s 14) (.seq (.reg [⟨(some 4), none, (.mov (.c (.bool false)))⟩]) .ret) .skip)) (.seq (.reg [⟨(some 4), none, (.mov (.c (.bool true)))⟩]) .ret))))⟩
theorem p197 : prepF Try.prog 197 = some c197 := by kernel_rfl
def c198 : F := ⟨71, [(.tmp 4)], (.seq (.reg [⟨(some 2), none, (.box (.s 0))⟩, ⟨(some 4), none, (.mov (.c (.int 0)))⟩]) (.seq (.seq (.reg [⟨(some 5), none, (.fadr 0 (.s 2))⟩, ⟨(some 6), none, (.load false 1 (.s 5))⟩, ⟨(some 7), none, (.bin .eql (.s 6) (.c (.int 1)))⟩, ⟨(some 8), none, (.mov (.s 7))⟩, ⟨(some 9), (some (8, false)), (.fadr 0 (.s 2))⟩, ⟨(some 10), (some (8, false)), (.load false 1 (.s 9))⟩, ⟨(some 11), (some (8, false)), (.bin .eql (.s 10) (.c (.int 2)))⟩, ⟨(some 12), (some (8, false)), (.mov (.s 11))⟩, ⟨(some 13), (some (12, true)), (.fadr 1 (.s 2))⟩, ⟨(some 14), (some (12, true)), (.load false 1 (.s 13))⟩, ⟨(some 15), (some (12, true)), (.bin .eql (.s 14) (.c (.int 0)))⟩, ⟨(some 16), (some (8, false)), (.pick (.s 12) (.s 15) (.c (.bool false)))⟩, ⟨(some 17), none, (.pick (.s 8) (.c (.bool true)) (.s 16))⟩]) (.cond (.s 17) (.seq (.reg [⟨(some 4), none, (.mov (.c (.int 0)))⟩]) .ret) .skip)) (.seq (.seq (.reg [⟨(some 18), none, (.fadr 0 (.s 2))⟩, ⟨(some 19), none, (.load false 1 (.s 18))⟩, ⟨(some 20), none, (.bin .eql (.s 19) (.c (.int 3)))⟩, ⟨(some 21), none, (.mov (.s 20))⟩, ⟨(some 22), (some (21, true)), (.fadr 1 (.s 2))⟩, ⟨(some 23), (some (21, true)), (.load false 1 (.s 22))⟩, ⟨(some 24), (some (21, true)), (.bin .geq (.s 23) (.c (.int 0)))⟩, ⟨(some 25), none, (.pick (.s 21) (.s 24) (.c (.bool false)))⟩, ⟨(some 26), none, (.mov (.s 25))⟩, ⟨(some 27), (some (26, true)), (.fadr 1 (.s 2))⟩, ⟨(some 28), (some (26, true)), (.load false 1 (.s 27))⟩, ⟨(some 29), (some (26, true)), (.mov (.s 1))⟩, ⟨(some 30), (some (26, true)), (.bin .lss (.s 28) (.s 29))⟩, ⟨(some 31), none, (.pick (.s 26) (.s 30) (.c (.bool false)))⟩]) (.cond (.s 31) (.seq (.reg [⟨(some 4), none, (.mov (.c (.int 0)))⟩]) .ret) .skip)) (.seq (.seq (.reg [⟨(some 32), none, (.fadr 0 (.s 2))⟩, ⟨(some 33), none, (.load false 1 (.s 32))⟩, ⟨(some 34), none, (.bin .eql (.s 33) (.c (.int 4)))⟩, ⟨(some 35), none, (.mov (.s 34))⟩, ⟨(some 36), (some (35, true)), (.fadr 1 (.s 2))⟩, ⟨(some 37), (some (35, true)), (.load false 1 (.s 36))⟩, ⟨(some 38), (some (35, true)), (.bin .geq (.s 37) (.c (.int 1)))⟩, ⟨(some 39), none, (.pick (.s 35) (.s 38) (.c (.bool false)))⟩, ⟨(some 40), none, (.mov (.s 39))⟩, ⟨(some 41), (some (40, true)), (.fadr 1 (.s 2))⟩, ⟨(some 42), (some (40, true)), (.load false 1 (.s 41))⟩, ⟨(some 43), (some (40, true)), (.bin .leq (.s 42) (.c (.int 6)))⟩, ⟨(some 44), none, (.pick (.s 40) (.s 43) (.c (.bool false)))⟩]) (.cond (.s 44) (.seq (.reg [⟨(some 4), none, (.mov (.c (.int 2)))⟩]) .ret) .skip)) (.seq (.seq (.reg [⟨(some 45), none, (.fadr 0 (.s 2))⟩, ⟨(some 46), none, (.load false 1 (.s 45))⟩, ⟨(some 47), none, (.bin .eql (.s 46) (.c (.int 5)))⟩, ⟨(some 48), none, (.mov (.s 47))⟩, ⟨(some 49), (some (48, false)), (.fadr 0 (.s 2))⟩, ⟨(some 50), (some (48, false)), (.load false 1 (.s 49))⟩, ⟨(some 51), (some (48, false)), (.bin .eql (.s 50) (.c (.int 6)))⟩, ⟨(some 52), none, (.pick (.s 48) (.c (.bool true)) (.s 51))⟩, ⟨(some 53), none, (.mov (.s 52))⟩, ⟨(some 54), (some (53, true)), (.fadr 1 (.s 2))⟩, ⟨(some 55), (some (53, true)), (.load false 1 (.s 54))⟩, ⟨(some 56), (some (53, true)), (.bin .eql (.s 55) (.c (.int 0)))⟩, ⟨(some 57), none, (.pick (.s 53) (.s 56) (.c (.bool false)))⟩]) (.cond (.s 57) (.seq (.reg [⟨(some 4), none, (.mov (.c (.int 2)))⟩]) .ret) .skip)) (.seq (.seq (.reg [⟨(some 58), none, (.fadr 0 (.s 2))⟩, ⟨(some 59), none, (.load false 1 (.s 58))⟩, ⟨(some 60), none, (.bin .eql (.s 59) (.c (.int 7)))⟩, ⟨(some 61), none, (.mov (.s 60))⟩, ⟨(some 62), (some (61, false)), (.fadr 0 (.s 2))⟩, ⟨(some 63), (some (61, false)), (.load false 1 (.s 62))⟩, ⟨(some 64), (some (61, false)), (.bin .eql (.s 63) (.c (.int 8)))⟩, ⟨(some 65), none, (.pick (.s 61) (.c (.bool true)) (.s 64))⟩, ⟨(some 66), none, (.mov (.s 65))⟩, ⟨(some 67), (some (66, true)), (.fadr 1 (.s 2))⟩, ⟨(some 68), (some (66, true)), (.load false 1 (.s 67))⟩, ⟨(some 69), (some (66, true)), (.bin .eql (.s 68) (.c (.int 0)))⟩, ⟨(some 70), none, (.pick (.s 66) (.s 69) (.c (.bool false)))⟩]) (.cond (.s 70) (.seq (.reg [⟨(some 4), none, (.mov (.c (.int 1)))⟩]) .ret) .skip)) (.seq (.reg [⟨(some 4), none, (.mov (.c (.int (-1))))⟩]) .ret)))))))⟩
theorem p198 : prepF Try.prog 198 = some c198 := by kernel_rfl
end Go.Proofs.Ytfplalbognalkaa.Ab
/- Rows of operations: sizes, copies, alike. -/
namespace Go.Proofs.Ytfplalbognalkaa.Ab
open Go
abbrev orow (p : Int × Int) : List E := [E.int p.1, E.int p.2]
abbrev dOp (k n : Int) : D := .agg [.int k, .int n]
theorem row_op {l : List (Int × Int)} {es : List (List E)} (he : es = l.map orow) {n : Int} (h : 0 ≤ n ∧ n < es.length) : ∃ p, es.getD n.toNat [] = orow p ∧ l[n.toNat]? = some p := by
  subst he
  have hn : n.toNat < l.length := by simp at h; omega
  exact ⟨l[n.toNat], by simp [List.getD, hn], by simp [hn]⟩
theorem ok195 (b v : Int) : Plain Try.prog 195 [dOp b v] (dOp b v) := okOf mixed p195 fun A P hA hP => (by
  cbv
  repeat' first | with_reducible rfl | with_reducible refine And.intro ?_ ?_ | ((with_reducible intro hcc); first | (cases hcc; done) | skip) | ((with_reducible show goC _ _ _ _ _ _ _ _); cbv) | ((with_reducible show goOps _ _ _ _ _); cbv) | ((with_reducible show okWr _ _ = _); rfl) | ((with_reducible refine hA.fin_pl _ _ _ ?_); cbv) | ((with_reducible refine hA.st _ _ _ _ _ ⟨?_, fun ds hds => ?_⟩); rotate_left; cbv) | (simp only [hA.natLit, hA.natOf, hA.natCast]; cbv)
  all_goals try simp only [hA.add, hA.sub, hA.mul, hA.neg, hA.div, hA.mod, hA.mn, hA.mx, hA.eq, hA.lt, hA.le, hA.nat, hA.R, hA.lep, hA.ltp, hA.seq, inR, n_cast, Int.ofNat_eq_natCast, Option.getD_some, Option.getD_none] at *
  )
theorem ok197 (b v b' v' : Int) : Plain Try.prog 197 [dOp b v, dOp b' v'] (.bool (decide (b = b' ∧ v = v'))) := okOf mixed p197 fun A P hA hP => (by
  cbv
  repeat' first | with_reducible rfl | with_reducible refine And.intro ?_ ?_ | ((with_reducible intro hcc); first | (cases hcc; done) | skip) | ((with_reducible show goC _ _ _ _ _ _ _ _); cbv) | ((with_reducible show goOps _ _ _ _ _); cbv) | ((with_reducible show okWr _ _ = _); rfl) | ((with_reducible refine hA.fin_pl _ _ _ ?_); cbv) | (simp only [hA.natLit, hA.natOf, hA.natCast]; cbv)
  all_goals try simp only [hA.add, hA.sub, hA.mul, hA.neg, hA.div, hA.mod, hA.mn, hA.mx, hA.eq, hA.lt, hA.le, hA.nat, hA.R, hA.lep, hA.ltp, hA.seq, inR, n_cast, Int.ofNat_eq_natCast, Option.getD_some, Option.getD_none] at *
  all_goals grind)
theorem ok172 (es : List (List E)) (left : Int) (h : 0 ≤ left ∧ left ≤ 1048576) : Plain Try.prog 172 [.e (.sl es), .int left] (.int (if left - es.length < 0 then -1 else left - es.length)) := okOf mixed p172 fun A P hA hP => (by
  obtain ⟨r, hr⟩ : ∃ r : Int, r = if left - es.length < 0 then -1 else left - es.length := ⟨_, rfl⟩
  rw [← hr]
  cbv
  repeat' first | with_reducible rfl | with_reducible refine And.intro ?_ ?_ | ((with_reducible intro hcc); first | (cases hcc; done) | skip) | ((with_reducible show goC _ _ _ _ _ _ _ _); cbv) | ((with_reducible show goOps _ _ _ _ _); cbv) | ((with_reducible show okWr _ _ = _); rfl) | ((with_reducible refine hA.fin_pl _ _ _ ?_); cbv) | ((with_reducible refine hA.len _ _ _ _ _ fun z hz hb => ?_); cbv) | (simp only [hA.natLit, hA.natOf, hA.natCast]; cbv)
  all_goals try simp only [hA.add, hA.sub, hA.mul, hA.neg, hA.div, hA.mod, hA.mn, hA.mx, hA.eq, hA.lt, hA.le, hA.nat, hA.R, hA.lep, hA.ltp, hA.seq, inR, n_cast, Int.ofNat_eq_natCast, Option.getD_some, Option.getD_none] at *
  all_goals grind)
set_option maxRecDepth 100000 in
theorem ok184 (l l' : List (Int × Int)) (es fs : List (List E)) (he : es = l.map orow) (hf : fs = l'.map orow) : Plain Try.prog 184 [.e (.sl es), .e (.sl fs)] (.bool (decide (l = l'))) := okOf mixed p184 fun A P hA hP => (by
  obtain ⟨r, hr⟩ : ∃ r : Bool, r = decide (l = l') := ⟨_, rfl⟩
  rw [← hr]
  have hl1 : es.length = l.length := by rw [he]; simp
  have hl2 : fs.length = l'.length := by rw [hf]; simp
  cbv
  repeat' first | with_reducible rfl | with_reducible refine And.intro ?_ ?_ | ((with_reducible intro hcc); first | (cases hcc; done) | skip) | ((with_reducible show goC _ _ _ _ _ _ _ _); cbv) | ((with_reducible show goOps _ _ _ _ _); cbv) | ((with_reducible show okWr _ _ = _); rfl) | ((with_reducible refine callK_eq hA hP ?_ ?_ ?_ (Wks.refl _) (fun _ _ => ok197 _ _ _ _)); exact rfl; exact rfl; cbv) | ((with_reducible refine hA.fin_pl _ _ _ ?_); cbv) | ((with_reducible refine hA.len _ _ _ _ _ fun z hz hb => ?_); cbv) | ((with_reducible refine hA.off _ _ _ _ fun b hb => ?_); cbv) | ((with_reducible refine hA.sapp _ _ _ ⟨?_, fun sl hsl => ?_⟩); rotate_left; cbv) | (simp only [hA.natLit, hA.natOf, hA.natCast]; cbv)
  all_goals try simp only [hA.add, hA.sub, hA.mul, hA.neg, hA.div, hA.mod, hA.mn, hA.mx, hA.eq, hA.lt, hA.le, hA.nat, hA.R, hA.lep, hA.ltp, hA.seq, inR, n_cast, Int.ofNat_eq_natCast, Option.getD_some, Option.getD_none] at *
  · have : l ≠ l' := fun e => by subst e; grind
    rw [hr]; simp [this]
  · have hzz : es.length = fs.length := by grind
    refine hA.loopI (fun n s => ∃ i : Int, 0 ≤ i ∧ n + i = l.length ∧ (∀ j : Nat, j < i → l[j]? = l'[j]?) ∧ s = ⟨[(5, .int i), (4, .bool false), (0, .e (.sl es)), (1, .e (.sl fs))], []⟩) l.length _ (Weak.keep (env' := [(5, .int 0), (4, .bool false), (0, .e (.sl es)), (1, .e (.sl fs))]) ⟨rfl, rfl, rfl, rfl, trivial⟩) ⟨0, by omega, by omega, fun j hj => by omega, rfl⟩ ?_
    rintro n s K ⟨i, h0, h1, h2, rfl⟩ hK
    cbv
    repeat' first | with_reducible rfl | with_reducible refine And.intro ?_ ?_ | ((with_reducible intro hcc); first | (cases hcc; done) | skip) | ((with_reducible show goC _ _ _ _ _ _ _ _); cbv) | ((with_reducible show goOps _ _ _ _ _); cbv) | ((with_reducible show okWr _ _ = _); rfl) | ((with_reducible refine callK_eq hA hP ?_ ?_ ?_ (Wks.refl _) (fun _ _ => ok197 _ _ _ _)); exact rfl; exact rfl; cbv) | ((with_reducible refine hA.row es _ _ ?_); have hin : (0 : Int) ≤ i ∧ i < es.length := (by simp only [hA.lt, decide_eq_true_eq, n_cast] at *; omega); obtain ⟨⟨b1, v1⟩, e1, q1⟩ := row_op he hin; refine ⟨hin, fun row hrow => ?_⟩; rw [e1] at hrow; subst hrow; cbv) | ((with_reducible refine hA.row fs _ _ ?_); have hin : (0 : Int) ≤ i ∧ i < fs.length := (by simp only [hA.lt, decide_eq_true_eq, n_cast] at *; omega); obtain ⟨⟨b2, v2⟩, e2, q2⟩ := row_op hf hin; refine ⟨hin, fun row hrow => ?_⟩; rw [e2] at hrow; subst hrow; cbv) | ((with_reducible refine hA.fin_pl _ _ _ ?_); cbv) | ((with_reducible refine hA.len _ _ _ _ _ fun z hz hb => ?_); cbv) | ((with_reducible refine hA.off _ _ _ _ fun b hb => ?_); cbv) | ((with_reducible refine hA.sapp _ _ _ ⟨?_, fun sl hsl => ?_⟩); rotate_left; cbv) | (simp only [hA.natLit, hA.natOf, hA.natCast]; cbv)
    all_goals try simp only [hA.add, hA.sub, hA.mul, hA.neg, hA.div, hA.mod, hA.mn, hA.mx, hA.eq, hA.lt, hA.le, hA.nat, hA.R, hA.lep, hA.ltp, hA.seq, inR, n_cast, Int.ofNat_eq_natCast, Option.getD_some, Option.getD_none] at *
    · have hne : l ≠ l' := fun e => by
        subst e
        rw [q1] at q2
        simp only [Option.some.injEq, Prod.mk.injEq] at q2
        simp_all
      rw [hr]; simp [hne]
    · have := hb trivial trivial trivial
      omega
    · have hbv : b1 = b2 ∧ v1 = v2 := by grind
      refine hK _ (n - 1) _ (by omega) (Weak.keep (env' := [(5, .int (i + 1)), (4, .bool false), (0, .e (.sl es)), (1, .e (.sl fs))]) ⟨rfl, rfl, rfl, rfl, trivial⟩) ⟨i + 1, by omega, by omega, fun j hj => ?_, rfl⟩
      by_cases hji : (j : Int) < i
      · exact h2 j hji
      · have : j = i.toNat := by omega
        rw [this, q1, q2, hbv.1, hbv.2]
    · have hll : l = l' := by
        refine List.ext_getElem? fun j => ?_
        by_cases hj : (j : Int) < i
        · exact h2 j hj
        · rw [List.getElem?_eq_none (by grind), List.getElem?_eq_none (by grind)]
      rw [hr]; simp [hll])
set_option maxRecDepth 100000 in
theorem ok176 (l : List (Int × Int)) (es : List (List E)) (he : es = l.map orow) (hlen : es.length ≤ 1048576) : Plain Try.prog 176 [.e (.sl es)] (.e (.sl es)) := okOf mixed p176 fun A P hA hP => (by
  have hl1 : es.length = l.length := by rw [he]; simp
  have hes : ∀ e ∈ es, e.length = 2 := by
    rw [he]
    intro e h
    obtain ⟨p, _, rfl⟩ := List.mem_map.1 h
    rfl
  cbv
  repeat' first | with_reducible rfl | with_reducible refine And.intro ?_ ?_ | ((with_reducible intro hcc); first | (cases hcc; done) | skip) | ((with_reducible show goC _ _ _ _ _ _ _ _); cbv) | ((with_reducible show goOps _ _ _ _ _); cbv) | ((with_reducible show okWr _ _ = _); rfl) | ((with_reducible refine callK_eq hA hP ?_ ?_ ?_ (Wks.refl _) (fun _ _ => ok195 _ _)); exact rfl; exact rfl; cbv) | ((with_reducible refine hA.fin_pl _ _ _ ?_); cbv) | ((with_reducible refine hA.len _ _ _ _ _ fun z hz hb => ?_); cbv) | ((with_reducible refine hA.off _ _ _ _ fun b hb => ?_); cbv) | ((with_reducible refine hA.rep _ _ _ fun ds m hds hm => ?_); cbv) | ((with_reducible refine hA.st _ _ _ _ _ ⟨?_, fun ds hds => ?_⟩); rotate_left; cbv) | ((with_reducible refine hA.alt _ _ (Or.inl ?_)); cbv) | ((with_reducible refine hA.sapp _ _ _ ⟨?_, fun sl hsl => ?_⟩); rotate_left; cbv) | (simp only [hA.natLit, hA.natOf, hA.natCast]; cbv)
  all_goals try simp only [hA.add, hA.sub, hA.mul, hA.neg, hA.div, hA.mod, hA.mn, hA.mx, hA.eq, hA.lt, hA.le, hA.nat, hA.R, hA.lep, hA.ltp, hA.seq, inR, n_cast, Int.ofNat_eq_natCast, Option.getD_some, Option.getD_none] at *
  · omega
  · omega
  · refine hA.loopI (fun n s => ∃ (i : Int) (xs : List (List E)), 0 ≤ i ∧ n + i = es.length ∧ xs.length = es.length ∧ (∀ e ∈ xs, e.length = 2) ∧ (∀ j : Nat, j < i → xs[j]? = es[j]?) ∧
        s = ⟨[(4, .int i), (3, .bs 0 0 m 2), (2, .zs), (0, .e (.sl es))], [.box (xs.flatten.map .e)]⟩) es.length _
      (Weak.keep (env' := [(4, .int 0), (3, .bs 0 0 m 2), (2, .zs), (0, .e (.sl es))]) ⟨rfl, rfl, rfl, rfl, trivial⟩)
      ⟨0, List.replicate m [E.int 0, E.int 0], by omega, by omega, by simp; omega, by simp, fun j hj => by omega, by rw [← buf_zero, hm]; rw [hds]; rfl⟩ ?_
    rintro n s K ⟨i, xs, h0, h1, h2, h3, h4, rfl⟩ hK
    obtain ⟨ys, hys⟩ : ∃ ys, ys = xs.flatten.map D.e := ⟨_, rfl⟩
    rw [← hys]
    cbv
    repeat' first | with_reducible rfl | with_reducible refine And.intro ?_ ?_ | ((with_reducible intro hcc); first | (cases hcc; done) | skip) | ((with_reducible show goC _ _ _ _ _ _ _ _); cbv) | ((with_reducible show goOps _ _ _ _ _); cbv) | ((with_reducible show okWr _ _ = _); rfl) | ((with_reducible refine callK_eq hA hP ?_ ?_ ?_ (Wks.refl _) (fun _ _ => ok195 _ _)); exact rfl; exact rfl; cbv) | ((with_reducible refine hA.fin_bs (es := es) ?_ ?_ hes)) | ((with_reducible refine hA.row es _ _ ?_); have hin : (0 : Int) ≤ i ∧ i < es.length := (by simp only [hA.lt, decide_eq_true_eq, n_cast] at *; omega); obtain ⟨⟨b1, v1⟩, e1, q1⟩ := row_op he hin; refine ⟨hin, fun row hrow => ?_⟩; rw [e1] at hrow; subst hrow; cbv) | ((with_reducible refine hA.fin_pl _ _ _ ?_); cbv) | ((with_reducible refine hA.len _ _ _ _ _ fun z hz hb => ?_); cbv) | ((with_reducible refine hA.off _ _ _ _ fun b hb => ?_); cbv) | ((with_reducible refine hA.rep _ _ _ fun ds m hds hm => ?_); cbv) | ((with_reducible refine hA.st _ _ _ _ _ ⟨?_, fun ds hds => ?_⟩); rotate_left; cbv) | ((with_reducible refine hA.alt _ _ (Or.inl ?_)); cbv) | ((with_reducible refine hA.sapp _ _ _ ⟨?_, fun sl hsl => ?_⟩); rotate_left; cbv) | (simp only [hA.natLit, hA.natOf, hA.natCast]; cbv)
    all_goals try simp only [hA.add, hA.sub, hA.mul, hA.neg, hA.div, hA.mod, hA.mn, hA.mx, hA.eq, hA.lt, hA.le, hA.nat, hA.R, hA.lep, hA.ltp, hA.seq, inR, n_cast, Int.ofNat_eq_natCast, Option.getD_some, Option.getD_none] at *
    · exact h0
    · show i < (m : Int)
      omega
    · omega
    · have hb' : b = i.toNat * 2 := by omega
      have hrow : es[i.toNat]? = some [E.int b1, E.int v1] := by
        have : i.toNat < es.length := by omega
        rw [← e1]; simp [List.getD, this]
      refine hK _ (n - 1) _ (by omega) (Weak.keep (env' := [(4, .int (i + 1)), (3, .bs 0 0 m 2), (2, .zs), (0, .e (.sl es))]) ⟨rfl, rfl, rfl, rfl, trivial⟩)
        ⟨i + 1, xs.set i.toNat [E.int b1, E.int v1], by omega, by omega, by simp [h2], ?_, fun j hj => ?_, ?_⟩
      · intro e h
        rcases List.mem_or_eq_of_mem_set h with h | rfl
        · exact h3 e h
        · rfl
      · by_cases hji : (j : Int) < i
        · rw [List.getElem?_set_ne (show i.toNat ≠ j by omega)]; exact h4 j hji
        · have : j = i.toNat := by omega
          subst this
          rw [List.getElem?_set_self (show i.toNat < xs.length by omega), hrow]
      · congr 2
        rw [hds, hys, hb']
        congr 1
        exact buf_set (k := 2) (by omega) h3 (i := i.toNat) (show i.toNat < xs.length by omega) (r := [E.int b1, E.int v1]) rfl
    · have : ys.length = xs.length * 2 := by rw [hys, List.length_map, flatten_len h3]
      omega
    · have hxe : xs = es := by
        refine List.ext_getElem? fun j => ?_
        by_cases hj : (j : Int) < i
        · exact h4 j hj
        · rw [List.getElem?_eq_none (by grind), List.getElem?_eq_none (by grind)]
      rw [hys, hxe]; rfl
    · omega)
end Go.Proofs.Ytfplalbognalkaa.Ab
/- Expressions: what an operation takes. -/
namespace Go.Proofs.Ytfplalbognalkaa.Ab
open Go
def takes (o : Int × Int) (w : Int) : Int :=
  if o.1 = 1 ∨ (o.1 = 2 ∧ o.2 = 0) then 0 else if o.1 = 3 ∧ 0 ≤ o.2 ∧ o.2 < w then 0 else if o.1 = 4 ∧ 1 ≤ o.2 ∧ o.2 ≤ 6 then 2
  else if (o.1 = 5 ∨ o.1 = 6) ∧ o.2 = 0 then 2 else if (o.1 = 7 ∨ o.1 = 8) ∧ o.2 = 0 then 1 else -1
theorem takes_le (o : Int × Int) (w : Int) : -1 ≤ takes o w ∧ takes o w ≤ 2 := by unfold takes; grind
set_option maxRecDepth 100000 in
theorem ok198 (k n w : Int) : Plain Try.prog 198 [dOp k n, .int w] (.int (takes (k, n) w)) := okOf mixed p198 fun A P hA hP => (by
  obtain ⟨r, hr⟩ : ∃ r, r = takes (k, n) w := ⟨_, rfl⟩
  rw [← hr]
  cbv
  repeat' first | with_reducible rfl | with_reducible refine And.intro ?_ ?_ | ((with_reducible intro hcc); first | (cases hcc; done) | skip) | ((with_reducible show goC _ _ _ _ _ _ _ _); cbv) | ((with_reducible show goOps _ _ _ _ _); cbv) | ((with_reducible show okWr _ _ = _); rfl) | ((with_reducible refine hA.fin_pl _ _ _ ?_); cbv) | ((with_reducible refine hA.gb0 true _ ?_); cbv) | ((with_reducible refine hA.gb0 false _ ?_); cbv) | ((with_reducible refine hA.gb _ _ fun vb hvb => ?_); cbv) | (simp only [hA.natLit, hA.natOf, hA.natCast]; cbv)
  all_goals try simp only [hA.add, hA.sub, hA.mul, hA.neg, hA.div, hA.mod, hA.mn, hA.mx, hA.eq, hA.lt, hA.le, hA.nat, hA.R, hA.lep, hA.ltp, hA.seq, inR, n_cast, Int.ofNat_eq_natCast, Option.getD_some, Option.getD_none] at *
  all_goals subst hr
  all_goals try simp only [takes]
  all_goals try simp at *
  all_goals grind)
end Go.Proofs.Ytfplalbognalkaa.Ab
/- Expressions: which are valid, forwards and backwards. -/
namespace Go.Proofs.Ytfplalbognalkaa.Ab
open Go
/-- Forwards: how many values lie there behind all operations; -1: not valid. -/
def fw (w : Int) : List (Int × Int) → Int → Int
  | [], h => h
  | o :: r, h => if takes o w < 0 ∨ h < takes o w then -1 else fw w r (h + 1 - takes o w)
/-- Backwards from operation n - 1: where the expression begins; -1: nowhere. -/
def back (l : List (Int × Int)) (w : Int) : Nat → Int → Int
  | 0, need => if need ≤ 0 then 0 else -1
  | n + 1, need => if need ≤ 0 then n + 1 else if takes (l.getD n (0, 0)) w < 0 then -1 else back l w n (need - 1 + takes (l.getD n (0, 0)) w)
theorem fw_snoc (w : Int) (l : List (Int × Int)) (o : Int × Int) : ∀ h : Int, 0 ≤ h → fw w (l ++ [o]) h = if fw w l h < 0 then -1 else if takes o w < 0 ∨ fw w l h < takes o w then -1 else fw w l h + 1 - takes o w := by
  induction l with
  | nil => intro h h0; show (if takes o w < 0 ∨ h < takes o w then -1 else h + 1 - takes o w) = if h < 0 then -1 else _; rw [if_neg (show ¬ h < 0 by omega)]; rfl
  | cons p l ih =>
    intro h h0
    by_cases c : takes p w < 0 ∨ h < takes p w
    · have e1 : fw w (p :: l) h = -1 := if_pos c
      have e2 : fw w (p :: (l ++ [o])) h = -1 := if_pos c
      rw [List.cons_append, e1, e2]; rfl
    · have e1 : fw w (p :: l) h = fw w l (h + 1 - takes p w) := if_neg c
      have e2 : fw w (p :: (l ++ [o])) h = fw w (l ++ [o]) (h + 1 - takes p w) := if_neg c
      rw [List.cons_append, e1, e2]; exact ih _ (by omega)
theorem fw_ge (w : Int) (l : List (Int × Int)) : ∀ h : Int, 0 ≤ h → -1 ≤ fw w l h ∧ (l ≠ [] → fw w l h ≠ 0) := by
  induction l with
  | nil => intro h h0; simp only [fw]; exact ⟨by omega, fun e => absurd rfl e⟩
  | cons p l ih =>
    intro h h0
    simp only [fw]
    split
    · exact ⟨by omega, fun _ => by omega⟩
    · rename_i c
      obtain ⟨a, b⟩ := ih (h + 1 - takes p w) (by omega)
      refine ⟨a, fun _ => ?_⟩
      cases l with
      | nil => simp only [fw]; omega
      | cons q l => exact b (by simp)
theorem back_fw (w : Int) (l : List (Int × Int)) : ∀ (n : Nat), n ≤ l.length → ∀ need : Int, 1 ≤ need → (back l w n need = 0 ↔ fw w (l.take n) 0 = need) := by
  intro n
  induction n with
  | zero => intro _ need h; simp only [back, List.take_zero, fw]; rw [if_neg (by omega)]; omega
  | succ n ih =>
    intro hn need h
    have hlt : n < l.length := by omega
    have e1 : l.getD n (0, 0) = l[n] := by simp [List.getD, hlt]
    have e2 : l.take (n + 1) = l.take n ++ [l[n]] := by rw [List.take_add_one]; simp [hlt]
    obtain ⟨g1, g2⟩ := fw_ge w (l.take n) 0 (Int.le_refl _)
    have tl := takes_le l[n] w
    rw [e2, fw_snoc w _ _ 0 (Int.le_refl _)]
    simp only [back]
    rw [if_neg (by omega), e1]
    generalize takes l[n] w = t at *
    generalize hv : fw w (l.take n) 0 = v at *
    by_cases ct : t < 0
    · rw [if_pos ct, if_pos (show t < 0 ∨ v < t from .inl ct)]; split <;> omega
    · rw [if_neg ct]
      by_cases c2 : 1 ≤ need - 1 + t
      · rw [ih (by omega) _ c2]
        split
        · omega
        · split <;> omega
      · have hz : back l w n (need - 1 + t) = n := by
          cases n with
          | zero => simp only [back]; rw [if_pos (by omega)]; rfl
          | succ n => simp only [back]; rw [if_pos (by omega)]; rfl
        rw [hz]
        have hnn : (n + 1 : Int) ≠ 0 := by omega
        have hv0 : v = 0 ↔ n = 0 := by
          constructor
          · intro e
            rcases Nat.eq_zero_or_pos n with h0 | h0
            · exact h0
            · exact absurd e (g2 (fun e => by have q : (l.take n).length = 0 := (by rw [e]; rfl); rw [List.length_take] at q; omega))
          · intro e; subst e; simp [fw] at hv; exact hv.symm
        split
        · omega
        · split
          · omega
          · have : (n : Int) = 0 ↔ v = 0 := by omega
            omega
/-- Valid either way. -/
def exOk (l : List (Int × Int)) (w : Int) : Bool := decide (0 ≤ w ∧ 1 ≤ l.length ∧ l.length ≤ 5000 ∧ back l w l.length 1 = 0)
theorem exOk_fw (l : List (Int × Int)) (w : Int) : exOk l w = decide (l.length ≤ 5000 ∧ 0 ≤ w ∧ fw w l 0 = 1) := by
  have h := back_fw w l l.length (Nat.le_refl _) 1 (Int.le_refl _)
  rw [List.take_length] at h
  unfold exOk
  have : fw w l 0 = 1 → 1 ≤ l.length := fun e => by cases l <;> simp [fw] at e ⊢
  rw [decide_eq_decide]
  constructor
  · rintro ⟨a, b, c, d⟩; exact ⟨c, a, h.1 d⟩
  · rintro ⟨c, a, d⟩; exact ⟨a, this d, c, h.2 d⟩
set_option maxRecDepth 100000 in
theorem ok186 (l : List (Int × Int)) (es : List (List E)) (he : es = l.map orow) (hlen : es.length ≤ 1048576) (n : Nat) (hn : n ≤ l.length) (i w : Int) (hi : i = n - 1) : Plain Try.prog 186 [.e (.sl es), .int i, .int w] (.int (back l w n 1)) := okOf mixed p186 fun A P hA hP => (by
  have hl1 : es.length = l.length := by rw [he]; simp
  obtain ⟨r, hr⟩ : ∃ r, r = back l w n 1 := ⟨_, rfl⟩
  rw [← hr]
  cbv
  repeat' first | with_reducible rfl | with_reducible refine And.intro ?_ ?_ | ((with_reducible intro hcc); first | (cases hcc; done) | skip) | ((with_reducible show goC _ _ _ _ _ _ _ _); cbv) | ((with_reducible show goOps _ _ _ _ _); cbv) | ((with_reducible show okWr _ _ = _); rfl) | ((with_reducible refine hA.fin_pl _ _ _ ?_); cbv) | ((with_reducible refine hA.off _ _ _ _ fun b hb => ?_); cbv) | ((with_reducible refine hA.sapp _ _ _ ⟨?_, fun sl hsl => ?_⟩); rotate_left; cbv) | ((with_reducible refine hA.gb0 true _ ?_); cbv) | ((with_reducible refine hA.gb0 false _ ?_); cbv) | ((with_reducible refine hA.gb _ _ fun vb hvb => ?_); cbv) | (simp only [hA.natLit, hA.natOf, hA.natCast]; cbv)
  all_goals try simp only [hA.add, hA.sub, hA.mul, hA.neg, hA.div, hA.mod, hA.mn, hA.mx, hA.eq, hA.lt, hA.le, hA.nat, hA.R, hA.lep, hA.ltp, hA.seq, inR, n_cast, Int.ofNat_eq_natCast, Option.getD_some, Option.getD_none] at *
  refine hA.loopI (fun m s => ∃ (need i : Int), i = m - 1 ∧ m ≤ n ∧ 0 ≤ need ∧ need ≤ 1 + 2 * (n - m) ∧ r = back l w m need ∧ s = ⟨[(7, .int need), (1, .int i), (0, .e (.sl es)), (2, .int w)], []⟩) n _
    (Weak.keep (env' := [(7, .int 1), (1, .int i), (0, .e (.sl es)), (2, .int w)]) ⟨rfl, rfl, rfl, rfl, trivial⟩) ⟨1, i, hi, Nat.le_refl _, by omega, by omega, hr, rfl⟩ ?_
  rintro m s K ⟨need, i, hi, h0, h1, h2, h3, rfl⟩ hK
  cases m with
  | zero =>
    have hlt : A.lt i 0 = true := by rw [hA.lt]; simp [hi]
    have hr2 : r = if need ≤ 0 then 0 else -1 := h3
    clear h3
    cbv
    repeat' first | with_reducible rfl | with_reducible refine And.intro ?_ ?_ | ((with_reducible intro hcc); first | (cases hcc; done) | skip) | ((with_reducible show goC _ _ _ _ _ _ _ _); cbv) | ((with_reducible show goOps _ _ _ _ _); cbv) | ((with_reducible show okWr _ _ = _); rfl) | (simp only [hlt]; cbv) | ((with_reducible refine hA.row0 _ _ _ fun p row => ?_); cbv) | ((with_reducible refine callK_no hA (.int 0) ?_); cbv) | ((with_reducible refine hA.fin_pl _ _ _ ?_); cbv) | ((with_reducible refine hA.off _ _ _ _ fun b hb => ?_); cbv) | ((with_reducible refine hA.sapp _ _ _ ⟨?_, fun sl hsl => ?_⟩); rotate_left; cbv) | ((with_reducible refine hA.gb0 true _ ?_); cbv) | ((with_reducible refine hA.gb0 false _ ?_); cbv) | ((with_reducible refine hA.gb _ _ fun vb hvb => ?_); cbv) | (simp only [hA.natLit, hA.natOf, hA.natCast]; cbv)
    all_goals try simp only [hA.add, hA.sub, hA.mul, hA.neg, hA.div, hA.mod, hA.mn, hA.mx, hA.eq, hA.lt, hA.le, hA.nat, hA.R, hA.lep, hA.ltp, hA.seq, inR, n_cast, Int.ofNat_eq_natCast, Option.getD_some, Option.getD_none] at *
    all_goals first
      | (clear hK; grind; done)
      | (trace_state; fail)
  | succ m =>
    have hlt : A.lt i 0 = false := by rw [hA.lt]; simp [hi]
    have hm : m < l.length := by omega
    have hin : (0 : Int) ≤ i ∧ i < es.length := by omega
    obtain ⟨⟨k, v⟩, e1, q1⟩ := row_op he hin
    have e2 : l.getD m (0, 0) = (k, v) := by
      have : i.toNat = m := by omega
      rw [this] at q1
      simp [List.getD, q1]
    obtain ⟨tk, htk⟩ : ∃ tk, tk = takes (k, v) w := ⟨_, rfl⟩
    have h85 := ok198 k v w
    have tl := takes_le (k, v) w
    rw [← htk] at h85 tl
    have hr2 : r = if need ≤ 0 then ((m + 1 : Nat) : Int) else if tk < 0 then -1 else back l w m (need - 1 + tk) := by
      rw [h3, back, e2, ← htk]; rfl
    obtain ⟨b, hb⟩ : ∃ b, b = back l w m (need - 1 + tk) := ⟨_, rfl⟩
    rw [← hb] at hr2
    clear h3 hr htk
    cbv
    repeat' first | with_reducible rfl | with_reducible refine And.intro ?_ ?_ | ((with_reducible intro hcc); first | (cases hcc; done) | skip) | ((with_reducible show goC _ _ _ _ _ _ _ _); cbv) | ((with_reducible show goOps _ _ _ _ _); cbv) | ((with_reducible show okWr _ _ = _); rfl) | (simp only [hlt]; cbv) | ((with_reducible refine hA.row es _ _ ⟨hin, fun row hrow => ?_⟩); rw [e1] at hrow; subst hrow; cbv) | ((with_reducible refine callK_eq hA hP ?_ ?_ ?_ (Wks.refl _) (fun _ _ => h85)); exact rfl; exact rfl; cbv) | ((with_reducible refine hA.fin_pl _ _ _ ?_); cbv) | ((with_reducible refine hA.off _ _ _ _ fun b hb => ?_); cbv) | ((with_reducible refine hA.sapp _ _ _ ⟨?_, fun sl hsl => ?_⟩); rotate_left; cbv) | ((with_reducible refine hA.gb0 true _ ?_); cbv) | ((with_reducible refine hA.gb0 false _ ?_); cbv) | ((with_reducible refine hA.gb _ _ fun vb hvb => ?_); cbv) | (simp only [hA.natLit, hA.natOf, hA.natCast]; cbv)
    all_goals try simp only [hA.add, hA.sub, hA.mul, hA.neg, hA.div, hA.mod, hA.mn, hA.mx, hA.eq, hA.lt, hA.le, hA.nat, hA.R, hA.lep, hA.ltp, hA.seq, inR, n_cast, Int.ofNat_eq_natCast, Option.getD_some, Option.getD_none] at *
    all_goals first
      | omega
      | (clear hK; grind; done)
      | (refine hK _ m _ (by omega) (Weak.keep (env' := [(7, .int (need - 1 + tk)), (1, .int (i - 1)), (0, .e (.sl es)), (2, .int w)]) ⟨rfl, rfl, rfl, rfl, trivial⟩) ⟨need - 1 + tk, i - 1, by omega, by omega, by grind, by grind, by grind, rfl⟩)
      | (trace_state; fail))
end Go.Proofs.Ytfplalbognalkaa.Ab
/- Expressions: valid, by the specification and by the program. -/
namespace Go.Proofs.Ytfplalbognalkaa.Ab
open Go
set_option maxRecDepth 100000 in
theorem ok144 (l : List (Int × Int)) (es : List (List E)) (he : es = l.map orow) (hlen : es.length ≤ 1048576) (w : Int) : Plain Try.prog 144 [.e (.sl es), .int w] (.bool (exOk l w)) := okOf mixed p144 fun A P hA hP => (by
  have hl1 : es.length = l.length := by rw [he]; simp
  obtain ⟨b, hb⟩ : ∃ b, b = back l w l.length 1 := ⟨_, rfl⟩
  have h62 := fun i => ok186 l es he hlen l.length (Nat.le_refl _) i w
  rw [← hb] at h62
  obtain ⟨r, hr⟩ : ∃ r, r = exOk l w := ⟨_, rfl⟩
  rw [← hr]
  have hr2 : r = decide (0 ≤ w ∧ 1 ≤ es.length ∧ es.length ≤ 5000 ∧ b = 0) := by rw [hr, hb, hl1]; rfl
  clear hr hb
  cbv
  repeat' first | with_reducible rfl | with_reducible refine And.intro ?_ ?_ | ((with_reducible intro hcc); first | (cases hcc; done) | skip) | ((with_reducible show goC _ _ _ _ _ _ _ _); cbv) | ((with_reducible show goOps _ _ _ _ _); cbv) | ((with_reducible show okWr _ _ = _); rfl) | ((with_reducible refine callK_eq hA hP ?_ ?_ ?_ (Wks.refl _) (fun _ _ => h62 _ ?_)); exact rfl; exact rfl; cbv) | ((with_reducible refine hA.fin_pl _ _ _ ?_); cbv) | ((with_reducible refine hA.len _ _ _ _ _ fun z hz hb => ?_); cbv) | ((with_reducible refine hA.gb0 true _ ?_); cbv) | ((with_reducible refine hA.gb0 false _ ?_); cbv) | ((with_reducible refine hA.gb _ _ fun vb hvb => ?_); cbv) | (simp only [hA.natLit, hA.natOf, hA.natCast]; cbv)
  all_goals try simp only [hA.add, hA.sub, hA.mul, hA.neg, hA.div, hA.mod, hA.mn, hA.mx, hA.eq, hA.lt, hA.le, hA.nat, hA.R, hA.lep, hA.ltp, hA.seq, inR, n_cast, Int.ofNat_eq_natCast, Option.getD_some, Option.getD_none] at *
  all_goals first | omega | (simp at *; grind))
theorem fw_drop {w : Int} {l : List (Int × Int)} {i : Nat} {p : Int × Int} (h : l[i]? = some p) (x : Int) : fw w (l.drop i) x = if takes p w < 0 ∨ x < takes p w then -1 else fw w (l.drop (i + 1)) (x + 1 - takes p w) := by
  obtain ⟨a, b⟩ := List.getElem?_eq_some_iff.1 h
  rw [List.drop_eq_getElem_cons a, b]
  rfl
set_option maxRecDepth 100000 in
set_option maxHeartbeats 2000000 in
theorem ok181 (l : List (Int × Int)) (es : List (List E)) (he : es = l.map orow) (hlen : es.length ≤ 1048576) (w : Int) : Plain Try.prog 181 [.e (.sl es), .int w] (.bool (exOk l w)) := okOf mixed p181 fun A P hA hP => (by
  have hl1 : es.length = l.length := by rw [he]; simp
  obtain ⟨r, hr⟩ : ∃ r, r = exOk l w := ⟨_, rfl⟩
  rw [← hr]
  obtain ⟨c, hc⟩ : ∃ c : Bool, c = decide (fw w l 0 = 1) := ⟨_, rfl⟩
  have hr2 : r = (decide (es.length ≤ 5000 ∧ 0 ≤ w) && c) := by rw [hr, hc, hl1, exOk_fw]; by_cases a : l.length ≤ 5000 <;> by_cases b : 0 ≤ w <;> simp [a, b]
  clear hr
  cbv
  repeat' first | with_reducible rfl | with_reducible refine And.intro ?_ ?_ | ((with_reducible intro hcc); first | (cases hcc; done) | skip) | ((with_reducible show goC _ _ _ _ _ _ _ _); cbv) | ((with_reducible show goOps _ _ _ _ _); cbv) | ((with_reducible show okWr _ _ = _); rfl) | ((with_reducible refine hA.fin_pl _ _ _ ?_); cbv) | ((with_reducible refine hA.len _ _ _ _ _ fun z hz hb => ?_); cbv) | ((with_reducible refine hA.off _ _ _ _ fun b hb => ?_); cbv) | ((with_reducible refine hA.plus _ _ _ fun b hb => ?_); cbv) | ((with_reducible refine hA.st _ _ _ _ _ ⟨?_, fun ds hds => ?_⟩); rotate_left; cbv) | ((with_reducible refine hA.sapp _ _ _ ⟨?_, fun sl hsl => ?_⟩); rotate_left; cbv) | ((with_reducible refine hA.gb0 true _ ?_); cbv) | ((with_reducible refine hA.gb0 false _ ?_); cbv) | ((with_reducible refine hA.gb _ _ fun vb hvb => ?_); cbv) | (simp only [hA.natLit, hA.natOf, hA.natCast]; cbv)
  all_goals try simp only [hA.add, hA.sub, hA.mul, hA.neg, hA.div, hA.mod, hA.mn, hA.mx, hA.eq, hA.lt, hA.le, hA.nat, hA.R, hA.lep, hA.ltp, hA.seq, inR, n_cast, Int.ofNat_eq_natCast, Option.getD_some, Option.getD_none] at *
  all_goals try (first | omega | (clear hc; grind; done) | (clear hc; simp at *; grind; done))
  · have hrc : r = c := by clear hc; simp at *; grind
    refine hA.loopI (fun n s => ∃ i h : Int, 0 ≤ i ∧ n + i = es.length ∧ 0 ≤ h ∧ h ≤ i ∧ r = decide (fw w (l.drop i.toNat) h = 1) ∧
      s = ⟨[(18, .int i), (17, .int z), (16, .e (.sl es)), (5, .int h), (4, .bool false), (1, .int w)], []⟩) es.length _
      (Weak.keep (env' := [(18, .int 0), (17, .int _), (16, .e (.sl es)), (5, .int 0), (4, .bool false), (1, .int w)]) ⟨rfl, rfl, rfl, rfl, rfl, rfl, trivial⟩) ⟨0, 0, by omega, by omega, by omega, by omega, by rw [hrc, hc]; rfl, by rfl⟩ ?_
    rintro n s K ⟨i, h, h0, h1, h2, h3, h4, rfl⟩ hK
    by_cases hin : (0 : Int) ≤ i ∧ i < es.length
    · obtain ⟨⟨k, v⟩, e1, q1⟩ := row_op he hin
      rw [fw_drop q1] at h4
      obtain ⟨F, hF⟩ : ∃ F : Int → Bool, ∀ x, F x = decide (fw w (l.drop (i.toNat + 1)) x = 1) := ⟨_, fun _ => rfl⟩
      have h5 : r = if takes (k, v) w < 0 ∨ h < takes (k, v) w then false else F (h + 1 - takes (k, v) w) := by
        rw [h4, hF]; split <;> simp
      obtain ⟨tk, htk⟩ : ∃ tk, tk = takes (k, v) w := ⟨_, rfl⟩
      rw [← htk] at h5
      have f1 : tk < 0 → r = false := fun a => by rw [h5, if_pos (.inl a)]
      have f2 : h < tk → r = false := fun a => by rw [h5, if_pos (.inr a)]
      have hK2 : ∀ hh : Int, 0 ≤ tk → tk ≤ h → hh = h + 1 - tk → ∀ s1, Weak (hpF []) s1 ⟨[(18, .int (i + 1)), (17, .int z), (16, .e (.sl es)), (5, .int hh), (4, .bool false), (1, .int w)], []⟩ → K s1 := fun hh a b c s1 d => by
        refine hK s1 (n - 1) _ (by omega) d ⟨i + 1, hh, by omega, by omega, by omega, by omega, ?_, rfl⟩
        have : (i + 1).toNat = i.toNat + 1 := by omega
        rw [h5, if_neg (by omega), hF, this, c]
      have t1 : k = 1 → tk = 0 := fun e => by simp [htk, takes, e]
      have t2 : k = 2 → tk = if v = 0 then 0 else -1 := fun e => by simp [htk, takes, e]
      have t3 : k = 3 → tk = if 0 ≤ v ∧ v < w then 0 else -1 := fun e => by simp [htk, takes, e]
      have t4 : k = 4 → tk = if 1 ≤ v ∧ v ≤ 6 then 2 else -1 := fun e => by simp [htk, takes, e]
      have t5 : k = 5 ∨ k = 6 → tk = if v = 0 then 2 else -1 := fun e => by rcases e with e | e <;> simp [htk, takes, e]
      have t6 : k = 7 ∨ k = 8 → tk = if v = 0 then 1 else -1 := fun e => by rcases e with e | e <;> simp [htk, takes, e]
      have t7 : k < 1 ∨ 8 < k → tk = -1 := fun e => by simp only [htk, takes]; repeat (rw [if_neg (by omega)])
      clear hK hF h4 hr2 hrc hc h5 htk
      cbv
      repeat' first | with_reducible rfl | with_reducible refine And.intro ?_ ?_ | ((with_reducible intro hcc); first | (cases hcc; done) | skip) | ((with_reducible show goC _ _ _ _ _ _ _ _); cbv) | ((with_reducible show goOps _ _ _ _ _); cbv) | ((with_reducible show okWr _ _ = _); rfl) | ((with_reducible refine hA.row es _ _ ⟨hin, fun row hrow => ?_⟩); rw [e1] at hrow; subst hrow; cbv) | ((with_reducible refine hA.fin_pl _ _ _ ?_); cbv) | ((with_reducible refine hA.len _ _ _ _ _ fun z hz hb => ?_); cbv) | ((with_reducible refine hA.off _ _ _ _ fun b hb => ?_); cbv) | ((with_reducible refine hA.plus _ _ _ fun b hb => ?_); cbv) | ((with_reducible refine hA.st _ _ _ _ _ ⟨?_, fun ds hds => ?_⟩); rotate_left; cbv) | ((with_reducible refine hA.sapp _ _ _ ⟨?_, fun sl hsl => ?_⟩); rotate_left; cbv) | ((with_reducible refine hA.gb0 true _ ?_); cbv) | ((with_reducible refine hA.gb0 false _ ?_); cbv) | ((with_reducible refine hA.gb _ _ fun vb hvb => ?_); cbv) | (simp only [hA.natLit, hA.natOf, hA.natCast]; cbv)
      all_goals try simp only [hA.add, hA.sub, hA.mul, hA.neg, hA.div, hA.mod, hA.mn, hA.mx, hA.eq, hA.lt, hA.le, hA.nat, hA.R, hA.lep, hA.ltp, hA.seq, inR, n_cast, Int.ofNat_eq_natCast, Option.getD_some, Option.getD_none] at *
      all_goals first
        | omega
        | (clear hK2; grind; done)
        | (clear hK2; simp at *; grind; done)
        | (refine hK2 _ ?_ ?_ ?_ _ (Weak.gc ⟨rfl, rfl, rfl, rfl, rfl, rfl, trivial⟩ rfl)
           all_goals clear hK2 hin e1 q1 hl1 hlen he h1
           all_goals first | grind | (simp at *; grind))
    · have : l.drop i.toNat = [] := by rw [List.drop_eq_nil_iff]; omega
      rw [this] at h4
      have h5 : r = decide (h = 1) := h4
      clear h4 hK
      cbv
      repeat' first | with_reducible rfl | with_reducible refine And.intro ?_ ?_ | ((with_reducible intro hcc); first | (cases hcc; done) | skip) | ((with_reducible show goC _ _ _ _ _ _ _ _); cbv) | ((with_reducible show goOps _ _ _ _ _); cbv) | ((with_reducible show okWr _ _ = _); rfl) | ((with_reducible refine hA.row0 _ _ _ fun p row => ?_); cbv) | ((with_reducible refine hA.fin_pl _ _ _ ?_); cbv) | ((with_reducible refine hA.len _ _ _ _ _ fun z hz hb => ?_); cbv) | ((with_reducible refine hA.off _ _ _ _ fun b hb => ?_); cbv) | ((with_reducible refine hA.plus _ _ _ fun b hb => ?_); cbv) | ((with_reducible refine hA.st _ _ _ _ _ ⟨?_, fun ds hds => ?_⟩); rotate_left; cbv) | ((with_reducible refine hA.sapp _ _ _ ⟨?_, fun sl hsl => ?_⟩); rotate_left; cbv) | ((with_reducible refine hA.gb0 true _ ?_); cbv) | ((with_reducible refine hA.gb0 false _ ?_); cbv) | ((with_reducible refine hA.gb _ _ fun vb hvb => ?_); cbv) | (simp only [hA.natLit, hA.natOf, hA.natCast]; cbv)
      all_goals try simp only [hA.add, hA.sub, hA.mul, hA.neg, hA.div, hA.mod, hA.mn, hA.mx, hA.eq, hA.lt, hA.le, hA.nat, hA.R, hA.lep, hA.ltp, hA.seq, inR, n_cast, Int.ofNat_eq_natCast, Option.getD_some, Option.getD_none] at *
      all_goals first
        | omega
        | (simp at *; grind; done)
        | (trace_state; fail))
end Go.Proofs.Ytfplalbognalkaa.Ab
/- Flat plans: which are valid, as the program and as the specification say it; that both say the same. -/
namespace Go.Proofs.Ytfplalbognalkaa.Ab
open Go
structure Fd where
  K : Int
  T : Int
  M : Int
  W : Int
  Ex : List (Int × Int)
  Exs : List (List (Int × Int))
  L : Int
  R : Int
  deriving DecidableEq, Inhabited
abbrev orr (r : List (Int × Int)) : List E := [E.sl (r.map orow)]
abbrev fdr (d : Fd) : List E := [E.int d.K, E.int d.T, E.int d.M, E.int d.W, E.sl (d.Ex.map orow), E.sl (d.Exs.map orr), E.int d.L, E.int d.R]
/-! ### The specification -/
def two (k : Int) : Bool := decide (k = 5 ∨ k = 6 ∨ k = 7 ∨ k = 9 ∨ k = 10 ∨ k = 11)
def one (k : Int) : Bool := two k || decide (k = 3 ∨ k = 4 ∨ k = 8)
def mat (k : Int) : Bool := two k && decide (k ≠ 9)
def usS (k m : Int) : Bool := decide (k = 3 ∨ k = 6 ∨ k = 10 ∨ k = 11 ∨ (k = 7 ∧ m ≠ 1))
def plc (on : Bool) (p i : Int) : Bool := if on then decide (0 ≤ p ∧ p < i) else decide (p = 0)
def fldS (d : Fd) (i nt : Int) : Bool :=
  decide (1 ≤ d.K ∧ d.K ≤ 11) && ((if d.K = 2 then decide (0 ≤ d.T ∧ d.T < nt) else decide (d.T = 0)) && ((if d.K = 7 then decide (1 ≤ d.M ∧ d.M ≤ 4) else decide (d.M = 0)) &&
  (plc (one d.K) d.L i && (plc (two d.K) d.R i && ((mat d.K || decide (d.W = 0)) && ((usS d.K d.M || decide (d.Ex = [])) && (decide (d.K = 4) || decide (d.Exs = []))))))))
def widS (d : Fd) (cols : Int → Int) (l r : Int) : Int :=
  if d.K = 1 then 0 else if d.K = 2 then cols d.T else if mat d.K = true ∧ (d.W < 0 ∨ d.W > l ∨ d.W > r) then -1
  else if usS d.K d.M = true ∧ exOk d.Ex (if d.K = 3 then l else r) = false then -1
  else if (d.Exs.all fun e => exOk e l) = false then -1
  else if d.K = 4 then d.Exs.length else if d.K = 5 then l + r - d.W else if d.K = 6 ∨ d.K = 7 then l + 1 else if d.K = 9 ∧ l ≠ r then -1 else l
def at0 (on : Bool) (ws : List Int) (p : Int) : Int := if on then ws.getD p.toNat 0 else 0
def stS (nt : Int) (cols : Int → Int) (ws : List Int) (d : Fd) : Option Int :=
  if fldS d ws.length nt = true then
    let w := widS d cols (at0 (one d.K) ws d.L) (at0 (two d.K) ws d.R)
    if w < 0 ∨ w > 200 then none else some w
  else none
/-! ### The program -/
def lef (k : Int) : Bool := decide (3 ≤ k ∧ k ≤ 11)
def rig (k : Int) : Bool := decide (5 ≤ k ∧ k ≤ 7) || decide (9 ≤ k ∧ k ≤ 11)
def mtc (k : Int) : Bool := decide (5 ≤ k ∧ k ≤ 7) || (decide (k = 10) || decide (k = 11))
def usI (k m : Int) : Bool := decide (k = 3) || (decide (k = 6) || (decide (k = 10) || (decide (k = 11) || (decide (k = 7) && decide (1 < m)))))
def fldI (d : Fd) (i : Int) : Bool :=
  decide (1 ≤ d.K ∧ d.K ≤ 11) && (plc (lef d.K) d.L i && (plc (rig d.K) d.R i && ((decide (d.K = 2) || decide (d.T = 0)) && ((decide (d.K = 7) || decide (d.M = 0)) && ((mtc d.K || decide (d.W = 0)) &&
  ((!decide (d.K = 7) || decide (1 ≤ d.M ∧ d.M ≤ 4)) && ((usI d.K d.M || decide (d.Ex = [])) && (decide (d.K = 4) || decide (d.Exs = [])))))))))
def widI (d : Fd) (nt : Int) (cols : Int → Int) (l r : Int) : Int :=
  if mtc d.K = true ∧ (d.W < 0 ∨ d.W > min l r) then -1
  else if usI d.K d.M = true ∧ exOk d.Ex (if d.K = 3 then l else r) = false then -1
  else if d.K = 2 ∧ (d.T < 0 ∨ nt ≤ d.T) then -1
  else if d.K = 4 ∧ (d.Exs.all fun e => exOk e l) = false then -1
  else if d.K = 9 ∧ l ≠ r then -1
  else
    let w := if d.K = 2 then cols d.T else if d.K = 4 then (d.Exs.length : Int) else if d.K = 5 then l + r - d.W else if d.K = 6 ∨ d.K = 7 then l + 1 else l
    if w > 200 then -1 else w
def stI (nt : Int) (cols : Int → Int) (ws : List Int) (d : Fd) : Option Int :=
  if fldI d ws.length = true then
    let w := widI d nt cols (at0 (lef d.K) ws d.L) (at0 (rig d.K) ws d.R)
    if w < 0 then none else some w
  else none
theorem two_rig {k : Int} : rig k = two k := by unfold rig two; rw [Bool.eq_iff_iff]; simp; omega
theorem one_lef {k : Int} : lef k = one k := by rw [one, ← two_rig, rig, lef, Bool.eq_iff_iff]; simp; omega
theorem mat_mtc {k : Int} : mtc k = mat k := by rw [mat, ← two_rig, rig, mtc, Bool.eq_iff_iff]; simp; omega
theorem us_us {k m : Int} (h : k = 7 → 1 ≤ m) : usI k m = usS k m := by unfold usI usS; rw [Bool.eq_iff_iff]; simp; omega
theorem st_eqF (nt : Int) (cols : Int → Int) (ws : List Int) (d : Fd) : stI nt cols ws d = stS nt cols ws d := by
  obtain ⟨K, T, M, W, Ex, Exs, L, R⟩ := d
  unfold stI stS fldI fldS
  simp only [two_rig, one_lef, mat_mtc]
  by_cases hM : K = 7 ∧ ¬ (1 ≤ M ∧ M ≤ 4)
  · simp [hM.1, hM.2]
  · have hu : usI K M = usS K M := us_us fun h => by omega
    unfold widI widS
    simp only [hu, mat_mtc]
    obtain ⟨l, hl⟩ : ∃ l, l = at0 (one K) ws L := ⟨_, rfl⟩
    obtain ⟨r, hr⟩ : ∃ l, l = at0 (two K) ws R := ⟨_, rfl⟩
    rw [← hl, ← hr]
    have hl0 : one K = false → l = 0 := fun h => by rw [hl, h]; rfl
    obtain ⟨x1, hx1⟩ : ∃ x, x = plc (one K) L ws.length := ⟨_, rfl⟩
    obtain ⟨x2, hx2⟩ : ∃ x, x = plc (two K) R ws.length := ⟨_, rfl⟩
    rw [← hx1, ← hx2]
    obtain ⟨x3, hx3⟩ : ∃ x, x = exOk Ex (if K = 3 then l else r) := ⟨_, rfl⟩
    obtain ⟨x4, hx4⟩ : ∃ x, x = Exs.all fun e => exOk e l := ⟨_, rfl⟩
    have h4 : Exs = [] → x4 = true := fun h => by rw [hx4, h]; rfl
    rw [← hx3, ← hx4]
    clear hx1 hx2 hx3 hx4 hl hr hu
    have hK : K = 1 ∨ K = 2 ∨ K = 3 ∨ K = 4 ∨ K = 5 ∨ K = 6 ∨ K = 7 ∨ K = 8 ∨ K = 9 ∨ K = 10 ∨ K = 11 ∨ ¬ (1 ≤ K ∧ K ≤ 11) := by omega
    rcases hK with rfl | rfl | rfl | rfl | rfl | rfl | rfl | rfl | rfl | rfl | rfl | hK
    case inr.inr.inr.inr.inr.inr.inr.inr.inr.inr.inr => simp [hK]
    all_goals simp [one, two, mat, usS] at hl0 ⊢
    all_goals first | grind | (trace_state; fail)
end Go.Proofs.Ytfplalbognalkaa.Ab
/- The code of what FlatOk reaches. -/
namespace Go.Proofs.Ytfplalbognalkaa.Ab
open Go
def c6 : F := ⟨58, [(.tmp 4)], (.seq (.reg [⟨(some 2), none, (.box (.s 0))⟩, ⟨(some 3), none, (.box (.s 1))⟩, ⟨(some 4), none, (.mov (.c (.bool false)))⟩]) (.seq (.reg [⟨(some 5), none, (.mov (.c (.int 1048576)))⟩]) (.seq (.reg [⟨(some 12), none, (.load true 2 (.s 2))⟩, ⟨(some 13), none, (.mov (.s 5))⟩, ⟨(some 14), none, (.call 27 [(.s 12), (.s 13)])⟩, ⟨(some 5), none, (.mov (.s 14))⟩]) (.seq (.seq (.reg [⟨(some 15), none, (.mov (.s 5))⟩, ⟨(some 16), none, (.bin .lss (.s 15) (.c (.int 0)))⟩]) (.cond (.s 16) (.seq (.reg [⟨(some 4), none, (.mov (.c (.bool true)))⟩]) .ret) .skip)) (.seq (.reg [⟨(some 17), none, (.load true 1 (.s 3))⟩, ⟨(some 18), none, (.mov (.s 5))⟩, ⟨(some 19), none, (.call 28 [(.s 17), (.s 18)])⟩, ⟨(some 5), none, (.mov (.s 19))⟩]) (.seq (.seq (.reg [⟨(some 20), none, (.mov (.s 5))⟩, ⟨(some 21), none, (.bin .lss (.s 20) (.c (.int 0)))⟩]) (.cond (.s 21) (.seq (.reg [⟨(some 4), none, (.mov (.c (.bool true)))⟩]) .ret) .skip)) (.seq (.dreg [⟨⟨(some 23), none, (.load true 2 (.s 2))⟩, [], [2]⟩, ⟨⟨(some 24), none, (.call 30 [(.s 23)])⟩, [], [23]⟩, ⟨⟨(some 25), none, (.load true 1 (.s 3))⟩, [0, 1], [3]⟩, ⟨⟨(some 26), none, (.call 31 [(.s 25)])⟩, [], [25]⟩, ⟨⟨(some 27), none, (.call 29 [(.s 24), (.s 26)])⟩, [], [24, 26]⟩, ⟨⟨(some 22), none, (.mov (.s 27))⟩, [], [27]⟩, ⟨⟨(some 28), none, (.ext 0 (.s 22))⟩, [], [22]⟩, ⟨⟨(some 29), none, (.ext 1 (.s 22))⟩, [6], [22]⟩, ⟨⟨(some 6), none, (.mov (.s 28))⟩, [7], [28]⟩, ⟨⟨(some 7), none, (.mov (.s 29))⟩, [], [29]⟩]) (.seq (.reg [⟨(some 30), none, (.load true 2 (.s 2))⟩, ⟨(some 31), none, (.call 30 [(.s 30)])⟩, ⟨(some 8), none, (.alloc [(.e (.sl [])), (.int 0)])⟩, ⟨none, none, (.store true 2 (.s 8) (.s 31))⟩]) (.seq (.reg [⟨(some 32), none, (.load true 1 (.s 3))⟩, ⟨(some 33), none, (.call 31 [(.s 32)])⟩, ⟨(some 9), none, (.alloc [(.e (.sl []))])⟩, ⟨none, none, (.store true 1 (.s 9) (.s 33))⟩]) (.seq (.reg [⟨(some 35), none, (.load true 2 (.s 8))⟩, ⟨(some 36), none, (.load true 1 (.s 9))⟩, ⟨(some 37), none, (.call 32 [(.s 35), (.s 36)])⟩, ⟨(some 34), none, (.mov (.s 37))⟩, ⟨(some 38), none, (.ext 0 (.s 34))⟩, ⟨(some 39), none, (.ext 1 (.s 34))⟩, ⟨(some 10), none, (.mov (.s 38))⟩, ⟨(some 11), none, (.mov (.s 39))⟩]) (.seq (.seq (.reg [⟨(some 40), none, (.mov (.s 10))⟩, ⟨(some 41), none, (.mov (.s 6))⟩, ⟨(some 42), none, (.bin .neq (.s 40) (.s 41))⟩, ⟨(some 43), none, (.mov (.s 42))⟩, ⟨(some 44), (some (43, false)), (.mov (.s 11))⟩, ⟨(some 45), (some (43, false)), (.mov (.s 7))⟩, ⟨(some 46), (some (43, false)), (.binb .neq (.s 44) (.s 45))⟩, ⟨(some 47), none, (.pick (.s 43) (.c (.bool true)) (.s 46))⟩]) (.cond (.s 47) (.seq (.reg [⟨(some 4), none, (.mov (.c (.bool false)))⟩]) .ret) .skip)) (.seq (.seq (.dreg [⟨⟨(some 48), none, (.load true 2 (.s 8))⟩, [], [8]⟩, ⟨⟨(some 49), none, (.load true 2 (.s 2))⟩, [0], [2]⟩, ⟨⟨(some 50), none, (.call 30 [(.s 49)])⟩, [0], [49]⟩, ⟨⟨(some 51), none, (.call 33 [(.s 48), (.s 50)])⟩, [], [48, 50]⟩, ⟨⟨(some 52), none, (.un .not (.s 51))⟩, [], [51]⟩]) (.cond (.s 52) (.seq (.reg [⟨(some 4), none, (.mov (.c (.bool false)))⟩]) .ret) .skip)) (.seq (.seq (.dreg [⟨⟨(some 53), none, (.load true 1 (.s 9))⟩, [], [9]⟩, ⟨⟨(some 54), none, (.load true 1 (.s 3))⟩, [0], [3]⟩, ⟨⟨(some 55), none, (.call 31 [(.s 54)])⟩, [0], [54]⟩, ⟨⟨(some 56), none, (.call 34 [(.s 53), (.s 55)])⟩, [], [53, 55]⟩, ⟨⟨(some 57), none, (.un .not (.s 56))⟩, [], [56]⟩]) (.cond (.s 57) (.seq (.reg [⟨(some 4), none, (.mov (.c (.bool false)))⟩]) .ret) .skip)) (.seq (.reg [⟨(some 4), none, (.mov (.c (.bool true)))⟩]) .ret))))))))))))))⟩
theorem p6 : prepF Try.prog 6 = some c6 := by kernel_rfl
def c27 : F := ⟨12, [(.tmp 4)], (.seq (.reg [⟨(some 2), none, (.box (.s 0))⟩, ⟨(some 4), none, (.mov (.c (.int 0)))⟩]) (.seq (.reg [⟨(some 5), none, (.fadr 0 (.s 2))⟩, ⟨(some 6), none, (.load false 1 (.s 5))⟩, ⟨(some 7), none, (.mov (.s 1))⟩, ⟨(some 8), none, (.call 71 [(.s 6), (.s 7)])⟩, ⟨(some 1), none, (.mov (.s 8))⟩]) (.seq (.seq (.reg [⟨(some 9), none, (.mov (.s 1))⟩, ⟨(some 10), none, (.bin .lss (.s 9) (.c (.int 0)))⟩]) (.cond (.s 10) (.seq (.reg [⟨(some 4), none, (.mov (.c (.int (-1))))⟩]) .ret) .skip)) (.seq (.reg [⟨(some 11), none, (.mov (.s 1))⟩, ⟨(some 4), none, (.mov (.s 11))⟩]) .ret))))⟩
theorem p27 : prepF Try.prog 27 = some c27 := by kernel_rfl
def c29 : F := ⟨47, [(.tmp 4), (.tmp 5)], (.seq (.reg [⟨(some 2), none, (.box (.s 0))⟩, ⟨(some 3), none, (.box (.s 1))⟩, ⟨(some 4), none, (.mov (.c (.int 0)))⟩, ⟨(some 5), none, (.mov (.c (.bool false)))⟩]) (.seq (.reg [⟨(some 9), none, (.fadr 0 (.s 2))⟩, ⟨(some 10), none, (.load false 1 (.s 9))⟩, ⟨(some 11), none, (.lenl (.s 10))⟩, ⟨(some 6), none, (.mov (.s 11))⟩]) (.seq (.seq (.reg [⟨(some 12), none, (.load true 1 (.s 3))⟩, ⟨(some 13), none, (.call 73 [(.s 12)])⟩, ⟨(some 14), none, (.un .not (.s 13))⟩, ⟨(some 15), none, (.mov (.s 14))⟩, ⟨(some 16), (some (15, false)), (.mov (.s 6))⟩, ⟨(some 17), (some (15, false)), (.bin .lss (.s 16) (.c (.int 1)))⟩, ⟨(some 18), none, (.pick (.s 15) (.c (.bool true)) (.s 17))⟩, ⟨(some 19), none, (.mov (.s 18))⟩, ⟨(some 20), (some (19, false)), (.mov (.s 6))⟩, ⟨(some 21), (some (19, false)), (.bin .gtr (.s 20) (.c (.int 8000)))⟩, ⟨(some 22), none, (.pick (.s 19) (.c (.bool true)) (.s 21))⟩, ⟨(some 23), none, (.mov (.s 22))⟩, ⟨(some 24), (some (23, false)), (.fadr 1 (.s 2))⟩, ⟨(some 25), (some (23, false)), (.load false 1 (.s 24))⟩, ⟨(some 26), (some (23, false)), (.bin .lss (.s 25) (.c (.int 0)))⟩, ⟨(some 27), none, (.pick (.s 23) (.c (.bool true)) (.s 26))⟩, ⟨(some 28), none, (.mov (.s 27))⟩, ⟨(some 29), (some (28, false)), (.fadr 1 (.s 2))⟩, ⟨(some 30), (some (28, false)), (.load false 1 (.s 29))⟩, ⟨(some 31), (some (28, false)), (.mov (.s 6))⟩, ⟨(some 32), (some (28, false)), (.bin .geq (.s 30) (.s 31))⟩, ⟨(some 33), none, (.pick (.s 28) (.c (.bool true)) (.s 32))⟩]) (.cond (.s 33) (.seq (.reg [⟨(some 4), none, (.mov (.c (.int 0)))⟩, ⟨(some 5), none, (.mov (.c (.bool false)))⟩]) .ret) .skip)) (.seq (.reg [⟨(some 35), none, (.load true 2 (.s 2))⟩, ⟨(some 36), none, (.load true 1 (.s 3))⟩, ⟨(some 37), none, (.call 74 [(.s 35), (.s 36)])⟩, ⟨(some 34), none, (.mov (.s 37))⟩, ⟨(some 38), none, (.ext 0 (.s 34))⟩, ⟨(some 39), none, (.ext 1 (.s 34))⟩, ⟨(some 7), none, (.mov (.s 38))⟩, ⟨(some 8), none, (.mov (.s 39))⟩]) (.seq (.seq (.reg [⟨(some 40), none, (.mov (.s 8))⟩, ⟨(some 41), none, (.un .not (.s 40))⟩]) (.cond (.s 41) (.seq (.reg [⟨(some 4), none, (.mov (.c (.int 0)))⟩, ⟨(some 5), none, (.mov (.c (.bool false)))⟩]) .ret) .skip)) (.seq (.reg [⟨(some 42), none, (.mov (.s 7))⟩, ⟨(some 43), none, (.fadr 1 (.s 2))⟩, ⟨(some 44), none, (.load false 1 (.s 43))⟩, ⟨(some 45), none, (.iadr none 1 (.s 42) (.s 44))⟩, ⟨(some 46), none, (.load false 1 (.s 45))⟩, ⟨(some 4), none, (.mov (.s 46))⟩, ⟨(some 5), none, (.mov (.c (.bool true)))⟩]) .ret))))))⟩
theorem p29 : prepF Try.prog 29 = some c29 := by kernel_rfl
def c30 : F := ⟨12, [(.cell 2 true 2)], (.seq (.reg [⟨(some 1), none, (.box (.s 0))⟩, ⟨(some 2), none, (.alloc [(.e (.sl [])), (.int 0)])⟩]) (.seq (.reg [⟨(some 3), none, (.alloc [(.e (.sl [])), (.int 0)])⟩]) (.seq (.reg [⟨(some 4), none, (.fadr 0 (.s 1))⟩, ⟨(some 5), none, (.load false 1 (.s 4))⟩, ⟨(some 6), none, (.call 75 [(.s 5)])⟩, ⟨(some 7), none, (.fadr 0 (.s 3))⟩, ⟨none, none, (.store false 1 (.s 7) (.s 6))⟩]) (.seq (.reg [⟨(some 8), none, (.fadr 1 (.s 1))⟩, ⟨(some 9), none, (.load false 1 (.s 8))⟩, ⟨(some 10), none, (.fadr 1 (.s 3))⟩, ⟨none, none, (.store false 1 (.s 10) (.s 9))⟩]) (.seq (.reg [⟨(some 11), none, (.load true 2 (.s 3))⟩, ⟨none, none, (.store true 2 (.s 2) (.s 11))⟩]) .ret)))))⟩
theorem p30 : prepF Try.prog 30 = some c30 := by kernel_rfl
def c32 : F := ⟨21, [(.tmp 4), (.tmp 5)], (.seq (.reg [⟨(some 2), none, (.box (.s 0))⟩, ⟨(some 3), none, (.box (.s 1))⟩, ⟨(some 4), none, (.mov (.c (.int 0)))⟩, ⟨(some 5), none, (.mov (.c (.bool false)))⟩]) (.seq (.reg [⟨(some 9), none, (.load true 2 (.s 2))⟩, ⟨(some 10), none, (.load true 1 (.s 3))⟩, ⟨(some 11), none, (.call 77 [(.s 9), (.s 10)])⟩, ⟨(some 8), none, (.mov (.s 11))⟩, ⟨(some 12), none, (.ext 0 (.s 8))⟩, ⟨(some 13), none, (.ext 1 (.s 8))⟩, ⟨(some 6), none, (.mov (.s 12))⟩, ⟨(some 7), none, (.mov (.s 13))⟩]) (.seq (.seq (.reg [⟨(some 14), none, (.mov (.s 7))⟩, ⟨(some 15), none, (.un .not (.s 14))⟩]) (.cond (.s 15) (.seq (.reg [⟨(some 4), none, (.mov (.c (.int 0)))⟩, ⟨(some 5), none, (.mov (.c (.bool false)))⟩]) .ret) .skip)) (.seq (.reg [⟨(some 16), none, (.mov (.s 6))⟩, ⟨(some 17), none, (.fadr 1 (.s 2))⟩, ⟨(some 18), none, (.load false 1 (.s 17))⟩, ⟨(some 19), none, (.iadr none 1 (.s 16) (.s 18))⟩, ⟨(some 20), none, (.load false 1 (.s 19))⟩, ⟨(some 4), none, (.mov (.s 20))⟩, ⟨(some 5), none, (.mov (.c (.bool true)))⟩]) .ret))))⟩
theorem p32 : prepF Try.prog 32 = some c32 := by kernel_rfl
def c33 : F := ⟨16, [(.tmp 4)], (.seq (.reg [⟨(some 2), none, (.box (.s 0))⟩, ⟨(some 3), none, (.box (.s 1))⟩, ⟨(some 4), none, (.mov (.c (.bool false)))⟩]) (.seq (.seq (.reg [⟨(some 5), none, (.fadr 0 (.s 2))⟩, ⟨(some 6), none, (.load false 1 (.s 5))⟩, ⟨(some 7), none, (.fadr 0 (.s 3))⟩, ⟨(some 8), none, (.load false 1 (.s 7))⟩, ⟨(some 9), none, (.call 78 [(.s 6), (.s 8)])⟩, ⟨(some 10), none, (.un .not (.s 9))⟩]) (.cond (.s 10) (.seq (.reg [⟨(some 4), none, (.mov (.c (.bool false)))⟩]) .ret) .skip)) (.seq (.seq (.reg [⟨(some 11), none, (.fadr 1 (.s 2))⟩, ⟨(some 12), none, (.load false 1 (.s 11))⟩, ⟨(some 13), none, (.fadr 1 (.s 3))⟩, ⟨(some 14), none, (.load false 1 (.s 13))⟩, ⟨(some 15), none, (.bin .neq (.s 12) (.s 14))⟩]) (.cond (.s 15) (.seq (.reg [⟨(some 4), none, (.mov (.c (.bool false)))⟩]) .ret) .skip)) (.seq (.reg [⟨(some 4), none, (.mov (.c (.bool true)))⟩]) .ret))))⟩
theorem p33 : prepF Try.prog 33 = some c33 := by kernel_rfl
def c71 : F := ⟨27, [(.tmp 4)], (.seq (.reg [⟨(some 4), none, (.mov (.c (.int 0)))⟩]) (.seq (.reg [⟨(some 6), none, (.mov (.s 1))⟩, ⟨(some 7), none, (.mov (.s 0))⟩, ⟨(some 8), none, (.lenl (.s 7))⟩, ⟨(some 9), none, (.bin .sub (.s 6) (.s 8))⟩, ⟨(some 1), none, (.mov (.s 9))⟩]) (.seq (.seq (.reg [⟨(some 10), none, (.mov (.s 1))⟩, ⟨(some 11), none, (.bin .lss (.s 10) (.c (.int 0)))⟩]) (.cond (.s 11) (.seq (.reg [⟨(some 4), none, (.mov (.c (.int (-1))))⟩]) .ret) .skip)) (.seq (.seq (.reg [⟨(some 5), none, (.mov (.c (.int 0)))⟩]) (.block 0 (.loop (.seq (.seq (.reg [⟨(some 12), none, (.mov (.s 5))⟩, ⟨(some 13), none, (.mov (.s 0))⟩, ⟨(some 14), none, (.lenl (.s 13))⟩, ⟨(some 15), none, (.bin .lss (.s 12) (.s 14))⟩]) (.cond (.s 15) .skip (.exit 0))) (.seq (.block 1 (.seq (.reg [⟨(some 18), none, (.mov (.s 0))⟩, ⟨(some 19), none, (.mov (.s 5))⟩, ⟨(some 20), none, (.iadr none 8 (.s 18) (.s 19))⟩, ⟨(some 21), none, (.load true 8 (.s 20))⟩, ⟨(some 22), none, (.mov (.s 1))⟩, ⟨(some 23), none, (.call 126 [(.s 21), (.s 22)])⟩, ⟨(some 1), none, (.mov (.s 23))⟩]) (.seq (.reg [⟨(some 24), none, (.mov (.s 1))⟩, ⟨(some 25), none, (.bin .lss (.s 24) (.c (.int 0)))⟩]) (.cond (.s 25) (.seq (.reg [⟨(some 4), none, (.mov (.c (.int (-1))))⟩]) .ret) .skip)))) (.reg [⟨(some 16), none, (.mov (.s 5))⟩, ⟨(some 17), none, (.bin .add (.s 16) (.c (.int 1)))⟩, ⟨(some 5), none, (.mov (.s 17))⟩])))))) (.seq (.reg [⟨(some 26), none, (.mov (.s 1))⟩, ⟨(some 4), none, (.mov (.s 26))⟩]) .ret)))))⟩
theorem p71 : prepF Try.prog 71 = some c71 := by kernel_rfl
def c74 : F := ⟨64, [(.tmp 4), (.tmp 5)], (.seq (.reg [⟨(some 2), none, (.box (.s 0))⟩, ⟨(some 3), none, (.box (.s 1))⟩, ⟨(some 4), none, (.mov (.c .zs))⟩, ⟨(some 5), none, (.mov (.c (.bool false)))⟩]) (.seq (.reg [⟨(some 12), none, (.lit 1 [(.v (.int .i64 0))] 0 [])⟩, ⟨(some 6), none, (.mov (.s 12))⟩]) (.seq (.seq (.reg [⟨(some 7), none, (.mov (.c (.int 0)))⟩]) (.block 0 (.loop (.seq (.seq (.reg [⟨(some 13), none, (.mov (.s 7))⟩, ⟨(some 14), none, (.fadr 0 (.s 2))⟩, ⟨(some 15), none, (.load false 1 (.s 14))⟩, ⟨(some 16), none, (.lenl (.s 15))⟩, ⟨(some 17), none, (.bin .lss (.s 13) (.s 16))⟩]) (.cond (.s 17) .skip (.exit 0))) (.seq (.block 1 (.seq (.reg [⟨(some 20), none, (.fadr 0 (.s 2))⟩, ⟨(some 21), none, (.load false 1 (.s 20))⟩, ⟨(some 22), none, (.mov (.s 7))⟩, ⟨(some 23), none, (.iadr none 8 (.s 21) (.s 22))⟩, ⟨(some 24), none, (.load true 8 (.s 23))⟩, ⟨(some 8), none, (.alloc [(.int 0), (.int 0), (.int 0), (.int 0), (.e (.sl [])), (.e (.sl [])), (.int 0), (.int 0)])⟩, ⟨none, none, (.store true 8 (.s 8) (.s 24))⟩]) (.seq (.seq (.reg [⟨(some 25), none, (.load true 8 (.s 8))⟩, ⟨(some 26), none, (.mov (.s 7))⟩, ⟨(some 27), none, (.load true 1 (.s 3))⟩, ⟨(some 28), none, (.call 129 [(.s 25), (.s 26), (.s 27)])⟩, ⟨(some 29), none, (.un .not (.s 28))⟩]) (.cond (.s 29) (.seq (.reg [⟨(some 30), none, (.mov (.s 6))⟩, ⟨(some 4), none, (.mov (.s 30))⟩, ⟨(some 5), none, (.mov (.c (.bool false)))⟩]) .ret) .skip)) (.seq (.reg [⟨(some 9), none, (.mov (.c (.int 0)))⟩]) (.seq (.reg [⟨(some 10), none, (.mov (.c (.int 0)))⟩]) (.seq (.seq (.reg [⟨(some 31), none, (.fadr 0 (.s 8))⟩, ⟨(some 32), none, (.load false 1 (.s 31))⟩, ⟨(some 33), none, (.call 130 [(.s 32)])⟩]) (.cond (.s 33) (.reg [⟨(some 34), none, (.mov (.s 6))⟩, ⟨(some 35), none, (.fadr 6 (.s 8))⟩, ⟨(some 36), none, (.load false 1 (.s 35))⟩, ⟨(some 37), none, (.iadr none 1 (.s 34) (.s 36))⟩, ⟨(some 38), none, (.load false 1 (.s 37))⟩, ⟨(some 9), none, (.mov (.s 38))⟩]) .skip)) (.seq (.seq (.reg [⟨(some 39), none, (.fadr 0 (.s 8))⟩, ⟨(some 40), none, (.load false 1 (.s 39))⟩, ⟨(some 41), none, (.call 131 [(.s 40)])⟩]) (.cond (.s 41) (.reg [⟨(some 42), none, (.mov (.s 6))⟩, ⟨(some 43), none, (.fadr 7 (.s 8))⟩, ⟨(some 44), none, (.load false 1 (.s 43))⟩, ⟨(some 45), none, (.iadr none 1 (.s 42) (.s 44))⟩, ⟨(some 46), none, (.load false 1 (.s 45))⟩, ⟨(some 10), none, (.mov (.s 46))⟩]) .skip)) (.seq (.reg [⟨(some 47), none, (.load true 8 (.s 8))⟩, ⟨(some 48), none, (.load true 1 (.s 3))⟩, ⟨(some 49), none, (.mov (.s 9))⟩, ⟨(some 50), none, (.mov (.s 10))⟩, ⟨(some 51), none, (.call 132 [(.s 47), (.s 48), (.s 49), (.s 50)])⟩, ⟨(some 11), none, (.mov (.s 51))⟩]) (.seq (.seq (.reg [⟨(some 52), none, (.mov (.s 11))⟩, ⟨(some 53), none, (.bin .lss (.s 52) (.c (.int 0)))⟩, ⟨(some 54), none, (.mov (.s 53))⟩, ⟨(some 55), (some (54, false)), (.mov (.s 11))⟩, ⟨(some 56), (some (54, false)), (.bin .gtr (.s 55) (.c (.int 200)))⟩, ⟨(some 57), none, (.pick (.s 54) (.c (.bool true)) (.s 56))⟩]) (.cond (.s 57) (.seq (.reg [⟨(some 58), none, (.mov (.s 6))⟩, ⟨(some 4), none, (.mov (.s 58))⟩, ⟨(some 5), none, (.mov (.c (.bool false)))⟩]) .ret) .skip)) (.reg [⟨(some 59), none, (.mov (.s 6))⟩, ⟨(some 60), none, (.mov (.s 11))⟩, ⟨(some 61), none, (.lit 1 [(.v (.int .i64 0))] 1 [(0, (.s 60))])⟩, ⟨(some 62), none, (.app 1 (.s 59) (.s 61))⟩, ⟨(some 6), none, (.mov (.s 62))⟩])))))))))) (.reg [⟨(some 18), none, (.mov (.s 7))⟩, ⟨(some 19), none, (.bin .add (.s 18) (.c (.int 1)))⟩, ⟨(some 7), none, (.mov (.s 19))⟩])))))) (.seq (.reg [⟨(some 63), none, (.mov (.s 6))⟩, ⟨(some 4), none, (.mov (.s 63))⟩, ⟨(some 5), none, (.mov (.c (.bool true)))⟩]) .ret))))⟩
theorem p74 : prepF Try.prog 74 = some c74 := by kernel_rfl
def c75 : F := ⟨23, [(.tmp 2)], (.seq (.reg [⟨(some 2), none, (.mov (.c .zs))⟩]) (.seq (.reg [⟨(some 5), none, (.mov (.s 0))⟩, ⟨(some 6), none, (.lenl (.s 5))⟩, ⟨(some 7), none, (.mks [(.int 0), (.int 0), (.int 0), (.int 0), (.e (.sl [])), (.e (.sl [])), (.int 0), (.int 0)] (.s 6))⟩, ⟨(some 3), none, (.mov (.s 7))⟩]) (.seq (.seq (.reg [⟨(some 4), none, (.mov (.c (.int 0)))⟩]) (.block 0 (.loop (.seq (.seq (.reg [⟨(some 8), none, (.mov (.s 4))⟩, ⟨(some 9), none, (.mov (.s 0))⟩, ⟨(some 10), none, (.lenl (.s 9))⟩, ⟨(some 11), none, (.bin .lss (.s 8) (.s 10))⟩]) (.cond (.s 11) .skip (.exit 0))) (.seq (.block 1 (.reg [⟨(some 14), none, (.mov (.s 3))⟩, ⟨(some 15), none, (.mov (.s 4))⟩, ⟨(some 16), none, (.mov (.s 0))⟩, ⟨(some 17), none, (.mov (.s 4))⟩, ⟨(some 18), none, (.iadr none 8 (.s 16) (.s 17))⟩, ⟨(some 19), none, (.load true 8 (.s 18))⟩, ⟨(some 20), none, (.call 133 [(.s 19)])⟩, ⟨(some 21), none, (.iadr none 8 (.s 14) (.s 15))⟩, ⟨none, none, (.store true 8 (.s 21) (.s 20))⟩])) (.reg [⟨(some 12), none, (.mov (.s 4))⟩, ⟨(some 13), none, (.bin .add (.s 12) (.c (.int 1)))⟩, ⟨(some 4), none, (.mov (.s 13))⟩])))))) (.seq (.reg [⟨(some 22), none, (.mov (.s 3))⟩, ⟨(some 2), none, (.mov (.s 22))⟩]) .ret))))⟩
theorem p75 : prepF Try.prog 75 = some c75 := by kernel_rfl
def c77 : F := ⟨63, [(.tmp 4), (.tmp 5)], (.seq (.reg [⟨(some 2), none, (.box (.s 0))⟩, ⟨(some 3), none, (.box (.s 1))⟩, ⟨(some 4), none, (.mov (.c .zs))⟩, ⟨(some 5), none, (.mov (.c (.bool false)))⟩]) (.seq (.seq (.reg [⟨(some 10), none, (.fadr 0 (.s 2))⟩, ⟨(some 11), none, (.load false 1 (.s 10))⟩, ⟨(some 12), none, (.lenl (.s 11))⟩, ⟨(some 13), none, (.bin .lss (.s 12) (.c (.int 1)))⟩, ⟨(some 14), none, (.mov (.s 13))⟩, ⟨(some 15), (some (14, false)), (.fadr 0 (.s 2))⟩, ⟨(some 16), (some (14, false)), (.load false 1 (.s 15))⟩, ⟨(some 17), (some (14, false)), (.lenl (.s 16))⟩, ⟨(some 18), (some (14, false)), (.bin .gtr (.s 17) (.c (.int 8000)))⟩, ⟨(some 19), none, (.pick (.s 14) (.c (.bool true)) (.s 18))⟩, ⟨(some 20), none, (.mov (.s 19))⟩, ⟨(some 21), (some (20, false)), (.fadr 1 (.s 2))⟩, ⟨(some 22), (some (20, false)), (.load false 1 (.s 21))⟩, ⟨(some 23), (some (20, false)), (.bin .lss (.s 22) (.c (.int 0)))⟩, ⟨(some 24), none, (.pick (.s 20) (.c (.bool true)) (.s 23))⟩, ⟨(some 25), none, (.mov (.s 24))⟩, ⟨(some 26), (some (25, false)), (.fadr 1 (.s 2))⟩, ⟨(some 27), (some (25, false)), (.load false 1 (.s 26))⟩, ⟨(some 28), (some (25, false)), (.fadr 0 (.s 2))⟩, ⟨(some 29), (some (25, false)), (.load false 1 (.s 28))⟩, ⟨(some 30), (some (25, false)), (.lenl (.s 29))⟩, ⟨(some 31), (some (25, false)), (.bin .geq (.s 27) (.s 30))⟩, ⟨(some 32), none, (.pick (.s 25) (.c (.bool true)) (.s 31))⟩, ⟨(some 33), none, (.mov (.s 32))⟩, ⟨(some 34), (some (33, false)), (.load true 1 (.s 3))⟩, ⟨(some 35), (some (33, false)), (.call 135 [(.s 34)])⟩, ⟨(some 36), (some (33, false)), (.un .not (.s 35))⟩, ⟨(some 37), none, (.pick (.s 33) (.c (.bool true)) (.s 36))⟩]) (.cond (.s 37) (.seq (.reg [⟨(some 4), none, (.mov (.c .zs))⟩, ⟨(some 5), none, (.mov (.c (.bool false)))⟩]) .ret) .skip)) (.seq (.reg [⟨(some 38), none, (.lit 1 [(.v (.int .i64 0))] 0 [])⟩, ⟨(some 6), none, (.mov (.s 38))⟩]) (.seq (.seq (.reg [⟨(some 39), none, (.fadr 0 (.s 2))⟩, ⟨(some 40), none, (.load false 1 (.s 39))⟩, ⟨(some 41), none, (.lenl (.s 40))⟩, ⟨(some 42), none, (.mov (.c (.int 0)))⟩]) (.block 0 (.loop (.seq (.reg [⟨(some 43), none, (.bin .lss (.s 42) (.s 41))⟩]) (.seq (.cond (.s 43) .skip (.exit 0)) (.seq (.block 1 (.seq (.reg [⟨(some 44), none, (.mov (.s 42))⟩, ⟨(some 45), none, (.iadr none 8 (.s 40) (.s 42))⟩, ⟨(some 46), none, (.load true 8 (.s 45))⟩, ⟨(some 8), none, (.alloc [(.int 0), (.int 0), (.int 0), (.int 0), (.e (.sl [])), (.e (.sl [])), (.int 0), (.int 0)])⟩, ⟨(some 7), none, (.mov (.s 44))⟩, ⟨none, none, (.store true 8 (.s 8) (.s 46))⟩]) (.seq (.seq (.reg [⟨(some 47), none, (.load true 8 (.s 8))⟩, ⟨(some 48), none, (.mov (.s 7))⟩, ⟨(some 49), none, (.call 136 [(.s 47), (.s 48)])⟩, ⟨(some 50), none, (.un .not (.s 49))⟩]) (.cond (.s 50) (.seq (.reg [⟨(some 4), none, (.mov (.c .zs))⟩, ⟨(some 5), none, (.mov (.c (.bool false)))⟩]) .ret) .skip)) (.seq (.reg [⟨(some 51), none, (.load true 8 (.s 8))⟩, ⟨(some 52), none, (.load true 1 (.s 3))⟩, ⟨(some 53), none, (.mov (.s 6))⟩, ⟨(some 54), none, (.call 137 [(.s 51), (.s 52), (.s 53)])⟩, ⟨(some 9), none, (.mov (.s 54))⟩]) (.seq (.seq (.reg [⟨(some 55), none, (.mov (.s 9))⟩, ⟨(some 56), none, (.bin .lss (.s 55) (.c (.int 0)))⟩]) (.cond (.s 56) (.seq (.reg [⟨(some 4), none, (.mov (.c .zs))⟩, ⟨(some 5), none, (.mov (.c (.bool false)))⟩]) .ret) .skip)) (.reg [⟨(some 57), none, (.mov (.s 6))⟩, ⟨(some 58), none, (.mov (.s 9))⟩, ⟨(some 59), none, (.lit 1 [(.v (.int .i64 0))] 1 [(0, (.s 58))])⟩, ⟨(some 60), none, (.app 1 (.s 57) (.s 59))⟩, ⟨(some 6), none, (.mov (.s 60))⟩])))))) (.reg [⟨(some 61), none, (.bin .add (.s 42) (.c (.int 1)))⟩, ⟨(some 42), none, (.mov (.s 61))⟩]))))))) (.seq (.reg [⟨(some 62), none, (.mov (.s 6))⟩, ⟨(some 4), none, (.mov (.s 62))⟩, ⟨(some 5), none, (.mov (.c (.bool true)))⟩]) .ret)))))⟩
theorem p77 : prepF Try.prog 77 = some c77 := by kernel_rfl
def c78 : F := ⟨27, [(.tmp 4)], (.seq (.reg [⟨(some 4), none, (.mov (.c (.bool false)))⟩]) (.seq (.seq (.reg [⟨(some 6), none, (.mov (.s 0))⟩, ⟨(some 7), none, (.lenl (.s 6))⟩, ⟨(some 8), none, (.mov (.s 1))⟩, ⟨(some 9), none, (.lenl (.s 8))⟩, ⟨(some 10), none, (.bin .neq (.s 7) (.s 9))⟩]) (.cond (.s 10) (.seq (.reg [⟨(some 4), none, (.mov (.c (.bool false)))⟩]) .ret) .skip)) (.seq (.seq (.reg [⟨(some 5), none, (.mov (.c (.int 0)))⟩]) (.block 0 (.loop (.seq (.seq (.reg [⟨(some 11), none, (.mov (.s 5))⟩, ⟨(some 12), none, (.mov (.s 0))⟩, ⟨(some 13), none, (.lenl (.s 12))⟩, ⟨(some 14), none, (.bin .lss (.s 11) (.s 13))⟩]) (.cond (.s 14) .skip (.exit 0))) (.seq (.block 1 (.seq (.dreg [⟨⟨(some 17), none, (.mov (.s 0))⟩, [], [0]⟩, ⟨⟨(some 18), none, (.mov (.s 5))⟩, [0], [5]⟩, ⟨⟨(some 19), none, (.iadr none 8 (.s 17) (.s 18))⟩, [], [17, 18]⟩, ⟨⟨(some 20), none, (.load true 8 (.s 19))⟩, [], [19]⟩, ⟨⟨(some 21), none, (.mov (.s 1))⟩, [0, 1, 2, 3], [1]⟩, ⟨⟨(some 22), none, (.mov (.s 5))⟩, [0, 1, 2, 3, 4], [5]⟩, ⟨⟨(some 23), none, (.iadr none 8 (.s 21) (.s 22))⟩, [0, 1, 2, 3], [21, 22]⟩, ⟨⟨(some 24), none, (.load true 8 (.s 23))⟩, [0, 1, 2, 3], [23]⟩, ⟨⟨(some 25), none, (.call 138 [(.s 20), (.s 24)])⟩, [], [20, 24]⟩, ⟨⟨(some 26), none, (.un .not (.s 25))⟩, [], [25]⟩]) (.cond (.s 26) (.seq (.reg [⟨(some 4), none, (.mov (.c (.bool false)))⟩]) .ret) .skip))) (.reg [⟨(some 15), none, (.mov (.s 5))⟩, ⟨(some 16), none, (.bin .add (.s 15) (.c (.int 1)))⟩, ⟨(some 5), none, (.mov (.s 16))⟩])))))) (.seq (.reg [⟨(some 4), none, (.mov (.c (.bool true)))⟩]) .ret))))⟩
theorem p78 : prepF Try.prog 78 = some c78 := by kernel_rfl
def c96 : F := ⟨9, [(.tmp 2)], (.seq (.reg [⟨(some 2), none, (.mov (.c (.bool false)))⟩]) (.seq (.reg [⟨(some 3), none, (.mov (.s 0))⟩, ⟨(some 4), none, (.bin .geq (.s 3) (.c (.int 3)))⟩, ⟨(some 5), none, (.mov (.s 4))⟩, ⟨(some 6), (some (5, true)), (.mov (.s 0))⟩, ⟨(some 7), (some (5, true)), (.bin .leq (.s 6) (.c (.int 11)))⟩, ⟨(some 8), none, (.pick (.s 5) (.s 7) (.c (.bool false)))⟩, ⟨(some 2), none, (.mov (.s 8))⟩]) .ret))⟩
theorem p96 : prepF Try.prog 96 = some c96 := by kernel_rfl
def c97 : F := ⟨17, [(.tmp 2)], (.seq (.reg [⟨(some 2), none, (.mov (.c (.bool false)))⟩]) (.seq (.reg [⟨(some 3), none, (.mov (.s 0))⟩, ⟨(some 4), none, (.bin .geq (.s 3) (.c (.int 5)))⟩, ⟨(some 5), none, (.mov (.s 4))⟩, ⟨(some 6), (some (5, true)), (.mov (.s 0))⟩, ⟨(some 7), (some (5, true)), (.bin .leq (.s 6) (.c (.int 7)))⟩, ⟨(some 8), none, (.pick (.s 5) (.s 7) (.c (.bool false)))⟩, ⟨(some 9), none, (.mov (.s 8))⟩, ⟨(some 10), (some (9, false)), (.mov (.s 0))⟩, ⟨(some 11), (some (9, false)), (.bin .geq (.s 10) (.c (.int 9)))⟩, ⟨(some 12), (some (9, false)), (.mov (.s 11))⟩, ⟨(some 13), (some (12, true)), (.mov (.s 0))⟩, ⟨(some 14), (some (12, true)), (.bin .leq (.s 13) (.c (.int 11)))⟩, ⟨(some 15), (some (9, false)), (.pick (.s 12) (.s 14) (.c (.bool false)))⟩, ⟨(some 16), none, (.pick (.s 9) (.c (.bool true)) (.s 15))⟩, ⟨(some 2), none, (.mov (.s 16))⟩]) .ret))⟩
theorem p97 : prepF Try.prog 97 = some c97 := by kernel_rfl
def c126 : F := ⟨18, [(.tmp 4)], (.seq (.reg [⟨(some 2), none, (.box (.s 0))⟩, ⟨(some 4), none, (.mov (.c (.int 0)))⟩]) (.seq (.reg [⟨(some 5), none, (.fadr 4 (.s 2))⟩, ⟨(some 6), none, (.load false 1 (.s 5))⟩, ⟨(some 7), none, (.mov (.s 1))⟩, ⟨(some 8), none, (.call 172 [(.s 6), (.s 7)])⟩, ⟨(some 1), none, (.mov (.s 8))⟩]) (.seq (.seq (.reg [⟨(some 9), none, (.mov (.s 1))⟩, ⟨(some 10), none, (.bin .lss (.s 9) (.c (.int 0)))⟩]) (.cond (.s 10) (.seq (.reg [⟨(some 4), none, (.mov (.c (.int (-1))))⟩]) .ret) .skip)) (.seq (.reg [⟨(some 11), none, (.fadr 5 (.s 2))⟩, ⟨(some 12), none, (.load false 1 (.s 11))⟩, ⟨(some 13), none, (.mov (.s 1))⟩, ⟨(some 14), none, (.call 173 [(.s 12), (.s 13)])⟩, ⟨(some 1), none, (.mov (.s 14))⟩]) (.seq (.seq (.reg [⟨(some 15), none, (.mov (.s 1))⟩, ⟨(some 16), none, (.bin .lss (.s 15) (.c (.int 0)))⟩]) (.cond (.s 16) (.seq (.reg [⟨(some 4), none, (.mov (.c (.int (-1))))⟩]) .ret) .skip)) (.seq (.reg [⟨(some 17), none, (.mov (.s 1))⟩, ⟨(some 4), none, (.mov (.s 17))⟩]) .ret))))))⟩
theorem p126 : prepF Try.prog 126 = some c126 := by kernel_rfl
def c129 : F := ⟨138, [(.tmp 6)], (.seq (.reg [⟨(some 3), none, (.box (.s 0))⟩, ⟨(some 5), none, (.box (.s 2))⟩, ⟨(some 6), none, (.mov (.c (.bool false)))⟩]) (.seq (.seq (.reg [⟨(some 7), none, (.fadr 0 (.s 3))⟩, ⟨(some 8), none, (.load false 1 (.s 7))⟩, ⟨(some 9), none, (.bin .lss (.s 8) (.c (.int 1)))⟩, ⟨(some 10), none, (.mov (.s 9))⟩, ⟨(some 11), (some (10, false)), (.fadr 0 (.s 3))⟩, ⟨(some 12), (some (10, false)), (.load false 1 (.s 11))⟩, ⟨(some 13), (some (10, false)), (.bin .gtr (.s 12) (.c (.int 11)))⟩, ⟨(some 14), none, (.pick (.s 10) (.c (.bool true)) (.s 13))⟩]) (.cond (.s 14) (.seq (.reg [⟨(some 6), none, (.mov (.c (.bool false)))⟩]) .ret) .skip)) (.seq (.seq (.reg [⟨(some 15), none, (.fadr 0 (.s 3))⟩, ⟨(some 16), none, (.load false 1 (.s 15))⟩, ⟨(some 17), none, (.bin .eql (.s 16) (.c (.int 2)))⟩, ⟨(some 18), none, (.mov (.s 17))⟩, ⟨(some 19), (some (18, true)), (.fadr 1 (.s 3))⟩, ⟨(some 20), (some (18, true)), (.load false 1 (.s 19))⟩, ⟨(some 21), (some (18, true)), (.bin .lss (.s 20) (.c (.int 0)))⟩, ⟨(some 22), (some (18, true)), (.mov (.s 21))⟩, ⟨(some 23), (some (22, false)), (.fadr 1 (.s 3))⟩, ⟨(some 24), (some (22, false)), (.load false 1 (.s 23))⟩, ⟨(some 25), (some (22, false)), (.fadr 0 (.s 5))⟩, ⟨(some 26), (some (22, false)), (.load false 1 (.s 25))⟩, ⟨(some 27), (some (22, false)), (.lenl (.s 26))⟩, ⟨(some 28), (some (22, false)), (.bin .geq (.s 24) (.s 27))⟩, ⟨(some 29), (some (18, true)), (.pick (.s 22) (.c (.bool true)) (.s 28))⟩, ⟨(some 30), none, (.pick (.s 18) (.s 29) (.c (.bool false)))⟩]) (.cond (.s 30) (.seq (.reg [⟨(some 6), none, (.mov (.c (.bool false)))⟩]) .ret) .skip)) (.seq (.seq (.reg [⟨(some 31), none, (.fadr 0 (.s 3))⟩, ⟨(some 32), none, (.load false 1 (.s 31))⟩, ⟨(some 33), none, (.bin .neq (.s 32) (.c (.int 2)))⟩, ⟨(some 34), none, (.mov (.s 33))⟩, ⟨(some 35), (some (34, true)), (.fadr 1 (.s 3))⟩, ⟨(some 36), (some (34, true)), (.load false 1 (.s 35))⟩, ⟨(some 37), (some (34, true)), (.bin .neq (.s 36) (.c (.int 0)))⟩, ⟨(some 38), none, (.pick (.s 34) (.s 37) (.c (.bool false)))⟩]) (.cond (.s 38) (.seq (.reg [⟨(some 6), none, (.mov (.c (.bool false)))⟩]) .ret) .skip)) (.seq (.seq (.reg [⟨(some 39), none, (.fadr 0 (.s 3))⟩, ⟨(some 40), none, (.load false 1 (.s 39))⟩, ⟨(some 41), none, (.bin .eql (.s 40) (.c (.int 7)))⟩, ⟨(some 42), none, (.mov (.s 41))⟩, ⟨(some 43), (some (42, true)), (.fadr 2 (.s 3))⟩, ⟨(some 44), (some (42, true)), (.load false 1 (.s 43))⟩, ⟨(some 45), (some (42, true)), (.bin .lss (.s 44) (.c (.int 1)))⟩, ⟨(some 46), (some (42, true)), (.mov (.s 45))⟩, ⟨(some 47), (some (46, false)), (.fadr 2 (.s 3))⟩, ⟨(some 48), (some (46, false)), (.load false 1 (.s 47))⟩, ⟨(some 49), (some (46, false)), (.bin .gtr (.s 48) (.c (.int 4)))⟩, ⟨(some 50), (some (42, true)), (.pick (.s 46) (.c (.bool true)) (.s 49))⟩, ⟨(some 51), none, (.pick (.s 42) (.s 50) (.c (.bool false)))⟩]) (.cond (.s 51) (.seq (.reg [⟨(some 6), none, (.mov (.c (.bool false)))⟩]) .ret) .skip)) (.seq (.seq (.reg [⟨(some 52), none, (.fadr 0 (.s 3))⟩, ⟨(some 53), none, (.load false 1 (.s 52))⟩, ⟨(some 54), none, (.bin .neq (.s 53) (.c (.int 7)))⟩, ⟨(some 55), none, (.mov (.s 54))⟩, ⟨(some 56), (some (55, true)), (.fadr 2 (.s 3))⟩, ⟨(some 57), (some (55, true)), (.load false 1 (.s 56))⟩, ⟨(some 58), (some (55, true)), (.bin .neq (.s 57) (.c (.int 0)))⟩, ⟨(some 59), none, (.pick (.s 55) (.s 58) (.c (.bool false)))⟩]) (.cond (.s 59) (.seq (.reg [⟨(some 6), none, (.mov (.c (.bool false)))⟩]) .ret) .skip)) (.seq (.seq (.reg [⟨(some 60), none, (.fadr 0 (.s 3))⟩, ⟨(some 61), none, (.load false 1 (.s 60))⟩, ⟨(some 62), none, (.call 130 [(.s 61)])⟩, ⟨(some 63), none, (.mov (.s 62))⟩, ⟨(some 64), (some (63, true)), (.fadr 6 (.s 3))⟩, ⟨(some 65), (some (63, true)), (.load false 1 (.s 64))⟩, ⟨(some 66), (some (63, true)), (.bin .lss (.s 65) (.c (.int 0)))⟩, ⟨(some 67), (some (63, true)), (.mov (.s 66))⟩, ⟨(some 68), (some (67, false)), (.fadr 6 (.s 3))⟩, ⟨(some 69), (some (67, false)), (.load false 1 (.s 68))⟩, ⟨(some 70), (some (67, false)), (.mov (.s 1))⟩, ⟨(some 71), (some (67, false)), (.bin .geq (.s 69) (.s 70))⟩, ⟨(some 72), (some (63, true)), (.pick (.s 67) (.c (.bool true)) (.s 71))⟩, ⟨(some 73), none, (.pick (.s 63) (.s 72) (.c (.bool false)))⟩, ⟨(some 74), none, (.mov (.s 73))⟩, ⟨(some 75), (some (74, false)), (.fadr 0 (.s 3))⟩, ⟨(some 76), (some (74, false)), (.load false 1 (.s 75))⟩, ⟨(some 77), (some (74, false)), (.call 130 [(.s 76)])⟩, ⟨(some 78), (some (74, false)), (.un .not (.s 77))⟩, ⟨(some 79), (some (74, false)), (.mov (.s 78))⟩, ⟨(some 80), (some (79, true)), (.fadr 6 (.s 3))⟩, ⟨(some 81), (some (79, true)), (.load false 1 (.s 80))⟩, ⟨(some 82), (some (79, true)), (.bin .neq (.s 81) (.c (.int 0)))⟩, ⟨(some 83), (some (74, false)), (.pick (.s 79) (.s 82) (.c (.bool false)))⟩, ⟨(some 84), none, (.pick (.s 74) (.c (.bool true)) (.s 83))⟩]) (.cond (.s 84) (.seq (.reg [⟨(some 6), none, (.mov (.c (.bool false)))⟩]) .ret) .skip)) (.seq (.seq (.reg [⟨(some 85), none, (.fadr 0 (.s 3))⟩, ⟨(some 86), none, (.load false 1 (.s 85))⟩, ⟨(some 87), none, (.call 131 [(.s 86)])⟩, ⟨(some 88), none, (.mov (.s 87))⟩, ⟨(some 89), (some (88, true)), (.fadr 7 (.s 3))⟩, ⟨(some 90), (some (88, true)), (.load false 1 (.s 89))⟩, ⟨(some 91), (some (88, true)), (.bin .lss (.s 90) (.c (.int 0)))⟩, ⟨(some 92), (some (88, true)), (.mov (.s 91))⟩, ⟨(some 93), (some (92, false)), (.fadr 7 (.s 3))⟩, ⟨(some 94), (some (92, false)), (.load false 1 (.s 93))⟩, ⟨(some 95), (some (92, false)), (.mov (.s 1))⟩, ⟨(some 96), (some (92, false)), (.bin .geq (.s 94) (.s 95))⟩, ⟨(some 97), (some (88, true)), (.pick (.s 92) (.c (.bool true)) (.s 96))⟩, ⟨(some 98), none, (.pick (.s 88) (.s 97) (.c (.bool false)))⟩, ⟨(some 99), none, (.mov (.s 98))⟩, ⟨(some 100), (some (99, false)), (.fadr 0 (.s 3))⟩, ⟨(some 101), (some (99, false)), (.load false 1 (.s 100))⟩, ⟨(some 102), (some (99, false)), (.call 131 [(.s 101)])⟩, ⟨(some 103), (some (99, false)), (.un .not (.s 102))⟩, ⟨(some 104), (some (99, false)), (.mov (.s 103))⟩, ⟨(some 105), (some (104, true)), (.fadr 7 (.s 3))⟩, ⟨(some 106), (some (104, true)), (.load false 1 (.s 105))⟩, ⟨(some 107), (some (104, true)), (.bin .neq (.s 106) (.c (.int 0)))⟩, ⟨(some 108), (some (99, false)), (.pick (.s 104) (.s 107) (.c (.bool false)))⟩, ⟨(some 109), none, (.pick (.s 99) (.c (.bool true)) (.s 108))⟩]) (.cond (.s 109) (.seq (.reg [⟨(some 6), none, (.mov (.c (.bool false)))⟩]) .ret) .skip)) (.seq (.seq (.reg [⟨(some 110), none, (.fadr 0 (.s 3))⟩, ⟨(some 111), none, (.load false 1 (.s 110))⟩, ⟨(some 112), none, (.call 174 [(.s 111)])⟩, ⟨(some 113), none, (.un .not (.s 112))⟩, ⟨(some 114), none, (.mov (.s 113))⟩, ⟨(some 115), (some (114, true)), (.fadr 3 (.s 3))⟩, ⟨(some 116), (some (114, true)), (.load false 1 (.s 115))⟩, ⟨(some 117), (some (114, true)), (.bin .neq (.s 116) (.c (.int 0)))⟩, ⟨(some 118), none, (.pick (.s 114) (.s 117) (.c (.bool false)))⟩]) (.cond (.s 118) (.seq (.reg [⟨(some 6), none, (.mov (.c (.bool false)))⟩]) .ret) .skip)) (.seq (.reg [⟨(some 119), none, (.load true 8 (.s 3))⟩, ⟨(some 120), none, (.call 175 [(.s 119)])⟩, ⟨(some 121), none, (.mov (.s 120))⟩, ⟨(some 122), (some (121, false)), (.fadr 4 (.s 3))⟩, ⟨(some 123), (some (121, false)), (.load false 1 (.s 122))⟩, ⟨(some 124), (some (121, false)), (.lenl (.s 123))⟩, ⟨(some 125), (some (121, false)), (.bin .eql (.s 124) (.c (.int 0)))⟩, ⟨(some 126), none, (.pick (.s 121) (.c (.bool true)) (.s 125))⟩, ⟨(some 127), none, (.mov (.s 126))⟩, ⟨(some 128), (some (127, true)), (.fadr 0 (.s 3))⟩, ⟨(some 129), (some (127, true)), (.load false 1 (.s 128))⟩, ⟨(some 130), (some (127, true)), (.bin .eql (.s 129) (.c (.int 4)))⟩, ⟨(some 131), (some (127, true)), (.mov (.s 130))⟩, ⟨(some 132), (some (131, false)), (.fadr 5 (.s 3))⟩, ⟨(some 133), (some (131, false)), (.load false 1 (.s 132))⟩, ⟨(some 134), (some (131, false)), (.lenl (.s 133))⟩, ⟨(some 135), (some (131, false)), (.bin .eql (.s 134) (.c (.int 0)))⟩, ⟨(some 136), (some (127, true)), (.pick (.s 131) (.c (.bool true)) (.s 135))⟩, ⟨(some 137), none, (.pick (.s 127) (.s 136) (.c (.bool false)))⟩, ⟨(some 6), none, (.mov (.s 137))⟩]) .ret))))))))))⟩
theorem p129 : prepF Try.prog 129 = some c129 := by kernel_rfl
def c130 : F := ⟨17, [(.tmp 2)], (.seq (.reg [⟨(some 2), none, (.mov (.c (.bool false)))⟩]) (.seq (.reg [⟨(some 3), none, (.mov (.s 0))⟩, ⟨(some 4), none, (.call 131 [(.s 3)])⟩, ⟨(some 5), none, (.mov (.s 4))⟩, ⟨(some 6), (some (5, false)), (.mov (.s 0))⟩, ⟨(some 7), (some (5, false)), (.bin .eql (.s 6) (.c (.int 3)))⟩, ⟨(some 8), none, (.pick (.s 5) (.c (.bool true)) (.s 7))⟩, ⟨(some 9), none, (.mov (.s 8))⟩, ⟨(some 10), (some (9, false)), (.mov (.s 0))⟩, ⟨(some 11), (some (9, false)), (.bin .eql (.s 10) (.c (.int 4)))⟩, ⟨(some 12), none, (.pick (.s 9) (.c (.bool true)) (.s 11))⟩, ⟨(some 13), none, (.mov (.s 12))⟩, ⟨(some 14), (some (13, false)), (.mov (.s 0))⟩, ⟨(some 15), (some (13, false)), (.bin .eql (.s 14) (.c (.int 8)))⟩, ⟨(some 16), none, (.pick (.s 13) (.c (.bool true)) (.s 15))⟩, ⟨(some 2), none, (.mov (.s 16))⟩]) .ret))⟩
theorem p130 : prepF Try.prog 130 = some c130 := by kernel_rfl
def c131 : F := ⟨25, [(.tmp 2)], (.seq (.reg [⟨(some 2), none, (.mov (.c (.bool false)))⟩]) (.seq (.reg [⟨(some 3), none, (.mov (.s 0))⟩, ⟨(some 4), none, (.bin .eql (.s 3) (.c (.int 5)))⟩, ⟨(some 5), none, (.mov (.s 4))⟩, ⟨(some 6), (some (5, false)), (.mov (.s 0))⟩, ⟨(some 7), (some (5, false)), (.bin .eql (.s 6) (.c (.int 6)))⟩, ⟨(some 8), none, (.pick (.s 5) (.c (.bool true)) (.s 7))⟩, ⟨(some 9), none, (.mov (.s 8))⟩, ⟨(some 10), (some (9, false)), (.mov (.s 0))⟩, ⟨(some 11), (some (9, false)), (.bin .eql (.s 10) (.c (.int 7)))⟩, ⟨(some 12), none, (.pick (.s 9) (.c (.bool true)) (.s 11))⟩, ⟨(some 13), none, (.mov (.s 12))⟩, ⟨(some 14), (some (13, false)), (.mov (.s 0))⟩, ⟨(some 15), (some (13, false)), (.bin .eql (.s 14) (.c (.int 9)))⟩, ⟨(some 16), none, (.pick (.s 13) (.c (.bool true)) (.s 15))⟩, ⟨(some 17), none, (.mov (.s 16))⟩, ⟨(some 18), (some (17, false)), (.mov (.s 0))⟩, ⟨(some 19), (some (17, false)), (.bin .eql (.s 18) (.c (.int 10)))⟩, ⟨(some 20), none, (.pick (.s 17) (.c (.bool true)) (.s 19))⟩, ⟨(some 21), none, (.mov (.s 20))⟩, ⟨(some 22), (some (21, false)), (.mov (.s 0))⟩, ⟨(some 23), (some (21, false)), (.bin .eql (.s 22) (.c (.int 11)))⟩, ⟨(some 24), none, (.pick (.s 21) (.c (.bool true)) (.s 23))⟩, ⟨(some 2), none, (.mov (.s 24))⟩]) .ret))⟩
theorem p131 : prepF Try.prog 131 = some c131 := by kernel_rfl
def c132 : F := ⟨107, [(.tmp 8)], (.seq (.reg [⟨(some 4), none, (.box (.s 0))⟩, ⟨(some 5), none, (.box (.s 1))⟩, ⟨(some 8), none, (.mov (.c (.int 0)))⟩]) (.seq (.seq (.reg [⟨(some 11), none, (.fadr 0 (.s 4))⟩, ⟨(some 12), none, (.load false 1 (.s 11))⟩, ⟨(some 13), none, (.bin .eql (.s 12) (.c (.int 1)))⟩]) (.cond (.s 13) (.seq (.reg [⟨(some 8), none, (.mov (.c (.int 0)))⟩]) .ret) .skip)) (.seq (.seq (.reg [⟨(some 14), none, (.fadr 0 (.s 4))⟩, ⟨(some 15), none, (.load false 1 (.s 14))⟩, ⟨(some 16), none, (.bin .eql (.s 15) (.c (.int 2)))⟩]) (.cond (.s 16) (.seq (.reg [⟨(some 17), none, (.fadr 0 (.s 5))⟩, ⟨(some 18), none, (.load false 1 (.s 17))⟩, ⟨(some 19), none, (.fadr 1 (.s 4))⟩, ⟨(some 20), none, (.load false 1 (.s 19))⟩, ⟨(some 21), none, (.iadr none 3 (.s 18) (.s 20))⟩, ⟨(some 22), none, (.fadr 1 (.s 21))⟩, ⟨(some 23), none, (.load false 1 (.s 22))⟩, ⟨(some 8), none, (.mov (.s 23))⟩]) .ret) .skip)) (.seq (.seq (.reg [⟨(some 24), none, (.fadr 0 (.s 4))⟩, ⟨(some 25), none, (.load false 1 (.s 24))⟩, ⟨(some 26), none, (.call 174 [(.s 25)])⟩, ⟨(some 27), none, (.mov (.s 26))⟩, ⟨(some 28), (some (27, true)), (.fadr 3 (.s 4))⟩, ⟨(some 29), (some (27, true)), (.load false 1 (.s 28))⟩, ⟨(some 30), (some (27, true)), (.bin .lss (.s 29) (.c (.int 0)))⟩, ⟨(some 31), (some (27, true)), (.mov (.s 30))⟩, ⟨(some 32), (some (31, false)), (.fadr 3 (.s 4))⟩, ⟨(some 33), (some (31, false)), (.load false 1 (.s 32))⟩, ⟨(some 34), (some (31, false)), (.mov (.s 2))⟩, ⟨(some 35), (some (31, false)), (.bin .gtr (.s 33) (.s 34))⟩, ⟨(some 36), (some (27, true)), (.pick (.s 31) (.c (.bool true)) (.s 35))⟩, ⟨(some 37), (some (27, true)), (.mov (.s 36))⟩, ⟨(some 38), (some (37, false)), (.fadr 3 (.s 4))⟩, ⟨(some 39), (some (37, false)), (.load false 1 (.s 38))⟩, ⟨(some 40), (some (37, false)), (.mov (.s 3))⟩, ⟨(some 41), (some (37, false)), (.bin .gtr (.s 39) (.s 40))⟩, ⟨(some 42), (some (27, true)), (.pick (.s 37) (.c (.bool true)) (.s 41))⟩, ⟨(some 43), none, (.pick (.s 27) (.s 42) (.c (.bool false)))⟩]) (.cond (.s 43) (.seq (.reg [⟨(some 8), none, (.mov (.c (.int (-1))))⟩]) .ret) .skip)) (.seq (.reg [⟨(some 44), none, (.mov (.s 3))⟩, ⟨(some 9), none, (.mov (.s 44))⟩]) (.seq (.seq (.reg [⟨(some 45), none, (.fadr 0 (.s 4))⟩, ⟨(some 46), none, (.load false 1 (.s 45))⟩, ⟨(some 47), none, (.bin .eql (.s 46) (.c (.int 3)))⟩]) (.cond (.s 47) (.reg [⟨(some 48), none, (.mov (.s 2))⟩, ⟨(some 9), none, (.mov (.s 48))⟩]) .skip)) (.seq (.seq (.reg [⟨(some 49), none, (.load true 8 (.s 4))⟩, ⟨(some 50), none, (.call 175 [(.s 49)])⟩, ⟨(some 51), none, (.mov (.s 50))⟩, ⟨(some 52), (some (51, true)), (.fadr 4 (.s 4))⟩, ⟨(some 53), (some (51, true)), (.load false 1 (.s 52))⟩, ⟨(some 54), (some (51, true)), (.mov (.s 9))⟩, ⟨(some 55), (some (51, true)), (.call 144 [(.s 53), (.s 54)])⟩, ⟨(some 56), (some (51, true)), (.un .not (.s 55))⟩, ⟨(some 57), none, (.pick (.s 51) (.s 56) (.c (.bool false)))⟩]) (.cond (.s 57) (.seq (.reg [⟨(some 8), none, (.mov (.c (.int (-1))))⟩]) .ret) .skip)) (.seq (.seq (.reg [⟨(some 10), none, (.mov (.c (.int 0)))⟩]) (.block 0 (.loop (.seq (.seq (.reg [⟨(some 58), none, (.mov (.s 10))⟩, ⟨(some 59), none, (.fadr 5 (.s 4))⟩, ⟨(some 60), none, (.load false 1 (.s 59))⟩, ⟨(some 61), none, (.lenl (.s 60))⟩, ⟨(some 62), none, (.bin .lss (.s 58) (.s 61))⟩]) (.cond (.s 62) .skip (.exit 0))) (.seq (.block 1 (.seq (.reg [⟨(some 65), none, (.fadr 5 (.s 4))⟩, ⟨(some 66), none, (.load false 1 (.s 65))⟩, ⟨(some 67), none, (.mov (.s 10))⟩, ⟨(some 68), none, (.iadr none 1 (.s 66) (.s 67))⟩, ⟨(some 69), none, (.load false 1 (.s 68))⟩, ⟨(some 70), none, (.mov (.s 2))⟩, ⟨(some 71), none, (.call 144 [(.s 69), (.s 70)])⟩, ⟨(some 72), none, (.un .not (.s 71))⟩]) (.cond (.s 72) (.seq (.reg [⟨(some 8), none, (.mov (.c (.int (-1))))⟩]) .ret) .skip))) (.reg [⟨(some 63), none, (.mov (.s 10))⟩, ⟨(some 64), none, (.bin .add (.s 63) (.c (.int 1)))⟩, ⟨(some 10), none, (.mov (.s 64))⟩])))))) (.seq (.seq (.reg [⟨(some 73), none, (.fadr 0 (.s 4))⟩, ⟨(some 74), none, (.load false 1 (.s 73))⟩, ⟨(some 75), none, (.bin .eql (.s 74) (.c (.int 4)))⟩]) (.cond (.s 75) (.seq (.reg [⟨(some 76), none, (.fadr 5 (.s 4))⟩, ⟨(some 77), none, (.load false 1 (.s 76))⟩, ⟨(some 78), none, (.lenl (.s 77))⟩, ⟨(some 8), none, (.mov (.s 78))⟩]) .ret) .skip)) (.seq (.seq (.reg [⟨(some 79), none, (.fadr 0 (.s 4))⟩, ⟨(some 80), none, (.load false 1 (.s 79))⟩, ⟨(some 81), none, (.bin .eql (.s 80) (.c (.int 5)))⟩]) (.cond (.s 81) (.seq (.reg [⟨(some 82), none, (.mov (.s 2))⟩, ⟨(some 83), none, (.mov (.s 3))⟩, ⟨(some 84), none, (.bin .add (.s 82) (.s 83))⟩, ⟨(some 85), none, (.fadr 3 (.s 4))⟩, ⟨(some 86), none, (.load false 1 (.s 85))⟩, ⟨(some 87), none, (.bin .sub (.s 84) (.s 86))⟩, ⟨(some 8), none, (.mov (.s 87))⟩]) .ret) .skip)) (.seq (.seq (.reg [⟨(some 88), none, (.fadr 0 (.s 4))⟩, ⟨(some 89), none, (.load false 1 (.s 88))⟩, ⟨(some 90), none, (.bin .eql (.s 89) (.c (.int 6)))⟩, ⟨(some 91), none, (.mov (.s 90))⟩, ⟨(some 92), (some (91, false)), (.fadr 0 (.s 4))⟩, ⟨(some 93), (some (91, false)), (.load false 1 (.s 92))⟩, ⟨(some 94), (some (91, false)), (.bin .eql (.s 93) (.c (.int 7)))⟩, ⟨(some 95), none, (.pick (.s 91) (.c (.bool true)) (.s 94))⟩]) (.cond (.s 95) (.seq (.reg [⟨(some 96), none, (.mov (.s 2))⟩, ⟨(some 97), none, (.bin .add (.s 96) (.c (.int 1)))⟩, ⟨(some 8), none, (.mov (.s 97))⟩]) .ret) .skip)) (.seq (.seq (.reg [⟨(some 98), none, (.fadr 0 (.s 4))⟩, ⟨(some 99), none, (.load false 1 (.s 98))⟩, ⟨(some 100), none, (.bin .eql (.s 99) (.c (.int 9)))⟩, ⟨(some 101), none, (.mov (.s 100))⟩, ⟨(some 102), (some (101, true)), (.mov (.s 2))⟩, ⟨(some 103), (some (101, true)), (.mov (.s 3))⟩, ⟨(some 104), (some (101, true)), (.bin .neq (.s 102) (.s 103))⟩, ⟨(some 105), none, (.pick (.s 101) (.s 104) (.c (.bool false)))⟩]) (.cond (.s 105) (.seq (.reg [⟨(some 8), none, (.mov (.c (.int (-1))))⟩]) .ret) .skip)) (.seq (.reg [⟨(some 106), none, (.mov (.s 2))⟩, ⟨(some 8), none, (.mov (.s 106))⟩]) .ret)))))))))))))⟩
theorem p132 : prepF Try.prog 132 = some c132 := by kernel_rfl
def c133 : F := ⟨31, [(.cell 2 true 8)], (.seq (.reg [⟨(some 1), none, (.box (.s 0))⟩, ⟨(some 2), none, (.alloc [(.int 0), (.int 0), (.int 0), (.int 0), (.e (.sl [])), (.e (.sl [])), (.int 0), (.int 0)])⟩]) (.seq (.reg [⟨(some 3), none, (.alloc [(.int 0), (.int 0), (.int 0), (.int 0), (.e (.sl [])), (.e (.sl [])), (.int 0), (.int 0)])⟩]) (.seq (.reg [⟨(some 4), none, (.fadr 0 (.s 1))⟩, ⟨(some 5), none, (.load false 1 (.s 4))⟩, ⟨(some 6), none, (.fadr 0 (.s 3))⟩, ⟨none, none, (.store false 1 (.s 6) (.s 5))⟩]) (.seq (.reg [⟨(some 7), none, (.fadr 1 (.s 1))⟩, ⟨(some 8), none, (.load false 1 (.s 7))⟩, ⟨(some 9), none, (.fadr 1 (.s 3))⟩, ⟨none, none, (.store false 1 (.s 9) (.s 8))⟩]) (.seq (.reg [⟨(some 10), none, (.fadr 2 (.s 1))⟩, ⟨(some 11), none, (.load false 1 (.s 10))⟩, ⟨(some 12), none, (.fadr 2 (.s 3))⟩, ⟨none, none, (.store false 1 (.s 12) (.s 11))⟩]) (.seq (.reg [⟨(some 13), none, (.fadr 3 (.s 1))⟩, ⟨(some 14), none, (.load false 1 (.s 13))⟩, ⟨(some 15), none, (.fadr 3 (.s 3))⟩, ⟨none, none, (.store false 1 (.s 15) (.s 14))⟩]) (.seq (.reg [⟨(some 16), none, (.fadr 4 (.s 1))⟩, ⟨(some 17), none, (.load false 1 (.s 16))⟩, ⟨(some 18), none, (.call 176 [(.s 17)])⟩, ⟨(some 19), none, (.fadr 4 (.s 3))⟩, ⟨none, none, (.store false 1 (.s 19) (.s 18))⟩]) (.seq (.reg [⟨(some 20), none, (.fadr 5 (.s 1))⟩, ⟨(some 21), none, (.load false 1 (.s 20))⟩, ⟨(some 22), none, (.call 177 [(.s 21)])⟩, ⟨(some 23), none, (.fadr 5 (.s 3))⟩, ⟨none, none, (.store false 1 (.s 23) (.s 22))⟩]) (.seq (.reg [⟨(some 24), none, (.fadr 6 (.s 1))⟩, ⟨(some 25), none, (.load false 1 (.s 24))⟩, ⟨(some 26), none, (.fadr 6 (.s 3))⟩, ⟨none, none, (.store false 1 (.s 26) (.s 25))⟩]) (.seq (.reg [⟨(some 27), none, (.fadr 7 (.s 1))⟩, ⟨(some 28), none, (.load false 1 (.s 27))⟩, ⟨(some 29), none, (.fadr 7 (.s 3))⟩, ⟨none, none, (.store false 1 (.s 29) (.s 28))⟩]) (.seq (.reg [⟨(some 30), none, (.load true 8 (.s 3))⟩, ⟨none, none, (.store true 8 (.s 2) (.s 30))⟩]) .ret)))))))))))⟩
theorem p133 : prepF Try.prog 133 = some c133 := by kernel_rfl
def c136 : F := ⟨94, [(.tmp 4)], (.seq (.reg [⟨(some 2), none, (.box (.s 0))⟩, ⟨(some 3), none, (.box (.s 1))⟩, ⟨(some 4), none, (.mov (.c (.bool false)))⟩]) (.seq (.seq (.reg [⟨(some 6), none, (.fadr 0 (.s 2))⟩, ⟨(some 7), none, (.load false 1 (.s 6))⟩, ⟨(some 8), none, (.bin .lss (.s 7) (.c (.int 1)))⟩, ⟨(some 9), none, (.mov (.s 8))⟩, ⟨(some 10), (some (9, false)), (.fadr 0 (.s 2))⟩, ⟨(some 11), (some (9, false)), (.load false 1 (.s 10))⟩, ⟨(some 12), (some (9, false)), (.bin .gtr (.s 11) (.c (.int 11)))⟩, ⟨(some 13), none, (.pick (.s 9) (.c (.bool true)) (.s 12))⟩]) (.cond (.s 13) (.seq (.reg [⟨(some 4), none, (.mov (.c (.bool false)))⟩]) .ret) .skip)) (.seq (.reg [⟨(some 14), none, (.mkf (.func 178) [] [(.s 3)])⟩, ⟨(some 5), none, (.mov (.s 14))⟩]) (.seq (.seq (.dreg [⟨⟨(some 15), none, (.mov (.s 5))⟩, [], [5]⟩, ⟨⟨(some 16), none, (.fadr 0 (.s 2))⟩, [0], [2]⟩, ⟨⟨(some 17), none, (.load false 1 (.s 16))⟩, [0], [16]⟩, ⟨⟨(some 18), none, (.call 96 [(.s 17)])⟩, [0], [17]⟩, ⟨⟨(some 19), none, (.fadr 6 (.s 2))⟩, [0, 1, 2, 3], [2]⟩, ⟨⟨(some 20), none, (.load false 1 (.s 19))⟩, [0, 1, 2, 3], [19]⟩, ⟨⟨(some 21), none, (.callv (.s 15) [(.s 18), (.s 20)])⟩, [], [15, 18, 20]⟩, ⟨⟨(some 22), none, (.un .not (.s 21))⟩, [], [21]⟩, ⟨⟨(some 23), none, (.mov (.s 22))⟩, [], [22]⟩, ⟨⟨(some 24), (some (23, false)), (.mov (.s 5))⟩, [], [5, 23]⟩, ⟨⟨(some 25), (some (23, false)), (.fadr 0 (.s 2))⟩, [9], [2, 23]⟩, ⟨⟨(some 26), (some (23, false)), (.load false 1 (.s 25))⟩, [9], [25, 23]⟩, ⟨⟨(some 27), (some (23, false)), (.call 97 [(.s 26)])⟩, [9], [26, 23]⟩, ⟨⟨(some 28), (some (23, false)), (.fadr 7 (.s 2))⟩, [9, 10, 11, 12], [2, 23]⟩, ⟨⟨(some 29), (some (23, false)), (.load false 1 (.s 28))⟩, [9, 10, 11, 12], [28, 23]⟩, ⟨⟨(some 30), (some (23, false)), (.callv (.s 24) [(.s 27), (.s 29)])⟩, [], [24, 27, 29, 23]⟩, ⟨⟨(some 31), (some (23, false)), (.un .not (.s 30))⟩, [], [30, 23]⟩, ⟨⟨(some 32), none, (.pick (.s 23) (.c (.bool true)) (.s 31))⟩, [], [23, 31]⟩]) (.cond (.s 32) (.seq (.reg [⟨(some 4), none, (.mov (.c (.bool false)))⟩]) .ret) .skip)) (.seq (.seq (.reg [⟨(some 33), none, (.fadr 0 (.s 2))⟩, ⟨(some 34), none, (.load false 1 (.s 33))⟩, ⟨(some 35), none, (.bin .neq (.s 34) (.c (.int 2)))⟩, ⟨(some 36), none, (.mov (.s 35))⟩, ⟨(some 37), (some (36, true)), (.fadr 1 (.s 2))⟩, ⟨(some 38), (some (36, true)), (.load false 1 (.s 37))⟩, ⟨(some 39), (some (36, true)), (.bin .neq (.s 38) (.c (.int 0)))⟩, ⟨(some 40), none, (.pick (.s 36) (.s 39) (.c (.bool false)))⟩, ⟨(some 41), none, (.mov (.s 40))⟩, ⟨(some 42), (some (41, false)), (.fadr 0 (.s 2))⟩, ⟨(some 43), (some (41, false)), (.load false 1 (.s 42))⟩, ⟨(some 44), (some (41, false)), (.bin .neq (.s 43) (.c (.int 7)))⟩, ⟨(some 45), (some (41, false)), (.mov (.s 44))⟩, ⟨(some 46), (some (45, true)), (.fadr 2 (.s 2))⟩, ⟨(some 47), (some (45, true)), (.load false 1 (.s 46))⟩, ⟨(some 48), (some (45, true)), (.bin .neq (.s 47) (.c (.int 0)))⟩, ⟨(some 49), (some (41, false)), (.pick (.s 45) (.s 48) (.c (.bool false)))⟩, ⟨(some 50), none, (.pick (.s 41) (.c (.bool true)) (.s 49))⟩, ⟨(some 51), none, (.mov (.s 50))⟩, ⟨(some 52), (some (51, false)), (.fadr 0 (.s 2))⟩, ⟨(some 53), (some (51, false)), (.load false 1 (.s 52))⟩, ⟨(some 54), (some (51, false)), (.call 179 [(.s 53)])⟩, ⟨(some 55), (some (51, false)), (.un .not (.s 54))⟩, ⟨(some 56), (some (51, false)), (.mov (.s 55))⟩, ⟨(some 57), (some (56, true)), (.fadr 3 (.s 2))⟩, ⟨(some 58), (some (56, true)), (.load false 1 (.s 57))⟩, ⟨(some 59), (some (56, true)), (.bin .neq (.s 58) (.c (.int 0)))⟩, ⟨(some 60), (some (51, false)), (.pick (.s 56) (.s 59) (.c (.bool false)))⟩, ⟨(some 61), none, (.pick (.s 51) (.c (.bool true)) (.s 60))⟩]) (.cond (.s 61) (.seq (.reg [⟨(some 4), none, (.mov (.c (.bool false)))⟩]) .ret) .skip)) (.seq (.seq (.reg [⟨(some 62), none, (.fadr 0 (.s 2))⟩, ⟨(some 63), none, (.load false 1 (.s 62))⟩, ⟨(some 64), none, (.bin .eql (.s 63) (.c (.int 7)))⟩, ⟨(some 65), none, (.mov (.s 64))⟩, ⟨(some 66), (some (65, true)), (.fadr 2 (.s 2))⟩, ⟨(some 67), (some (65, true)), (.load false 1 (.s 66))⟩, ⟨(some 68), (some (65, true)), (.bin .lss (.s 67) (.c (.int 1)))⟩, ⟨(some 69), (some (65, true)), (.mov (.s 68))⟩, ⟨(some 70), (some (69, false)), (.fadr 2 (.s 2))⟩, ⟨(some 71), (some (69, false)), (.load false 1 (.s 70))⟩, ⟨(some 72), (some (69, false)), (.bin .gtr (.s 71) (.c (.int 4)))⟩, ⟨(some 73), (some (65, true)), (.pick (.s 69) (.c (.bool true)) (.s 72))⟩, ⟨(some 74), none, (.pick (.s 65) (.s 73) (.c (.bool false)))⟩]) (.cond (.s 74) (.seq (.reg [⟨(some 4), none, (.mov (.c (.bool false)))⟩]) .ret) .skip)) (.seq (.reg [⟨(some 75), none, (.load true 8 (.s 2))⟩, ⟨(some 76), none, (.call 180 [(.s 75)])⟩, ⟨(some 77), none, (.mov (.s 76))⟩, ⟨(some 78), (some (77, false)), (.fadr 4 (.s 2))⟩, ⟨(some 79), (some (77, false)), (.load false 1 (.s 78))⟩, ⟨(some 80), (some (77, false)), (.lenl (.s 79))⟩, ⟨(some 81), (some (77, false)), (.bin .eql (.s 80) (.c (.int 0)))⟩, ⟨(some 82), none, (.pick (.s 77) (.c (.bool true)) (.s 81))⟩, ⟨(some 83), none, (.mov (.s 82))⟩, ⟨(some 84), (some (83, true)), (.fadr 0 (.s 2))⟩, ⟨(some 85), (some (83, true)), (.load false 1 (.s 84))⟩, ⟨(some 86), (some (83, true)), (.bin .eql (.s 85) (.c (.int 4)))⟩, ⟨(some 87), (some (83, true)), (.mov (.s 86))⟩, ⟨(some 88), (some (87, false)), (.fadr 5 (.s 2))⟩, ⟨(some 89), (some (87, false)), (.load false 1 (.s 88))⟩, ⟨(some 90), (some (87, false)), (.lenl (.s 89))⟩, ⟨(some 91), (some (87, false)), (.bin .eql (.s 90) (.c (.int 0)))⟩, ⟨(some 92), (some (83, true)), (.pick (.s 87) (.c (.bool true)) (.s 91))⟩, ⟨(some 93), none, (.pick (.s 83) (.s 92) (.c (.bool false)))⟩, ⟨(some 4), none, (.mov (.s 93))⟩]) .ret)))))))⟩
theorem p136 : prepF Try.prog 136 = some c136 := by kernel_rfl
def c137 : F := ⟨108, [(.tmp 6)], (.seq (.reg [⟨(some 3), none, (.box (.s 0))⟩, ⟨(some 4), none, (.box (.s 1))⟩, ⟨(some 6), none, (.mov (.c (.int 0)))⟩]) (.seq (.reg [⟨(some 7), none, (.alloc [(.int 0)])⟩, ⟨none, none, (.store false 1 (.s 7) (.c (.int 0)))⟩, ⟨(some 8), none, (.mov (.c (.int 0)))⟩]) (.seq (.seq (.reg [⟨(some 11), none, (.fadr 0 (.s 3))⟩, ⟨(some 12), none, (.load false 1 (.s 11))⟩, ⟨(some 13), none, (.call 96 [(.s 12)])⟩]) (.cond (.s 13) (.reg [⟨(some 14), none, (.mov (.s 2))⟩, ⟨(some 15), none, (.fadr 6 (.s 3))⟩, ⟨(some 16), none, (.load false 1 (.s 15))⟩, ⟨(some 17), none, (.iadr none 1 (.s 14) (.s 16))⟩, ⟨(some 18), none, (.load false 1 (.s 17))⟩, ⟨none, none, (.store false 1 (.s 7) (.s 18))⟩]) .skip)) (.seq (.seq (.reg [⟨(some 19), none, (.fadr 0 (.s 3))⟩, ⟨(some 20), none, (.load false 1 (.s 19))⟩, ⟨(some 21), none, (.call 97 [(.s 20)])⟩]) (.cond (.s 21) (.reg [⟨(some 22), none, (.mov (.s 2))⟩, ⟨(some 23), none, (.fadr 7 (.s 3))⟩, ⟨(some 24), none, (.load false 1 (.s 23))⟩, ⟨(some 25), none, (.iadr none 1 (.s 22) (.s 24))⟩, ⟨(some 26), none, (.load false 1 (.s 25))⟩, ⟨(some 8), none, (.mov (.s 26))⟩]) .skip)) (.seq (.seq (.reg [⟨(some 27), none, (.fadr 0 (.s 3))⟩, ⟨(some 28), none, (.load false 1 (.s 27))⟩, ⟨(some 29), none, (.call 179 [(.s 28)])⟩, ⟨(some 30), none, (.mov (.s 29))⟩, ⟨(some 31), (some (30, true)), (.fadr 3 (.s 3))⟩, ⟨(some 32), (some (30, true)), (.load false 1 (.s 31))⟩, ⟨(some 33), (some (30, true)), (.bin .lss (.s 32) (.c (.int 0)))⟩, ⟨(some 34), (some (30, true)), (.mov (.s 33))⟩, ⟨(some 35), (some (34, false)), (.fadr 3 (.s 3))⟩, ⟨(some 36), (some (34, false)), (.load false 1 (.s 35))⟩, ⟨(some 37), (some (34, false)), (.load false 1 (.s 7))⟩, ⟨(some 38), (some (34, false)), (.mov (.s 8))⟩, ⟨(some 39), (some (34, false)), (.mn (.s 37) (.s 38))⟩, ⟨(some 40), (some (34, false)), (.bin .gtr (.s 36) (.s 39))⟩, ⟨(some 41), (some (30, true)), (.pick (.s 34) (.c (.bool true)) (.s 40))⟩, ⟨(some 42), none, (.pick (.s 30) (.s 41) (.c (.bool false)))⟩]) (.cond (.s 42) (.seq (.reg [⟨(some 6), none, (.mov (.c (.int (-1))))⟩]) .ret) .skip)) (.seq (.seq (.reg [⟨(some 43), none, (.load true 8 (.s 3))⟩, ⟨(some 44), none, (.call 180 [(.s 43)])⟩]) (.cond (.s 44) (.seq (.reg [⟨(some 45), none, (.mov (.s 8))⟩, ⟨(some 9), none, (.mov (.s 45))⟩]) (.seq (.seq (.reg [⟨(some 46), none, (.fadr 0 (.s 3))⟩, ⟨(some 47), none, (.load false 1 (.s 46))⟩, ⟨(some 48), none, (.bin .eql (.s 47) (.c (.int 3)))⟩]) (.cond (.s 48) (.reg [⟨(some 49), none, (.load false 1 (.s 7))⟩, ⟨(some 9), none, (.mov (.s 49))⟩]) .skip)) (.seq (.reg [⟨(some 50), none, (.fadr 4 (.s 3))⟩, ⟨(some 51), none, (.load false 1 (.s 50))⟩, ⟨(some 52), none, (.mov (.s 9))⟩, ⟨(some 53), none, (.call 181 [(.s 51), (.s 52)])⟩, ⟨(some 54), none, (.un .not (.s 53))⟩]) (.cond (.s 54) (.seq (.reg [⟨(some 6), none, (.mov (.c (.int (-1))))⟩]) .ret) .skip)))) .skip)) (.seq (.reg [⟨(some 55), none, (.load false 1 (.s 7))⟩, ⟨(some 10), none, (.mov (.s 55))⟩]) (.seq (.seq (.reg [⟨(some 56), none, (.fadr 0 (.s 3))⟩, ⟨(some 57), none, (.load false 1 (.s 56))⟩]) (.block 0 (.seq (.reg [⟨(some 59), none, (.bin .eql (.s 57) (.c (.int 2)))⟩, ⟨(some 58), none, (.mov (.s 59))⟩]) (.cond (.s 58) (.seq (.seq (.reg [⟨(some 60), none, (.fadr 1 (.s 3))⟩, ⟨(some 61), none, (.load false 1 (.s 60))⟩, ⟨(some 62), none, (.bin .lss (.s 61) (.c (.int 0)))⟩, ⟨(some 63), none, (.mov (.s 62))⟩, ⟨(some 64), (some (63, false)), (.fadr 1 (.s 3))⟩, ⟨(some 65), (some (63, false)), (.load false 1 (.s 64))⟩, ⟨(some 66), (some (63, false)), (.fadr 0 (.s 4))⟩, ⟨(some 67), (some (63, false)), (.load false 1 (.s 66))⟩, ⟨(some 68), (some (63, false)), (.lenl (.s 67))⟩, ⟨(some 69), (some (63, false)), (.bin .geq (.s 65) (.s 68))⟩, ⟨(some 70), none, (.pick (.s 63) (.c (.bool true)) (.s 69))⟩]) (.cond (.s 70) (.seq (.reg [⟨(some 6), none, (.mov (.c (.int (-1))))⟩]) .ret) .skip)) (.reg [⟨(some 71), none, (.fadr 0 (.s 4))⟩, ⟨(some 72), none, (.load false 1 (.s 71))⟩, ⟨(some 73), none, (.fadr 1 (.s 3))⟩, ⟨(some 74), none, (.load false 1 (.s 73))⟩, ⟨(some 75), none, (.iadr none 3 (.s 72) (.s 74))⟩, ⟨(some 76), none, (.fadr 1 (.s 75))⟩, ⟨(some 77), none, (.load false 1 (.s 76))⟩, ⟨(some 10), none, (.mov (.s 77))⟩])) (.seq (.reg [⟨(some 79), none, (.bin .eql (.s 57) (.c (.int 4)))⟩, ⟨(some 78), none, (.mov (.s 79))⟩]) (.cond (.s 78) (.seq (.seq (.reg [⟨(some 80), none, (.fadr 5 (.s 3))⟩, ⟨(some 81), none, (.load false 1 (.s 80))⟩, ⟨(some 82), none, (.mkf (.func 183) [] [(.s 7)])⟩, ⟨(some 83), none, (.call 182 [(.s 81), (.s 82)])⟩]) (.cond (.s 83) (.seq (.reg [⟨(some 6), none, (.mov (.c (.int (-1))))⟩]) .ret) .skip)) (.reg [⟨(some 84), none, (.fadr 5 (.s 3))⟩, ⟨(some 85), none, (.load false 1 (.s 84))⟩, ⟨(some 86), none, (.lenl (.s 85))⟩, ⟨(some 10), none, (.mov (.s 86))⟩])) (.seq (.reg [⟨(some 88), none, (.bin .eql (.s 57) (.c (.int 5)))⟩, ⟨(some 87), none, (.mov (.s 88))⟩]) (.cond (.s 87) (.reg [⟨(some 89), none, (.load false 1 (.s 7))⟩, ⟨(some 90), none, (.mov (.s 8))⟩, ⟨(some 91), none, (.bin .add (.s 89) (.s 90))⟩, ⟨(some 92), none, (.fadr 3 (.s 3))⟩, ⟨(some 93), none, (.load false 1 (.s 92))⟩, ⟨(some 94), none, (.bin .sub (.s 91) (.s 93))⟩, ⟨(some 10), none, (.mov (.s 94))⟩]) (.seq (.seq (.reg [⟨(some 96), none, (.bin .eql (.s 57) (.c (.int 6)))⟩, ⟨(some 95), none, (.mov (.s 96))⟩]) (.cond (.s 95) .skip (.reg [⟨(some 97), none, (.bin .eql (.s 57) (.c (.int 7)))⟩, ⟨(some 95), none, (.mov (.s 97))⟩]))) (.cond (.s 95) (.reg [⟨(some 98), none, (.load false 1 (.s 7))⟩, ⟨(some 99), none, (.bin .add (.s 98) (.c (.int 1)))⟩, ⟨(some 10), none, (.mov (.s 99))⟩]) (.seq (.reg [⟨(some 101), none, (.bin .eql (.s 57) (.c (.int 9)))⟩, ⟨(some 100), none, (.mov (.s 101))⟩]) (.cond (.s 100) (.seq (.reg [⟨(some 102), none, (.load false 1 (.s 7))⟩, ⟨(some 103), none, (.mov (.s 8))⟩, ⟨(some 104), none, (.bin .neq (.s 102) (.s 103))⟩]) (.cond (.s 104) (.seq (.reg [⟨(some 6), none, (.mov (.c (.int (-1))))⟩]) .ret) .skip)) .skip)))))))))))) (.seq (.seq (.reg [⟨(some 105), none, (.mov (.s 10))⟩, ⟨(some 106), none, (.bin .gtr (.s 105) (.c (.int 200)))⟩]) (.cond (.s 106) (.seq (.reg [⟨(some 6), none, (.mov (.c (.int (-1))))⟩]) .ret) .skip)) (.seq (.reg [⟨(some 107), none, (.mov (.s 10))⟩, ⟨(some 6), none, (.mov (.s 107))⟩]) .ret))))))))))⟩
theorem p137 : prepF Try.prog 137 = some c137 := by kernel_rfl
def c138 : F := ⟨47, [(.tmp 4)], (.seq (.reg [⟨(some 2), none, (.box (.s 0))⟩, ⟨(some 3), none, (.box (.s 1))⟩, ⟨(some 4), none, (.mov (.c (.bool false)))⟩]) (.seq (.seq (.reg [⟨(some 5), none, (.fadr 0 (.s 2))⟩, ⟨(some 6), none, (.load false 1 (.s 5))⟩, ⟨(some 7), none, (.fadr 0 (.s 3))⟩, ⟨(some 8), none, (.load false 1 (.s 7))⟩, ⟨(some 9), none, (.bin .neq (.s 6) (.s 8))⟩]) (.cond (.s 9) (.seq (.reg [⟨(some 4), none, (.mov (.c (.bool false)))⟩]) .ret) .skip)) (.seq (.seq (.reg [⟨(some 10), none, (.fadr 1 (.s 2))⟩, ⟨(some 11), none, (.load false 1 (.s 10))⟩, ⟨(some 12), none, (.fadr 1 (.s 3))⟩, ⟨(some 13), none, (.load false 1 (.s 12))⟩, ⟨(some 14), none, (.bin .neq (.s 11) (.s 13))⟩]) (.cond (.s 14) (.seq (.reg [⟨(some 4), none, (.mov (.c (.bool false)))⟩]) .ret) .skip)) (.seq (.seq (.reg [⟨(some 15), none, (.fadr 2 (.s 2))⟩, ⟨(some 16), none, (.load false 1 (.s 15))⟩, ⟨(some 17), none, (.fadr 2 (.s 3))⟩, ⟨(some 18), none, (.load false 1 (.s 17))⟩, ⟨(some 19), none, (.bin .neq (.s 16) (.s 18))⟩]) (.cond (.s 19) (.seq (.reg [⟨(some 4), none, (.mov (.c (.bool false)))⟩]) .ret) .skip)) (.seq (.seq (.reg [⟨(some 20), none, (.fadr 3 (.s 2))⟩, ⟨(some 21), none, (.load false 1 (.s 20))⟩, ⟨(some 22), none, (.fadr 3 (.s 3))⟩, ⟨(some 23), none, (.load false 1 (.s 22))⟩, ⟨(some 24), none, (.bin .neq (.s 21) (.s 23))⟩]) (.cond (.s 24) (.seq (.reg [⟨(some 4), none, (.mov (.c (.bool false)))⟩]) .ret) .skip)) (.seq (.seq (.reg [⟨(some 25), none, (.fadr 4 (.s 2))⟩, ⟨(some 26), none, (.load false 1 (.s 25))⟩, ⟨(some 27), none, (.fadr 4 (.s 3))⟩, ⟨(some 28), none, (.load false 1 (.s 27))⟩, ⟨(some 29), none, (.call 184 [(.s 26), (.s 28)])⟩, ⟨(some 30), none, (.un .not (.s 29))⟩]) (.cond (.s 30) (.seq (.reg [⟨(some 4), none, (.mov (.c (.bool false)))⟩]) .ret) .skip)) (.seq (.seq (.reg [⟨(some 31), none, (.fadr 5 (.s 2))⟩, ⟨(some 32), none, (.load false 1 (.s 31))⟩, ⟨(some 33), none, (.fadr 5 (.s 3))⟩, ⟨(some 34), none, (.load false 1 (.s 33))⟩, ⟨(some 35), none, (.call 185 [(.s 32), (.s 34)])⟩, ⟨(some 36), none, (.un .not (.s 35))⟩]) (.cond (.s 36) (.seq (.reg [⟨(some 4), none, (.mov (.c (.bool false)))⟩]) .ret) .skip)) (.seq (.seq (.reg [⟨(some 37), none, (.fadr 6 (.s 2))⟩, ⟨(some 38), none, (.load false 1 (.s 37))⟩, ⟨(some 39), none, (.fadr 6 (.s 3))⟩, ⟨(some 40), none, (.load false 1 (.s 39))⟩, ⟨(some 41), none, (.bin .neq (.s 38) (.s 40))⟩]) (.cond (.s 41) (.seq (.reg [⟨(some 4), none, (.mov (.c (.bool false)))⟩]) .ret) .skip)) (.seq (.seq (.reg [⟨(some 42), none, (.fadr 7 (.s 2))⟩, ⟨(some 43), none, (.load false 1 (.s 42))⟩, ⟨(some 44), none, (.fadr 7 (.s 3))⟩, ⟨(some 45), none, (.load false 1 (.s 44))⟩, ⟨(some 46), none, (.bin .neq (.s 43) (.s 45))⟩]) (.cond (.s 46) (.seq (.reg [⟨(some 4), none, (.mov (.c (.bool false)))⟩]) .ret) .skip)) (.seq (.reg [⟨(some 4), none, (.mov (.c (.bool true)))⟩]) .ret))))))))))⟩
theorem p138 : prepF Try.prog 138 = some c138 := by kernel_rfl
def c173 : F := ⟨27, [(.tmp 4)], (.seq (.reg [⟨(some 4), none, (.mov (.c (.int 0)))⟩]) (.seq (.reg [⟨(some 6), none, (.mov (.s 1))⟩, ⟨(some 7), none, (.mov (.s 0))⟩, ⟨(some 8), none, (.lenl (.s 7))⟩, ⟨(some 9), none, (.bin .sub (.s 6) (.s 8))⟩, ⟨(some 1), none, (.mov (.s 9))⟩]) (.seq (.seq (.reg [⟨(some 10), none, (.mov (.s 1))⟩, ⟨(some 11), none, (.bin .lss (.s 10) (.c (.int 0)))⟩]) (.cond (.s 11) (.seq (.reg [⟨(some 4), none, (.mov (.c (.int (-1))))⟩]) .ret) .skip)) (.seq (.seq (.reg [⟨(some 5), none, (.mov (.c (.int 0)))⟩]) (.block 0 (.loop (.seq (.seq (.reg [⟨(some 12), none, (.mov (.s 5))⟩, ⟨(some 13), none, (.mov (.s 0))⟩, ⟨(some 14), none, (.lenl (.s 13))⟩, ⟨(some 15), none, (.bin .lss (.s 12) (.s 14))⟩]) (.cond (.s 15) .skip (.exit 0))) (.seq (.block 1 (.seq (.reg [⟨(some 18), none, (.mov (.s 0))⟩, ⟨(some 19), none, (.mov (.s 5))⟩, ⟨(some 20), none, (.iadr none 1 (.s 18) (.s 19))⟩, ⟨(some 21), none, (.load false 1 (.s 20))⟩, ⟨(some 22), none, (.mov (.s 1))⟩, ⟨(some 23), none, (.call 172 [(.s 21), (.s 22)])⟩, ⟨(some 1), none, (.mov (.s 23))⟩]) (.seq (.reg [⟨(some 24), none, (.mov (.s 1))⟩, ⟨(some 25), none, (.bin .lss (.s 24) (.c (.int 0)))⟩]) (.cond (.s 25) (.seq (.reg [⟨(some 4), none, (.mov (.c (.int (-1))))⟩]) .ret) .skip)))) (.reg [⟨(some 16), none, (.mov (.s 5))⟩, ⟨(some 17), none, (.bin .add (.s 16) (.c (.int 1)))⟩, ⟨(some 5), none, (.mov (.s 17))⟩])))))) (.seq (.reg [⟨(some 26), none, (.mov (.s 1))⟩, ⟨(some 4), none, (.mov (.s 26))⟩]) .ret)))))⟩
theorem p173 : prepF Try.prog 173 = some c173 := by kernel_rfl
def c174 : F := ⟨9, [(.tmp 2)], (.seq (.reg [⟨(some 2), none, (.mov (.c (.bool false)))⟩]) (.seq (.reg [⟨(some 3), none, (.mov (.s 0))⟩, ⟨(some 4), none, (.call 131 [(.s 3)])⟩, ⟨(some 5), none, (.mov (.s 4))⟩, ⟨(some 6), (some (5, true)), (.mov (.s 0))⟩, ⟨(some 7), (some (5, true)), (.bin .neq (.s 6) (.c (.int 9)))⟩, ⟨(some 8), none, (.pick (.s 5) (.s 7) (.c (.bool false)))⟩, ⟨(some 2), none, (.mov (.s 8))⟩]) .ret))⟩
theorem p174 : prepF Try.prog 174 = some c174 := by kernel_rfl
def c175 : F := ⟨31, [(.tmp 2)], (.seq (.reg [⟨(some 1), none, (.box (.s 0))⟩, ⟨(some 2), none, (.mov (.c (.bool false)))⟩]) (.seq (.reg [⟨(some 3), none, (.fadr 0 (.s 1))⟩, ⟨(some 4), none, (.load false 1 (.s 3))⟩, ⟨(some 5), none, (.bin .eql (.s 4) (.c (.int 3)))⟩, ⟨(some 6), none, (.mov (.s 5))⟩, ⟨(some 7), (some (6, false)), (.fadr 0 (.s 1))⟩, ⟨(some 8), (some (6, false)), (.load false 1 (.s 7))⟩, ⟨(some 9), (some (6, false)), (.bin .eql (.s 8) (.c (.int 6)))⟩, ⟨(some 10), none, (.pick (.s 6) (.c (.bool true)) (.s 9))⟩, ⟨(some 11), none, (.mov (.s 10))⟩, ⟨(some 12), (some (11, false)), (.fadr 0 (.s 1))⟩, ⟨(some 13), (some (11, false)), (.load false 1 (.s 12))⟩, ⟨(some 14), (some (11, false)), (.bin .eql (.s 13) (.c (.int 10)))⟩, ⟨(some 15), none, (.pick (.s 11) (.c (.bool true)) (.s 14))⟩, ⟨(some 16), none, (.mov (.s 15))⟩, ⟨(some 17), (some (16, false)), (.fadr 0 (.s 1))⟩, ⟨(some 18), (some (16, false)), (.load false 1 (.s 17))⟩, ⟨(some 19), (some (16, false)), (.bin .eql (.s 18) (.c (.int 11)))⟩, ⟨(some 20), none, (.pick (.s 16) (.c (.bool true)) (.s 19))⟩, ⟨(some 21), none, (.mov (.s 20))⟩, ⟨(some 22), (some (21, false)), (.fadr 0 (.s 1))⟩, ⟨(some 23), (some (21, false)), (.load false 1 (.s 22))⟩, ⟨(some 24), (some (21, false)), (.bin .eql (.s 23) (.c (.int 7)))⟩, ⟨(some 25), (some (21, false)), (.mov (.s 24))⟩, ⟨(some 26), (some (25, true)), (.fadr 2 (.s 1))⟩, ⟨(some 27), (some (25, true)), (.load false 1 (.s 26))⟩, ⟨(some 28), (some (25, true)), (.bin .neq (.s 27) (.c (.int 1)))⟩, ⟨(some 29), (some (21, false)), (.pick (.s 25) (.s 28) (.c (.bool false)))⟩, ⟨(some 30), none, (.pick (.s 21) (.c (.bool true)) (.s 29))⟩, ⟨(some 2), none, (.mov (.s 30))⟩]) .ret))⟩
theorem p175 : prepF Try.prog 175 = some c175 := by kernel_rfl
def c177 : F := ⟨23, [(.tmp 2)], (.seq (.reg [⟨(some 2), none, (.mov (.c .zs))⟩]) (.seq (.reg [⟨(some 5), none, (.mov (.s 0))⟩, ⟨(some 6), none, (.lenl (.s 5))⟩, ⟨(some 7), none, (.mks [(.e (.sl []))] (.s 6))⟩, ⟨(some 3), none, (.mov (.s 7))⟩]) (.seq (.seq (.reg [⟨(some 4), none, (.mov (.c (.int 0)))⟩]) (.block 0 (.loop (.seq (.seq (.reg [⟨(some 8), none, (.mov (.s 4))⟩, ⟨(some 9), none, (.mov (.s 0))⟩, ⟨(some 10), none, (.lenl (.s 9))⟩, ⟨(some 11), none, (.bin .lss (.s 8) (.s 10))⟩]) (.cond (.s 11) .skip (.exit 0))) (.seq (.block 1 (.reg [⟨(some 14), none, (.mov (.s 3))⟩, ⟨(some 15), none, (.mov (.s 4))⟩, ⟨(some 16), none, (.mov (.s 0))⟩, ⟨(some 17), none, (.mov (.s 4))⟩, ⟨(some 18), none, (.iadr none 1 (.s 16) (.s 17))⟩, ⟨(some 19), none, (.load false 1 (.s 18))⟩, ⟨(some 20), none, (.call 176 [(.s 19)])⟩, ⟨(some 21), none, (.iadr none 1 (.s 14) (.s 15))⟩, ⟨none, none, (.store false 1 (.s 21) (.s 20))⟩])) (.reg [⟨(some 12), none, (.mov (.s 4))⟩, ⟨(some 13), none, (.bin .add (.s 12) (.c (.int 1)))⟩, ⟨(some 4), none, (.mov (.s 13))⟩])))))) (.seq (.reg [⟨(some 22), none, (.mov (.s 3))⟩, ⟨(some 2), none, (.mov (.s 22))⟩]) .ret))))⟩
theorem p177 : prepF Try.prog 177 = some c177 := by kernel_rfl
def c178 : F := ⟨24, [(.tmp 5)], (.seq (.reg [⟨(some 5), none, (.mov (.c (.bool false)))⟩]) (.seq (.reg [⟨(some 6), none, (.mov (.s 0))⟩, ⟨(some 7), none, (.mov (.s 6))⟩, ⟨(some 8), (some (7, true)), (.mov (.s 1))⟩, ⟨(some 9), (some (7, true)), (.bin .geq (.s 8) (.c (.int 0)))⟩, ⟨(some 10), none, (.pick (.s 7) (.s 9) (.c (.bool false)))⟩, ⟨(some 11), none, (.mov (.s 10))⟩, ⟨(some 12), (some (11, true)), (.mov (.s 1))⟩, ⟨(some 13), (some (11, true)), (.load false 1 (.s 2))⟩, ⟨(some 14), (some (11, true)), (.bin .lss (.s 12) (.s 13))⟩, ⟨(some 15), none, (.pick (.s 11) (.s 14) (.c (.bool false)))⟩, ⟨(some 16), none, (.mov (.s 15))⟩, ⟨(some 17), (some (16, false)), (.mov (.s 0))⟩, ⟨(some 18), (some (16, false)), (.un .not (.s 17))⟩, ⟨(some 19), (some (16, false)), (.mov (.s 18))⟩, ⟨(some 20), (some (19, true)), (.mov (.s 1))⟩, ⟨(some 21), (some (19, true)), (.bin .eql (.s 20) (.c (.int 0)))⟩, ⟨(some 22), (some (16, false)), (.pick (.s 19) (.s 21) (.c (.bool false)))⟩, ⟨(some 23), none, (.pick (.s 16) (.c (.bool true)) (.s 22))⟩, ⟨(some 5), none, (.mov (.s 23))⟩]) .ret))⟩
theorem p178 : prepF Try.prog 178 = some c178 := by kernel_rfl
def c179 : F := ⟨17, [(.tmp 2)], (.seq (.reg [⟨(some 2), none, (.mov (.c (.bool false)))⟩]) (.seq (.reg [⟨(some 3), none, (.mov (.s 0))⟩, ⟨(some 4), none, (.bin .geq (.s 3) (.c (.int 5)))⟩, ⟨(some 5), none, (.mov (.s 4))⟩, ⟨(some 6), (some (5, true)), (.mov (.s 0))⟩, ⟨(some 7), (some (5, true)), (.bin .leq (.s 6) (.c (.int 7)))⟩, ⟨(some 8), none, (.pick (.s 5) (.s 7) (.c (.bool false)))⟩, ⟨(some 9), none, (.mov (.s 8))⟩, ⟨(some 10), (some (9, false)), (.mov (.s 0))⟩, ⟨(some 11), (some (9, false)), (.bin .eql (.s 10) (.c (.int 10)))⟩, ⟨(some 12), none, (.pick (.s 9) (.c (.bool true)) (.s 11))⟩, ⟨(some 13), none, (.mov (.s 12))⟩, ⟨(some 14), (some (13, false)), (.mov (.s 0))⟩, ⟨(some 15), (some (13, false)), (.bin .eql (.s 14) (.c (.int 11)))⟩, ⟨(some 16), none, (.pick (.s 13) (.c (.bool true)) (.s 15))⟩, ⟨(some 2), none, (.mov (.s 16))⟩]) .ret))⟩
theorem p179 : prepF Try.prog 179 = some c179 := by kernel_rfl
def c180 : F := ⟨31, [(.tmp 2)], (.seq (.reg [⟨(some 1), none, (.box (.s 0))⟩, ⟨(some 2), none, (.mov (.c (.bool false)))⟩]) (.seq (.reg [⟨(some 3), none, (.fadr 0 (.s 1))⟩, ⟨(some 4), none, (.load false 1 (.s 3))⟩, ⟨(some 5), none, (.bin .eql (.s 4) (.c (.int 3)))⟩, ⟨(some 6), none, (.mov (.s 5))⟩, ⟨(some 7), (some (6, false)), (.fadr 0 (.s 1))⟩, ⟨(some 8), (some (6, false)), (.load false 1 (.s 7))⟩, ⟨(some 9), (some (6, false)), (.bin .eql (.s 8) (.c (.int 6)))⟩, ⟨(some 10), none, (.pick (.s 6) (.c (.bool true)) (.s 9))⟩, ⟨(some 11), none, (.mov (.s 10))⟩, ⟨(some 12), (some (11, false)), (.fadr 0 (.s 1))⟩, ⟨(some 13), (some (11, false)), (.load false 1 (.s 12))⟩, ⟨(some 14), (some (11, false)), (.bin .eql (.s 13) (.c (.int 10)))⟩, ⟨(some 15), none, (.pick (.s 11) (.c (.bool true)) (.s 14))⟩, ⟨(some 16), none, (.mov (.s 15))⟩, ⟨(some 17), (some (16, false)), (.fadr 0 (.s 1))⟩, ⟨(some 18), (some (16, false)), (.load false 1 (.s 17))⟩, ⟨(some 19), (some (16, false)), (.bin .eql (.s 18) (.c (.int 11)))⟩, ⟨(some 20), none, (.pick (.s 16) (.c (.bool true)) (.s 19))⟩, ⟨(some 21), none, (.mov (.s 20))⟩, ⟨(some 22), (some (21, false)), (.fadr 0 (.s 1))⟩, ⟨(some 23), (some (21, false)), (.load false 1 (.s 22))⟩, ⟨(some 24), (some (21, false)), (.bin .eql (.s 23) (.c (.int 7)))⟩, ⟨(some 25), (some (21, false)), (.mov (.s 24))⟩, ⟨(some 26), (some (25, true)), (.fadr 2 (.s 1))⟩, ⟨(some 27), (some (25, true)), (.load false 1 (.s 26))⟩, ⟨(some 28), (some (25, true)), (.bin .gtr (.s 27) (.c (.int 1)))⟩, ⟨(some 29), (some (21, false)), (.pick (.s 25) (.s 28) (.c (.bool false)))⟩, ⟨(some 30), none, (.pick (.s 21) (.c (.bool true)) (.s 29))⟩, ⟨(some 2), none, (.mov (.s 30))⟩]) .ret))⟩
theorem p180 : prepF Try.prog 180 = some c180 := by kernel_rfl
def c182 : F := ⟨9, [(.tmp 4)], (.seq (.reg [⟨(some 4), none, (.mov (.c (.bool false)))⟩]) (.seq (.reg [⟨(some 5), none, (.mov (.s 0))⟩, ⟨(some 6), none, (.mov (.s 1))⟩, ⟨(some 7), none, (.call 196 [(.s 5), (.s 6)])⟩, ⟨(some 8), none, (.bin .geq (.s 7) (.c (.int 0)))⟩, ⟨(some 4), none, (.mov (.s 8))⟩]) .ret))⟩
theorem p182 : prepF Try.prog 182 = some c182 := by kernel_rfl
def c183 : F := ⟨8, [(.tmp 3)], (.seq (.reg [⟨(some 3), none, (.mov (.c (.bool false)))⟩]) (.seq (.reg [⟨(some 4), none, (.mov (.s 0))⟩, ⟨(some 5), none, (.load false 1 (.s 1))⟩, ⟨(some 6), none, (.call 181 [(.s 4), (.s 5)])⟩, ⟨(some 7), none, (.un .not (.s 6))⟩, ⟨(some 3), none, (.mov (.s 7))⟩]) .ret))⟩
theorem p183 : prepF Try.prog 183 = some c183 := by kernel_rfl
def c185 : F := ⟨27, [(.tmp 4)], (.seq (.reg [⟨(some 4), none, (.mov (.c (.bool false)))⟩]) (.seq (.seq (.reg [⟨(some 6), none, (.mov (.s 0))⟩, ⟨(some 7), none, (.lenl (.s 6))⟩, ⟨(some 8), none, (.mov (.s 1))⟩, ⟨(some 9), none, (.lenl (.s 8))⟩, ⟨(some 10), none, (.bin .neq (.s 7) (.s 9))⟩]) (.cond (.s 10) (.seq (.reg [⟨(some 4), none, (.mov (.c (.bool false)))⟩]) .ret) .skip)) (.seq (.seq (.reg [⟨(some 5), none, (.mov (.c (.int 0)))⟩]) (.block 0 (.loop (.seq (.seq (.reg [⟨(some 11), none, (.mov (.s 5))⟩, ⟨(some 12), none, (.mov (.s 0))⟩, ⟨(some 13), none, (.lenl (.s 12))⟩, ⟨(some 14), none, (.bin .lss (.s 11) (.s 13))⟩]) (.cond (.s 14) .skip (.exit 0))) (.seq (.block 1 (.seq (.dreg [⟨⟨(some 17), none, (.mov (.s 0))⟩, [], [0]⟩, ⟨⟨(some 18), none, (.mov (.s 5))⟩, [0], [5]⟩, ⟨⟨(some 19), none, (.iadr none 1 (.s 17) (.s 18))⟩, [], [17, 18]⟩, ⟨⟨(some 20), none, (.load false 1 (.s 19))⟩, [], [19]⟩, ⟨⟨(some 21), none, (.mov (.s 1))⟩, [0, 1, 2, 3], [1]⟩, ⟨⟨(some 22), none, (.mov (.s 5))⟩, [0, 1, 2, 3, 4], [5]⟩, ⟨⟨(some 23), none, (.iadr none 1 (.s 21) (.s 22))⟩, [0, 1, 2, 3], [21, 22]⟩, ⟨⟨(some 24), none, (.load false 1 (.s 23))⟩, [0, 1, 2, 3], [23]⟩, ⟨⟨(some 25), none, (.call 184 [(.s 20), (.s 24)])⟩, [], [20, 24]⟩, ⟨⟨(some 26), none, (.un .not (.s 25))⟩, [], [25]⟩]) (.cond (.s 26) (.seq (.reg [⟨(some 4), none, (.mov (.c (.bool false)))⟩]) .ret) .skip))) (.reg [⟨(some 15), none, (.mov (.s 5))⟩, ⟨(some 16), none, (.bin .add (.s 15) (.c (.int 1)))⟩, ⟨(some 5), none, (.mov (.s 16))⟩])))))) (.seq (.reg [⟨(some 4), none, (.mov (.c (.bool true)))⟩]) .ret))))⟩
theorem p185 : prepF Try.prog 185 = some c185 := by kernel_rfl
def c196 : F := ⟨19, [(.tmp 4)], (.seq (.reg [⟨(some 4), none, (.mov (.c (.int 0)))⟩]) (.seq (.seq (.reg [⟨(some 6), none, (.mov (.s 0))⟩, ⟨(some 7), none, (.lenl (.s 6))⟩, ⟨(some 8), none, (.mov (.c (.int 0)))⟩]) (.block 0 (.loop (.seq (.reg [⟨(some 9), none, (.bin .lss (.s 8) (.s 7))⟩]) (.seq (.cond (.s 9) .skip (.exit 0)) (.seq (.block 1 (.seq (.reg [⟨(some 10), none, (.mov (.s 8))⟩, ⟨(some 5), none, (.mov (.s 10))⟩]) (.seq (.reg [⟨(some 11), none, (.mov (.s 1))⟩, ⟨(some 12), none, (.mov (.s 0))⟩, ⟨(some 13), none, (.mov (.s 5))⟩, ⟨(some 14), none, (.iadr none 1 (.s 12) (.s 13))⟩, ⟨(some 15), none, (.load false 1 (.s 14))⟩, ⟨(some 16), none, (.callv (.s 11) [(.s 15)])⟩]) (.cond (.s 16) (.seq (.reg [⟨(some 17), none, (.mov (.s 5))⟩, ⟨(some 4), none, (.mov (.s 17))⟩]) .ret) .skip)))) (.reg [⟨(some 18), none, (.bin .add (.s 8) (.c (.int 1)))⟩, ⟨(some 8), none, (.mov (.s 18))⟩]))))))) (.seq (.reg [⟨(some 4), none, (.mov (.c (.int (-1))))⟩]) .ret)))⟩
theorem p196 : prepF Try.prog 196 = some c196 := by kernel_rfl
end Go.Proofs.Ytfplalbognalkaa.Ab
/- Trees: which are valid, as the program and as the specification say it; that both say the same. -/
namespace Go.Proofs.Ytfplalbognalkaa.Ab
open Go
structure Nd where
  K : Int
  N : Int
  M : Int
  S : List UInt8
  T : List UInt8
  Ks : List Int
  deriving DecidableEq, Inhabited
abbrev ir (k : Int) : List E := [E.int k]
abbrev ndr (d : Nd) : List E := [E.int d.K, E.int d.N, E.int d.M, E.str d.S, E.str d.T, E.sl (d.Ks.map ir)]
def chain (f : Int → Int) : List Int → Int → Int
  | [], a => a
  | k :: r, a => if a < 1 ∨ k ≠ a - 1 ∨ f (a - 1) < 0 then -1 else chain f r (f (a - 1))
def kidsAt (ns : List Nd) (i : Nat) : List Int := (ns.getD i default).Ks
def kAt (ns : List Nd) (k : Int) : Int := (ns.getD k.toNat default).K
def stN (ns : List Nd) : Nat → Nat → Int
  | 0, _ => -1
  | n + 1, i => chain (fun j => stN ns n j.toNat) (kidsAt ns i).reverse i
/-- Where the stretch of a node begins; -1: not in order. -/
def st (ns : List Nd) (i : Nat) : Int := stN ns (i + 1) i
theorem chain_le {f : Int → Int} : ∀ (r : List Int) (a : Int), -1 ≤ a → (∀ j, 0 ≤ j → j < a → f j ≤ j) → chain f r a ≤ a
  | [], a, _, _ => Int.le_refl _
  | k :: r, a, ha, h => by
    unfold chain
    split
    · exact ha
    · have h1 := h (a - 1) (by omega) (by omega)
      have h2 := chain_le r (f (a - 1)) (by omega) fun j h3 h4 => h j h3 (by omega)
      omega
theorem chain_congr {f g : Int → Int} : ∀ (r : List Int) (a : Int), (∀ j, 0 ≤ j → j < a → f j = g j ∧ f j ≤ j) → chain f r a = chain g r a
  | [], a, _ => rfl
  | k :: r, a, h => by
    unfold chain
    by_cases h1 : a < 1
    · rw [if_pos (.inl h1), if_pos (.inl h1)]
    · obtain ⟨e, l⟩ := h (a - 1) (by omega) (by omega)
      rw [← e]
      split
      · rfl
      · exact chain_congr r _ fun j h3 h4 => h j h3 (by omega)
theorem stN_le (ns : List Nd) : ∀ (n i : Nat), stN ns n i ≤ i
  | 0, i => by simp only [stN]; omega
  | n + 1, i => by
    unfold stN
    exact chain_le _ _ (by omega) fun j h1 h2 => by have := stN_le ns n j.toNat; omega
theorem stN_eq (ns : List Nd) : ∀ (n m i : Nat), i < n → i < m → stN ns n i = stN ns m i
  | 0, _, _, h, _ => by omega
  | _, 0, _, _, h => by omega
  | n + 1, m + 1, i, h1, h2 => by
    unfold stN
    exact chain_congr _ _ fun j h3 h4 => ⟨stN_eq ns n m j.toNat (by omega) (by omega), by have := stN_le ns n j.toNat; omega⟩
theorem st_le (ns : List Nd) (i : Nat) : st ns i ≤ i := stN_le ns _ i
theorem st_eq (ns : List Nd) (i : Nat) : st ns i = chain (fun j => st ns j.toNat) (kidsAt ns i).reverse i := by
  rw [st, stN]
  refine chain_congr _ _ fun j h1 h2 => ⟨stN_eq ns _ _ _ (by omega) (by omega), by have := stN_le ns i j.toNat; omega⟩
theorem chain_lo {f : Int → Int} (hf : ∀ j, -1 ≤ f j) : ∀ (r : List Int) (a : Int), -1 ≤ a → -1 ≤ chain f r a
  | [], a, h => h
  | k :: r, a, h => by
    unfold chain
    split
    · omega
    · exact chain_lo hf r _ (hf _)
theorem stN_lo (ns : List Nd) : ∀ (n i : Nat), -1 ≤ stN ns n i
  | 0, i => by simp [stN]
  | n + 1, i => by
    unfold stN
    exact chain_lo (fun j => stN_lo ns n j.toNat) _ _ (by omega)
theorem st_lo (ns : List Nd) (i : Nat) : -1 ≤ st ns i := stN_lo ns _ i
def maxL (f : Int → Int) : List Int → Int
  | [] => 0
  | k :: r => max (f k) (maxL f r)
theorem maxL_nonneg (f : Int → Int) : ∀ r, 0 ≤ maxL f r
  | [] => Int.le_refl _
  | k :: r => by have := maxL_nonneg f r; simp only [maxL]; omega
theorem maxL_mem {f : Int → Int} : ∀ {r : List Int} {k : Int}, k ∈ r → f k ≤ maxL f r
  | a :: r, k, h => by
    simp only [maxL]
    rcases List.mem_cons.1 h with rfl | h
    · omega
    · have := maxL_mem (f := f) h; omega
theorem maxL_congr {f g : Int → Int} : ∀ {r : List Int}, (∀ k ∈ r, f k = g k) → maxL f r = maxL g r
  | [], _ => rfl
  | a :: r, h => by
    simp only [maxL]
    rw [h a (by simp), maxL_congr (r := r) fun k hk => h k (by simp [hk])]
def dpN (ns : List Nd) : Nat → Nat → Int
  | 0, _ => 0
  | n + 1, i => maxL (fun j => dpN ns n j.toNat) (kidsAt ns i) + 1
/-- The depth of a node. -/
def dp (ns : List Nd) (i : Nat) : Int := dpN ns (i + 1) i
theorem chain_mem {f : Int → Int} (hf : ∀ j, 0 ≤ j → f j ≤ j) : ∀ (r : List Int) (a : Int), 0 ≤ chain f r a → (∀ k ∈ r, 0 ≤ k ∧ k < a ∧ 0 ≤ f k) ∧ ∀ j, chain f r a ≤ j → j < a → ∃ k ∈ r, f k ≤ j ∧ j ≤ k
  | [], a, h => ⟨fun k hk => (List.not_mem_nil hk).elim, fun j h1 h2 => absurd h1 (by show ¬ a ≤ j; omega)⟩
  | k :: r, a, h => by
    unfold chain at h ⊢
    split at h
    · omega
    · rename_i hc
      rw [if_neg hc]
      have hl := hf (a - 1) (by omega)
      obtain ⟨q1, q2⟩ := chain_mem hf r _ h
      refine ⟨fun x hx => ?_, fun j h1 h2 => ?_⟩
      · rcases List.mem_cons.1 hx with rfl | hx
        · have : x = a - 1 := by omega
          subst this
          omega
        · have := q1 x hx
          omega
      · by_cases hj : f (a - 1) ≤ j
        · exact ⟨k, by simp, by rw [show k = a - 1 by omega]; exact hj, by omega⟩
        · obtain ⟨x, x1, x2⟩ := q2 j h1 (by omega)
          exact ⟨x, by simp [x1], x2⟩
theorem st_kids {ns : List Nd} {i : Nat} (h : 0 ≤ st ns i) : (∀ k ∈ kidsAt ns i, 0 ≤ k ∧ k < i ∧ 0 ≤ st ns k.toNat) ∧ ∀ j : Int, st ns i ≤ j → j < i → ∃ k ∈ kidsAt ns i, st ns k.toNat ≤ j ∧ j ≤ k := by
  have e := st_eq ns i
  rw [e] at h
  obtain ⟨q1, q2⟩ := chain_mem (f := fun j => st ns j.toNat) (fun j hj => by have := st_le ns j.toNat; omega) _ _ h
  rw [← e] at q2
  refine ⟨fun k hk => q1 k (by simpa using hk), fun j h1 h2 => ?_⟩
  obtain ⟨k, k1, k2⟩ := q2 j h1 h2
  exact ⟨k, by simpa using k1, k2⟩
theorem dpN_eq (ns : List Nd) : ∀ (n m i : Nat), i < n → i < m → 0 ≤ st ns i → dpN ns n i = dpN ns m i
  | 0, _, _, h, _, _ => by omega
  | _, 0, _, _, h, _ => by omega
  | n + 1, m + 1, i, h1, h2, h => by
    unfold dpN
    rw [maxL_congr fun k hk => ?_]
    obtain ⟨a, b, c⟩ := (st_kids h).1 k hk
    exact dpN_eq ns n m k.toNat (by omega) (by omega) c
theorem dp_eq {ns : List Nd} {i : Nat} (h : 0 ≤ st ns i) : dp ns i = maxL (fun j => dp ns j.toNat) (kidsAt ns i) + 1 := by
  rw [dp, dpN, maxL_congr fun k hk => ?_]
  obtain ⟨a, b, c⟩ := (st_kids h).1 k hk
  exact dpN_eq ns _ _ k.toNat (by omega) (by omega) c
theorem st_all {ns : List Nd} : ∀ (n i : Nat), i < n → 0 ≤ st ns i → ∀ j : Nat, st ns i ≤ j → j ≤ i → 0 ≤ st ns j ∧ dp ns j ≤ dp ns i
  | 0, _, h, _, _, _, _ => by omega
  | n + 1, i, hn, h, j, h1, h2 => by
    rcases Nat.lt_or_ge j i with hji | hji
    · obtain ⟨q1, q2⟩ := st_kids h
      obtain ⟨k, k1, k2, k3⟩ := q2 j h1 (by omega)
      obtain ⟨a, b, c⟩ := q1 k k1
      obtain ⟨r1, r2⟩ := st_all n k.toNat (by omega) c j k2 (by omega)
      refine ⟨r1, ?_⟩
      rw [dp_eq h]
      have := maxL_mem (f := fun j => dp ns j.toNat) k1
      omega
    · have : j = i := by omega
      subst this
      exact ⟨h, Int.le_refl _⟩
/-! ### A node by itself -/
def isSc (k : Int) : Bool := decide (1 ≤ k ∧ k ≤ 4)
def isQu (k : Int) : Bool := decide (k = 6 ∨ k = 7)
def isCo (k : Int) : Bool := decide (8 ≤ k ∧ k ≤ 15)
def restOk : List Int → Bool
  | [] => true
  | [k] => decide (k = 5) || isCo k
  | k :: r => decide (k = 5) && restOk r
def blockP (n : Int) (ks : List Int) : Bool := decide (0 ≤ n ∧ n < ks.length) && ((ks.take n.toNat).all isSc && (decide (ks.getD n.toNat 0 = 5) && restOk (ks.drop n.toNat)))
def noTx (d : Nd) : Bool := decide (d.S = []) && decide (d.T = [])
def most : Int := 999999999999999999
def fOk (d : Nd) (ks : List Int) : Bool :=
  if d.K = 1 then noTx d && (decide (d.M = 0) && (decide (ks = []) && decide (-most ≤ d.N ∧ d.N ≤ most)))
  else if d.K = 2 then noTx d && (decide (d.M = 0) && (decide (d.N = 0) && decide (ks = [])))
  else if d.K = 3 then decide (d.T = []) && (nameB d.S && (decide (d.M = 0) && (decide (ks = []) && decide (0 ≤ d.N ∧ d.N ≤ most))))
  else if d.K = 4 then noTx d && (decide (1 ≤ d.M ∧ d.M ≤ 4) && (decide (d.N = if d.M = 1 then 0 else 1) && blockP d.N ks))
  else if d.K = 5 then nameB d.S && (nameB d.T && (decide (d.N = 0) && (decide (d.M = 0) && decide (ks = []))))
  else if d.K = 6 then noTx d && (decide (d.M = 0 ∨ d.M = 1) && (decide (1 ≤ d.N) && blockP d.N ks))
  else if d.K = 7 then noTx d && (decide (d.N = 0) && (decide (d.M = 0) && (decide (2 ≤ ks.length) && ks.all fun k => decide (k = 6))))
  else if d.K = 8 then noTx d && (decide (d.N = 0) && (decide (1 ≤ d.M ∧ d.M ≤ 6) && (decide (ks.length = 2) && ks.all isSc)))
  else if d.K = 9 then noTx d && (decide (d.N = 0) && (decide (d.M = 0 ∨ d.M = 1) && (decide (ks.length = 1) && isSc (ks.getD 0 0))))
  else if d.K = 10 then noTx d && (decide (d.N = 0) && (decide (d.M = 0) && (decide (ks.length = 1) && isQu (ks.getD 0 0))))
  else if d.K = 11 then noTx d && (decide (d.N = 0) && (decide (d.M = 0 ∨ d.M = 1) && (decide (ks.length = 2) && (isSc (ks.getD 0 0) && isQu (ks.getD 1 0)))))
  else if d.K = 12 then noTx d && (decide (1 ≤ d.M ∧ d.M ≤ 6) && (decide (d.N = 1 ∨ d.N = 2) && (decide (ks.length = 2) && (isSc (ks.getD 0 0) && isQu (ks.getD 1 0)))))
  else if d.K = 13 then noTx d && (decide (d.N = 0) && (decide (d.M = 0) && (decide (ks.length = 1) && isCo (ks.getD 0 0))))
  else if d.K = 14 ∨ d.K = 15 then noTx d && (decide (d.N = 0) && (decide (d.M = 0) && (decide (2 ≤ ks.length) && ks.all isCo)))
  else false
/-- The letter of a kind. -/
def letr (k : Int) : UInt8 := if 1 ≤ k ∧ k ≤ 4 then 115 else if k = 5 then 102 else if k = 6 ∨ k = 7 then 113 else 99
def onlyB (s : List UInt8) (c : UInt8) (least : Int) : Bool := s.all (fun x => decide (x = c)) && decide (least ≤ s.length)
def cutC (s : List UInt8) : List UInt8 := if 0 < s.length ∧ s.getD (s.length - 1) 0 = 99 then s.take (s.length - 1) else s
def sBlock (ls : List UInt8) (n : Int) : Bool := decide (0 ≤ n ∧ n ≤ ls.length) && (onlyB (ls.take n.toNat) 115 0 && onlyB (cutC (ls.drop n.toNat)) 102 1)
def shortB (n : Int) : Bool := decide (-1000000000000000000 < n ∧ n < 1000000000000000000)
def preB (d : Nd) : Bool := (decide (d.S ≠ []) == decide (d.K = 3 ∨ d.K = 5)) && ((decide (d.T ≠ []) == decide (d.K = 5)) &&
  ((decide (d.K = 1 ∨ d.K = 3 ∨ d.K = 4 ∨ d.K = 6 ∨ d.K = 12) || decide (d.N = 0)) && (decide (d.K = 4 ∨ d.K = 6 ∨ d.K = 8 ∨ d.K = 9 ∨ d.K = 11 ∨ d.K = 12) || decide (d.M = 0))))
def nBody (d : Nd) (ks : List Int) (ls : List UInt8) : Bool :=
  if d.K = 1 then decide (ls = []) && shortB d.N
  else if d.K = 2 then decide (ls = [])
  else if d.K = 3 then decide (ls = []) && (nameB d.S && (decide (0 ≤ d.N) && shortB d.N))
  else if d.K = 5 then decide (ls = []) && (nameB d.S && nameB d.T)
  else if d.K = 4 then decide (1 ≤ d.M ∧ d.M ≤ 4) && ((decide (d.N = 1) == decide (1 < d.M)) && ((decide (d.N = 0) == decide (d.M = 1)) && sBlock ls d.N))
  else if d.K = 6 then decide (d.M = 0 ∨ d.M = 1) && (decide (1 ≤ d.N) && sBlock ls d.N)
  else if d.K = 7 then (ks.all fun k => decide (k = 6)) && decide (2 ≤ ks.length)
  else if d.K = 8 then decide (1 ≤ d.M ∧ d.M ≤ 6) && decide (ls = [115, 115])
  else if d.K = 9 then decide (d.M = 0 ∨ d.M = 1) && decide (ls = [115])
  else if d.K = 10 then decide (ls = [113])
  else if d.K = 11 then decide (d.M = 0 ∨ d.M = 1) && decide (ls = [115, 113])
  else if d.K = 12 then decide (1 ≤ d.M ∧ d.M ≤ 6) && (decide (d.N = 1 ∨ d.N = 2) && decide (ls = [115, 113]))
  else if d.K = 13 then decide (ls = [99])
  else decide (d.K = 14 ∨ d.K = 15) && onlyB ls 99 2
def nOk (d : Nd) (ks : List Int) : Bool := preB d && nBody d ks (ks.map letr)
def okK (k : Int) : Prop := 1 ≤ k ∧ k ≤ 15
theorem fOk_K {d : Nd} {ks : List Int} (h : fOk d ks = true) : okK d.K := by
  by_cases c : 1 ≤ d.K ∧ d.K ≤ 15
  · exact c
  · exfalso
    revert h
    rw [fOk, if_neg (by omega), if_neg (by omega), if_neg (by omega), if_neg (by omega), if_neg (by omega), if_neg (by omega), if_neg (by omega), if_neg (by omega), if_neg (by omega), if_neg (by omega), if_neg (by omega), if_neg (by omega), if_neg (by omega), if_neg (by omega)]
    simp
theorem nOk_K {d : Nd} {ks : List Int} (h : nOk d ks = true) : okK d.K := by
  by_cases c : 1 ≤ d.K ∧ d.K ≤ 15
  · exact c
  · exfalso
    revert h
    rw [nOk, nBody, if_neg (by omega), if_neg (by omega), if_neg (by omega), if_neg (by omega), if_neg (by omega), if_neg (by omega), if_neg (by omega), if_neg (by omega), if_neg (by omega), if_neg (by omega), if_neg (by omega), if_neg (by omega), if_neg (by omega), decide_eq_false (by omega)]
    simp
theorem sc_letr {k : Int} (h : okK k) : (letr k = 115) = (isSc k = true) := by
  unfold okK at h
  unfold letr isSc
  split
  · simp_all
  · split
    · simp; omega
    · split
      · simp; omega
      · simp; omega
theorem f_letr {k : Int} (h : okK k) : (letr k = 102) = (k = 5) := by
  unfold okK at h
  unfold letr
  split
  · simp; omega
  · split
    · simp_all
    · split
      · simp; omega
      · simp; omega
theorem q_letr {k : Int} (h : okK k) : (letr k = 113) = (isQu k = true) := by
  unfold okK at h
  unfold letr isQu
  split
  · simp; omega
  · split
    · simp; omega
    · split
      · simp_all
      · simp; omega
theorem c_letr {k : Int} (h : okK k) : (letr k = 99) = (isCo k = true) := by
  unfold okK at h
  unfold letr isCo
  split
  · simp; omega
  · split
    · simp; omega
    · split
      · simp; omega
      · simp; omega
theorem all_letr {p : Int → Bool} {c : UInt8} (hp : ∀ k, okK k → (letr k = c) = (p k = true)) {ks : List Int} (h : ∀ k ∈ ks, okK k) : (ks.map letr).all (fun x => decide (x = c)) = ks.all p := by
  rw [List.all_map]
  rw [Bool.eq_iff_iff, List.all_eq_true, List.all_eq_true]
  constructor
  · intro q k hk
    have := q k hk
    simp only [Function.comp_def, decide_eq_true_eq] at this
    rwa [hp k (h k hk)] at this
  · intro q k hk
    simp only [Function.comp_def, decide_eq_true_eq]
    rw [hp k (h k hk)]
    exact q k hk
/-- The kinds of a block's kids behind the scalars, by their letters. -/
theorem cutC_cons (x y : UInt8) (r : List UInt8) : cutC (x :: y :: r) = x :: cutC (y :: r) := by
  have q : (x :: y :: r).getD (r.length + 1) 0 = (y :: r).getD r.length 0 := by simp
  simp only [cutC, List.length_cons, Nat.add_sub_cancel]
  rw [q]
  by_cases c : (y :: r).getD r.length 0 = 99
  · rw [if_pos ⟨by omega, c⟩, if_pos ⟨by omega, c⟩]; rfl
  · rw [if_neg (fun x => c x.2), if_neg (fun x => c x.2)]
theorem all_cut : ∀ {ks : List Int}, (∀ k ∈ ks, okK k) → restOk ks = (cutC (ks.map letr)).all (fun x => decide (x = 102))
  | [], _ => rfl
  | [k], h => by
    have hk := h k (by simp)
    have h1 := f_letr hk
    have h2 := c_letr hk
    by_cases e2 : letr k = 99
    · have e3 : isCo k = true := by rw [← h2]; exact e2
      simp [restOk, e3, cutC, e2]
    · have e3 : isCo k = false := by rw [Bool.eq_false_iff, Ne, ← h2]; exact e2
      simp [restOk, e3, cutC, e2, h1]
  | k :: k2 :: r, h => by
    have h1 := f_letr (h k (by simp))
    have ih := all_cut (ks := k2 :: r) fun x hx => h x (by simp [hx])
    have e1 : restOk (k :: k2 :: r) = (decide (k = 5) && restOk (k2 :: r)) := rfl
    rw [e1, ih]
    simp only [List.map_cons]
    rw [cutC_cons, List.all_cons]
    congr 1
    simp [h1]
theorem cut_pos {ks : List Int} (h : ∀ k ∈ ks, okK k) (ha : (cutC (ks.map letr)).all (fun x => decide (x = 102)) = true) : decide (ks.getD 0 0 = 5) = decide (1 ≤ ((cutC (ks.map letr)).length : Int)) := by
  match ks, h, ha with
  | [], _, _ => rfl
  | [k], h, ha =>
    have hk := h k (by simp)
    have h1 := f_letr hk
    have h2 := c_letr hk
    by_cases e2 : letr k = 99
    · have e3 : k ≠ 5 := by rintro rfl; revert e2; decide
      simp [cutC, e2, e3]
    · simp [cutC, e2, h1] at ha
      simp [cutC, ha, show ¬ letr 5 = 99 by decide]
  | k :: k2 :: r, h, ha =>
    have h1 := f_letr (h k (by simp))
    simp only [List.map_cons] at ha ⊢
    rw [cutC_cons, List.all_cons, Bool.and_eq_true, decide_eq_true_eq, h1] at ha
    rw [cutC_cons, List.length_cons, List.getD_cons_zero, decide_eq_true ha.1]
    exact (decide_eq_true (by omega)).symm
theorem rest_eq {ks : List Int} (h : ∀ k ∈ ks, okK k) : (decide (ks.getD 0 0 = 5) && restOk ks) = onlyB (cutC (ks.map letr)) 102 1 := by
  rw [all_cut h, onlyB]
  cases ha : (cutC (ks.map letr)).all (fun x => decide (x = 102)) with
  | false => simp
  | true => rw [cut_pos h ha, Bool.and_true, Bool.true_and]
theorem block_eq {n : Int} {ks : List Int} (h : ∀ k ∈ ks, okK k) : blockP n ks = sBlock (ks.map letr) n := by
  unfold blockP sBlock
  by_cases h0 : 0 ≤ n ∧ n ≤ ks.length
  · have e1 : onlyB ((ks.map letr).take n.toNat) 115 0 = (ks.take n.toNat).all isSc := by
      rw [← List.map_take, onlyB, all_letr (fun k hk => sc_letr hk) (ks := ks.take n.toNat) fun k hk => h k (List.mem_of_mem_take hk)]
      rw [decide_eq_true (by omega), Bool.and_true]
    have e2 := rest_eq (ks := ks.drop n.toNat) fun k hk => h k (List.mem_of_mem_drop hk)
    have e3 : (ks.drop n.toNat).getD 0 0 = ks.getD n.toNat 0 := by simp [List.getD]
    rw [e3, List.map_drop] at e2
    rw [e1, ← e2, List.length_map, decide_eq_true h0, Bool.true_and]
    by_cases h1 : n < ks.length
    · rw [decide_eq_true ⟨h0.1, h1⟩, Bool.true_and]
    · have : ks.drop n.toNat = [] := List.drop_eq_nil_of_le (by omega)
      have h2 : ks.getD n.toNat 0 = 0 := by rw [← e3, this]; rfl
      rw [h2, decide_eq_false (fun q => h1 q.2)]
      simp
  · have : ¬ (0 ≤ n ∧ n < ks.length) := by omega
    simp [h0, this]
theorem len1 {ls : List Int} : ls.length = 1 ↔ ∃ a, ls = [a] := List.length_eq_one_iff
theorem len2 {ls : List Int} : ls.length = 2 ↔ ∃ a b, ls = [a, b] := by
  constructor
  · intro h
    match ls, h with
    | [a, b], _ => exact ⟨a, b, rfl⟩
  · rintro ⟨a, b, rfl⟩; rfl
theorem name_ne {s : List UInt8} (h : nameB s = true) : s ≠ [] := by
  rintro rfl
  revert h
  decide
theorem one_eq {p : Int → Bool} {c : UInt8} (hp : ∀ k, okK k → (letr k = c) = (p k = true)) {ks : List Int} (h : ∀ k ∈ ks, okK k) : (decide (ks.length = 1) && p (ks.getD 0 0)) = decide (ks.map letr = [c]) := by
  match ks, h with
  | [], _ => simp
  | [a], h =>
    have := hp a (h a (by simp))
    simp [this]
  | a :: b :: r, _ => simp
theorem two_eq {p q : Int → Bool} {c e : UInt8} (hp : ∀ k, okK k → (letr k = c) = (p k = true)) (hq : ∀ k, okK k → (letr k = e) = (q k = true)) {ks : List Int} (h : ∀ k ∈ ks, okK k) : (decide (ks.length = 2) && (p (ks.getD 0 0) && q (ks.getD 1 0))) = decide (ks.map letr = [c, e]) := by
  match ks, h with
  | [], _ => simp
  | [a], _ => simp
  | [a, b], h =>
    have h1 := hp a (h a (by simp))
    have h2 := hq b (h b (by simp))
    simp [h1, h2]
  | a :: b :: d :: r, _ => simp
theorem node_eq {d : Nd} {ks : List Int} (hd : okK d.K) (h : ∀ k ∈ ks, okK k) : fOk d ks = nOk d ks := by
  obtain ⟨K, N, M, S, T, Ks⟩ := d
  have hb := block_eq (n := N) h
  have o1 := one_eq (fun k hk => sc_letr hk) h
  have o2 := one_eq (fun k hk => q_letr hk) h
  have o3 := one_eq (fun k hk => c_letr hk) h
  have t1 := two_eq (fun k hk => sc_letr hk) (fun k hk => q_letr hk) h
  have t2 := two_eq (fun k hk => sc_letr hk) (fun k hk => sc_letr hk) h
  have t3 : (decide (ks.length = 2) && ks.all isSc) = decide (ks.map letr = [115, 115]) := by
    rw [← t2]
    match ks with
    | [] => simp
    | [a] => simp
    | [a, b] => simp
    | a :: b :: c :: r => simp
  have a1 := all_letr (fun k hk => c_letr hk) h
  have n1 : nameB S = true → S ≠ [] := name_ne
  have n2 : nameB T = true → T ≠ [] := name_ne
  have hm : (decide (ks = [])) = decide (ks.map letr = []) := by simp
  have hl : (ks.map letr).length = ks.length := by simp
  simp only at hd
  unfold okK at hd
  unfold fOk nOk preB nBody
  simp only [noTx, hb, hm]
  have c : K = 1 ∨ K = 2 ∨ K = 3 ∨ K = 4 ∨ K = 5 ∨ K = 6 ∨ K = 7 ∨ K = 8 ∨ K = 9 ∨ K = 10 ∨ K = 11 ∨ K = 12 ∨ K = 13 ∨ K = 14 ∨ K = 15 := by omega
  rcases c with rfl | rfl | rfl | rfl | rfl | rfl | rfl | rfl | rfl | rfl | rfl | rfl | rfl | rfl | rfl
  all_goals simp only [Int.reduceEq, if_true, if_false, true_or, or_true, false_or, or_false, o1, o2, o3, t1, t3, onlyB, a1, hl, ne_eq, decide_not]
  all_goals clear hb o1 o2 o3 t1 t2 t3 a1 hd h hm
  all_goals
    by_cases hS : S = [] <;> by_cases hT : T = [] <;> simp only [hS, hT, shortB, most, decide_true, decide_false, Bool.not_true, Bool.not_false, Bool.true_and, Bool.false_and, Bool.and_true, Bool.and_false, beq_self_eq_true, Bool.or_true, Bool.true_or, Bool.false_or, Bool.or_false]
  all_goals first | rfl | (simp; done) | (simp; omega) | grind | (trace_state; fail)
/-! ### Whole trees -/
def rowOk (ns : List Nd) (i : Nat) : Bool := fOk (ns.getD i default) ((kidsAt ns i).map (kAt ns))
def iOk (ns : List Nd) : Prop := (1 ≤ ns.length ∧ ns.length ≤ 10000) ∧ (∀ i, i < ns.length → 0 ≤ st ns i ∧ dp ns i ≤ 200 ∧ rowOk ns i = true) ∧ st ns (ns.length - 1) = 0 ∧ isQu (kAt ns (ns.length - 1 : Nat)) = true
def sRow (ns : List Nd) (i : Nat) : Bool := nOk (ns.getD i default) ((kidsAt ns i).map (kAt ns))
def sOk (ns : List Nd) : Prop := (1 ≤ ns.length ∧ ns.length ≤ 10000) ∧ st ns (ns.length - 1) = 0 ∧ (∀ i, i < ns.length → sRow ns i = true) ∧ isQu (kAt ns (ns.length - 1 : Nat)) = true ∧ dp ns (ns.length - 1) ≤ 200
theorem ok_iff (ns : List Nd) : iOk ns ↔ sOk ns := by
  have key : st ns (ns.length - 1) = 0 → 1 ≤ ns.length → ∀ i, i < ns.length → 0 ≤ st ns i ∧ dp ns i ≤ dp ns (ns.length - 1) := fun h1 h2 i hi =>
    st_all ns.length (ns.length - 1) (by omega) (by omega) i (by omega) (by omega)
  have kk : (∀ i, i < ns.length → okK (kAt ns (i : Int))) → ∀ i, i < ns.length → 0 ≤ st ns i → ∀ k ∈ (kidsAt ns i).map (kAt ns), okK k := fun q i hi h k hk => by
    obtain ⟨x, hx, rfl⟩ := List.mem_map.1 hk
    obtain ⟨a, b, _⟩ := (st_kids h).1 x hx
    have := q x.toNat (by omega)
    rwa [show ((x.toNat : Nat) : Int) = x by omega] at this
  have kd : ∀ i : Nat, kAt ns (i : Int) = (ns.getD i default).K := fun i => by simp [kAt]
  constructor
  · rintro ⟨h1, h2, h3, h4⟩
    refine ⟨h1, h3, fun i hi => ?_, h4, (h2 _ (by omega)).2.1⟩
    have q : ∀ i, i < ns.length → okK (kAt ns (i : Int)) := fun i hi => by rw [kd]; exact fOk_K (h2 i hi).2.2
    rw [sRow, ← node_eq (by rw [← kd]; exact q i hi) (kk q i hi (h2 i hi).1)]
    exact (h2 i hi).2.2
  · rintro ⟨h1, h2, h3, h4, h5⟩
    have q : ∀ i, i < ns.length → okK (kAt ns (i : Int)) := fun i hi => by rw [kd]; exact nOk_K (h3 i hi)
    refine ⟨h1, fun i hi => ?_, h2, h4⟩
    obtain ⟨a, b⟩ := key h2 h1.1 i hi
    refine ⟨a, by omega, ?_⟩
    rw [rowOk, node_eq (by rw [← kd]; exact q i hi) (kk q i hi a)]
    exact h3 i hi
end Go.Proofs.Ytfplalbognalkaa.Ab
