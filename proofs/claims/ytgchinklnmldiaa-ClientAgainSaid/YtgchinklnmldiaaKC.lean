/- Joined texts of this claim: Lc E1 E2 E3 E4 E5 D1 E6 E12 D2 D3 M1. -/
import Derived.Test.YtgchinklnmldiaaKB
import Derived.Test.YtgchinklnmldiaaProg
import Derived.KernelRfl
import Derived.IntWalk
set_option linter.unusedSimpArgs false
set_option linter.unusedVariables false
set_option linter.unusedSectionVars false
/- The lowered code of this seat's functions (printed by a program). -/
namespace Go.Proofs.Ytgchinklnmldiaa
set_option maxRecDepth 100000 in
def L3 : LC := (.seq (.reg none [⟨(some 4), (.box (.tmp 1)), none, true⟩, ⟨(some 5), (.box (.tmp 2)), none, true⟩, ⟨(some 6), (.mv (.val (.bool false))), none, true⟩]) (.seq (.reg none [⟨(some 17), (.mv (.tmp 0)), none, true⟩, ⟨(some 18), (.load 2 true (.tmp 4)), none, true⟩, ⟨(some 19), (.load 2 true (.tmp 5)), none, true⟩, ⟨(some 20), (.call 6 [(.tmp 17), (.tmp 18), (.tmp 19)] false), none, true⟩, ⟨(some 16), (.mv (.tmp 20)), none, true⟩, ⟨(some 21), (.ext 0 (.tmp 16)), none, true⟩, ⟨(some 22), (.ext 1 (.tmp 16)), none, true⟩, ⟨(some 7), (.alloc [(.int .i64 0), .nilsl]), none, true⟩, ⟨none, (.store 2 (.tmp 7) (.tmp 21)), none, true⟩, ⟨(some 8), (.mv (.tmp 22)), none, true⟩]) (.seq (.reg none [⟨(some 24), (.mv (.tmp 0)), none, true⟩, ⟨(some 25), (.load 2 true (.tmp 4)), none, true⟩, ⟨(some 26), (.call 7 [(.tmp 24), (.tmp 25)] false), none, true⟩, ⟨(some 23), (.mv (.tmp 26)), none, true⟩, ⟨(some 27), (.ext 0 (.tmp 23)), none, true⟩, ⟨(some 28), (.ext 1 (.tmp 23)), none, true⟩, ⟨(some 9), (.mv (.tmp 27)), none, true⟩, ⟨(some 10), (.mv (.tmp 28)), none, true⟩]) (.seq (.reg none [⟨(some 29), (.mv (.tmp 0)), none, true⟩, ⟨(some 30), (.addr 0 (.tmp 4)), none, true⟩, ⟨(some 31), (.load 1 false (.tmp 30)), none, true⟩, ⟨(some 32), (.addr 1 (.tmp 4)), none, true⟩, ⟨(some 33), (.load 1 false (.tmp 32)), none, true⟩, ⟨(some 34), (.call 8 [(.tmp 29), (.tmp 31), (.tmp 33)] false), none, true⟩, ⟨(some 11), (.mv (.tmp 34)), none, true⟩]) (.seq (.reg none [⟨(some 36), (.mv (.tmp 0)), none, true⟩, ⟨(some 37), (.load 2 true (.tmp 4)), none, true⟩, ⟨(some 38), (.load 2 true (.tmp 5)), none, true⟩, ⟨(some 39), (.call 9 [(.tmp 36), (.tmp 37), (.tmp 38)] false), none, true⟩, ⟨(some 35), (.mv (.tmp 39)), none, true⟩, ⟨(some 40), (.ext 0 (.tmp 35)), none, true⟩, ⟨(some 41), (.ext 1 (.tmp 35)), none, true⟩, ⟨(some 12), (.alloc [(.int .i64 0), .nilsl]), none, true⟩, ⟨none, (.store 2 (.tmp 12) (.tmp 40)), none, true⟩, ⟨(some 13), (.mv (.tmp 41)), none, true⟩]) (.seq (.reg none [⟨(some 14), (.mv (.val .nilsl)), none, true⟩]) (.seq (.seq (.reg none [⟨(some 15), (.mv (.val (.int .i64 0))), none, true⟩]) (.block 0 (.loop (.seq (.seq (.reg none [⟨(some 42), (.mv (.tmp 15)), none, true⟩, ⟨(some 43), (.addr 1 (.tmp 4)), none, true⟩, ⟨(some 44), (.load 1 false (.tmp 43)), none, true⟩, ⟨(some 45), (.len false (.tmp 44)), none, true⟩, ⟨(some 46), (.bin .lss (.tmp 42) (.tmp 45)), none, true⟩, ⟨(some 47), (.mv (.tmp 46)), none, true⟩, ⟨(some 48), (.mv (.tmp 11)), (some (47, true)), true⟩, ⟨(some 49), (.bin .eql (.tmp 48) (.val (.int .i64 0))), (some (47, true)), true⟩, ⟨(some 50), (.pick (.tmp 47) (.tmp 49) (.val (.bool false))), none, true⟩]) (.cond (.tmp 50) .skip (.exit 0))) (.seq (.block 1 (.reg none [⟨(some 53), (.mv (.tmp 14)), none, true⟩, ⟨(some 54), (.mv (.tmp 0)), none, true⟩, ⟨(some 55), (.mv (.tmp 0)), none, true⟩, ⟨(some 56), (.addr 1 (.tmp 4)), none, true⟩, ⟨(some 57), (.load 1 false (.tmp 56)), none, true⟩, ⟨(some 58), (.mv (.tmp 15)), none, true⟩, ⟨(some 59), (.iaddrS 2 (.tmp 57) (.tmp 58)), none, true⟩, ⟨(some 60), (.load 2 true (.tmp 59)), none, true⟩, ⟨(some 61), (.call 10 [(.tmp 55), (.tmp 60)] false), none, true⟩, ⟨(some 62), (.iaddrS 5 (.tmp 54) (.tmp 61)), none, true⟩, ⟨(some 63), (.addr 3 (.tmp 62)), none, true⟩, ⟨(some 64), (.load 1 false (.tmp 63)), none, true⟩, ⟨(some 65), (.mks 1 [(.str ⟨#[]⟩)] 1 [(0, (.tmp 64))]), none, true⟩, ⟨(some 66), (.append 9 1 16 (.tmp 53) (.tmp 65)), none, true⟩, ⟨(some 14), (.mv (.tmp 66)), none, true⟩])) (.reg none [⟨(some 51), (.mv (.tmp 15)), none, true⟩, ⟨(some 52), (.bin .add (.tmp 51) (.val (.int .i64 1))), none, true⟩, ⟨(some 15), (.mv (.tmp 52)), none, true⟩])))))) (.seq (.reg none [⟨(some 67), (.call 11 [] false), none, true⟩, ⟨(some 68), (.mv (.tmp 67)), none, true⟩, ⟨(some 69), (.mv (.tmp 0)), (some (68, true)), true⟩, ⟨(some 70), (.load 2 true (.tmp 4)), (some (68, true)), true⟩, ⟨(some 71), (.call 12 [(.tmp 69), (.tmp 70)] false), (some (68, true)), true⟩, ⟨(some 72), (.mv (.tmp 11)), (some (68, true)), true⟩, ⟨(some 73), (.bin .eql (.tmp 71) (.tmp 72)), (some (68, true)), true⟩, ⟨(some 74), (.pick (.tmp 68) (.tmp 73) (.val (.bool false))), none, true⟩, ⟨(some 75), (.mv (.tmp 74)), none, true⟩, ⟨(some 76), (.mv (.tmp 8)), (some (75, true)), true⟩, ⟨(some 77), (.mv (.tmp 13)), (some (75, true)), true⟩, ⟨(some 78), (.bin .eql (.tmp 76) (.tmp 77)), (some (75, true)), true⟩, ⟨(some 79), (.pick (.tmp 75) (.tmp 78) (.val (.bool false))), none, true⟩, ⟨(some 80), (.mv (.tmp 79)), none, true⟩, ⟨(some 81), (.load 2 true (.tmp 7)), (some (80, true)), true⟩, ⟨(some 82), (.load 2 true (.tmp 12)), (some (80, true)), true⟩, ⟨(some 83), (.call 13 [(.tmp 81), (.tmp 82)] false), (some (80, true)), true⟩, ⟨(some 84), (.pick (.tmp 80) (.tmp 83) (.val (.bool false))), none, true⟩, ⟨(some 85), (.mv (.tmp 84)), none, true⟩, ⟨(some 86), (.mv (.tmp 10)), (some (85, true)), true⟩, ⟨(some 87), (.mv (.tmp 11)), (some (85, true)), true⟩, ⟨(some 88), (.bin .eql (.tmp 86) (.tmp 87)), (some (85, true)), true⟩, ⟨(some 89), (.pick (.tmp 85) (.tmp 88) (.val (.bool false))), none, true⟩, ⟨(some 90), (.mv (.tmp 89)), none, true⟩, ⟨(some 91), (.mv (.tmp 9)), (some (90, true)), true⟩, ⟨(some 92), (.mv (.tmp 14)), (some (90, true)), true⟩, ⟨(some 93), (.call 14 [(.tmp 91), (.tmp 92)] false), (some (90, true)), true⟩, ⟨(some 94), (.pick (.tmp 90) (.tmp 93) (.val (.bool false))), none, true⟩, ⟨(some 6), (.mv (.tmp 94)), none, true⟩]) .ret))))))))
def R3 : List LRes := [(.tmp 6)]
theorem low3 : Try.f3.body.bind (lowerCode Try.prog 95) = some L3 := by kernel_rfl
theorem res3 : lowerRes Try.prog Try.f3.results.toList = some R3 := by kernel_rfl
set_option maxRecDepth 100000 in
def L5 : LC := (.seq (.reg none [⟨(some 5), (.box (.tmp 2)), none, true⟩, ⟨(some 6), (.mv (.val (.bool false))), none, true⟩]) (.seq (.seq (.reg none [⟨(some 17), (.call 11 [] false), none, true⟩, ⟨(some 18), (.not (.tmp 17)), none, true⟩, ⟨(some 19), (.mv (.tmp 18)), none, true⟩, ⟨(some 20), (.call 15 [] false), (some (19, false)), true⟩, ⟨(some 21), (.not (.tmp 20)), (some (19, false)), true⟩, ⟨(some 22), (.pick (.tmp 19) (.val (.bool true)) (.tmp 21)), none, true⟩, ⟨(some 23), (.mv (.tmp 22)), none, true⟩, ⟨(some 24), (.call 20 [] false), (some (23, false)), true⟩, ⟨(some 25), (.not (.tmp 24)), (some (23, false)), true⟩, ⟨(some 26), (.pick (.tmp 23) (.val (.bool true)) (.tmp 25)), none, true⟩]) (.cond (.tmp 26) (.seq (.reg none [⟨(some 6), (.mv (.val (.bool false))), none, true⟩]) .ret) .skip)) (.seq (.reg none [⟨(some 28), (.mv (.tmp 0)), none, true⟩, ⟨(some 29), (.mv (.tmp 1)), none, true⟩, ⟨(some 30), (.build [(.int .i64 0), .nilsl] [(0, (1, (.tmp 29)))]), none, true⟩, ⟨(some 31), (.load 2 true (.tmp 5)), none, true⟩, ⟨(some 32), (.call 6 [(.tmp 28), (.tmp 30), (.tmp 31)] false), none, true⟩, ⟨(some 27), (.mv (.tmp 32)), none, true⟩, ⟨(some 33), (.ext 0 (.tmp 27)), none, true⟩, ⟨(some 34), (.ext 1 (.tmp 27)), none, true⟩, ⟨(some 7), (.alloc [(.int .i64 0), .nilsl]), none, true⟩, ⟨none, (.store 2 (.tmp 7) (.tmp 33)), none, true⟩, ⟨(some 8), (.mv (.tmp 34)), none, true⟩]) (.seq (.seq (.reg none [⟨(some 35), (.mv (.tmp 8)), none, true⟩, ⟨(some 36), (.bin .eql (.tmp 35) (.val (.int .i64 0))), none, true⟩]) (.cond (.tmp 36) (.seq (.reg none [⟨(some 38), (.mv (.tmp 0)), none, true⟩, ⟨(some 39), (.load 2 true (.tmp 7)), none, true⟩, ⟨(some 40), (.load 2 true (.tmp 5)), none, true⟩, ⟨(some 41), (.call 6 [(.tmp 38), (.tmp 39), (.tmp 40)] false), none, true⟩, ⟨(some 37), (.mv (.tmp 41)), none, true⟩, ⟨(some 42), (.ext 0 (.tmp 37)), none, true⟩, ⟨(some 43), (.ext 1 (.tmp 37)), none, true⟩, ⟨(some 9), (.alloc [(.int .i64 0), .nilsl]), none, true⟩, ⟨none, (.store 2 (.tmp 9) (.tmp 42)), none, true⟩, ⟨(some 10), (.mv (.tmp 43)), none, true⟩]) (.seq (.reg none [⟨(some 45), (.mv (.tmp 0)), none, true⟩, ⟨(some 46), (.load 2 true (.tmp 7)), none, true⟩, ⟨(some 47), (.call 7 [(.tmp 45), (.tmp 46)] false), none, true⟩, ⟨(some 44), (.mv (.tmp 47)), none, true⟩, ⟨(some 48), (.ext 0 (.tmp 44)), none, true⟩, ⟨(some 49), (.ext 1 (.tmp 44)), none, true⟩, ⟨(some 11), (.mv (.tmp 48)), none, true⟩, ⟨(some 12), (.mv (.tmp 49)), none, true⟩]) (.seq (.reg none [⟨(some 50), (.mv (.tmp 10)), none, true⟩, ⟨(some 51), (.bin .neq (.tmp 50) (.val (.int .i64 0))), none, true⟩, ⟨(some 52), (.mv (.tmp 51)), none, true⟩, ⟨(some 53), (.mv (.tmp 12)), (some (52, false)), true⟩, ⟨(some 54), (.bin .neq (.tmp 53) (.val (.int .i64 0))), (some (52, false)), true⟩, ⟨(some 55), (.pick (.tmp 52) (.val (.bool true)) (.tmp 54)), none, true⟩, ⟨(some 56), (.mv (.tmp 55)), none, true⟩, ⟨(some 57), (.load 2 true (.tmp 7)), (some (56, false)), true⟩, ⟨(some 58), (.load 2 true (.tmp 9)), (some (56, false)), true⟩, ⟨(some 59), (.call 13 [(.tmp 57), (.tmp 58)] false), (some (56, false)), true⟩, ⟨(some 60), (.not (.tmp 59)), (some (56, false)), true⟩, ⟨(some 61), (.pick (.tmp 56) (.val (.bool true)) (.tmp 60)), none, true⟩, ⟨(some 62), (.mv (.tmp 61)), none, true⟩, ⟨(some 63), (.mv (.tmp 11)), (some (62, false)), true⟩, ⟨(some 64), (.len false (.tmp 63)), (some (62, false)), true⟩, ⟨(some 65), (.addr 1 (.tmp 7)), (some (62, false)), true⟩, ⟨(some 66), (.load 1 false (.tmp 65)), (some (62, false)), true⟩, ⟨(some 67), (.len false (.tmp 66)), (some (62, false)), true⟩, ⟨(some 68), (.bin .neq (.tmp 64) (.tmp 67)), (some (62, false)), true⟩, ⟨(some 69), (.pick (.tmp 62) (.val (.bool true)) (.tmp 68)), none, true⟩]) (.cond (.tmp 69) (.seq (.reg none [⟨(some 6), (.mv (.val (.bool false))), none, true⟩]) .ret) .skip)))) .skip)) (.seq (.reg none [⟨(some 71), (.mv (.tmp 0)), none, true⟩, ⟨(some 72), (.call 21 [(.tmp 71)] false), none, true⟩, ⟨(some 70), (.mv (.tmp 72)), none, true⟩, ⟨(some 73), (.ext 0 (.tmp 70)), none, true⟩, ⟨(some 74), (.ext 1 (.tmp 70)), none, true⟩, ⟨(some 13), (.alloc [(.int .i64 0), (.int .i64 0)]), none, true⟩, ⟨none, (.store 2 (.tmp 13) (.tmp 73)), none, true⟩, ⟨(some 8), (.mv (.tmp 74)), none, true⟩]) (.seq (.seq (.reg none [⟨(some 75), (.mv (.tmp 8)), none, true⟩, ⟨(some 76), (.bin .neq (.tmp 75) (.val (.int .i64 0))), none, true⟩]) (.cond (.tmp 76) (.seq (.reg none [⟨(some 6), (.mv (.val (.bool true))), none, true⟩]) .ret) .skip)) (.seq (.reg none [⟨(some 78), (.mv (.tmp 0)), none, true⟩, ⟨(some 79), (.mv (.tmp 1)), none, true⟩, ⟨(some 80), (.build [(.int .i64 0), .nilsl] [(0, (1, (.tmp 79)))]), none, true⟩, ⟨(some 81), (.load 2 true (.tmp 13)), none, true⟩, ⟨(some 82), (.call 6 [(.tmp 78), (.tmp 80), (.tmp 81)] false), none, true⟩, ⟨(some 77), (.mv (.tmp 82)), none, true⟩, ⟨(some 83), (.ext 0 (.tmp 77)), none, true⟩, ⟨(some 84), (.ext 1 (.tmp 77)), none, true⟩, ⟨(some 14), (.alloc [(.int .i64 0), .nilsl]), none, true⟩, ⟨none, (.store 2 (.tmp 14) (.tmp 83)), none, true⟩, ⟨(some 8), (.mv (.tmp 84)), none, true⟩]) (.seq (.reg none [⟨(some 86), (.mv (.tmp 0)), none, true⟩, ⟨(some 87), (.mv (.tmp 1)), none, true⟩, ⟨(some 88), (.call 22 [(.tmp 86), (.tmp 87)] false), none, true⟩, ⟨(some 85), (.mv (.tmp 88)), none, true⟩, ⟨(some 89), (.ext 0 (.tmp 85)), none, true⟩, ⟨(some 90), (.ext 1 (.tmp 85)), none, true⟩, ⟨(some 15), (.mv (.tmp 89)), none, true⟩, ⟨(some 16), (.mv (.tmp 90)), none, true⟩]) (.seq (.reg none [⟨(some 91), (.mv (.tmp 8)), none, true⟩, ⟨(some 92), (.mv (.tmp 16)), none, true⟩, ⟨(some 93), (.bin .eql (.tmp 91) (.tmp 92)), none, true⟩, ⟨(some 94), (.mv (.tmp 93)), none, true⟩, ⟨(some 95), (.addr 1 (.tmp 14)), (some (94, true)), true⟩, ⟨(some 96), (.load 1 false (.tmp 95)), (some (94, true)), true⟩, ⟨(some 97), (.mv (.tmp 15)), (some (94, true)), true⟩, ⟨(some 98), (.call 17 [(.tmp 96), (.tmp 97)] false), (some (94, true)), true⟩, ⟨(some 99), (.pick (.tmp 94) (.tmp 98) (.val (.bool false))), none, true⟩, ⟨(some 6), (.mv (.tmp 99)), none, true⟩]) .ret)))))))))
def R5 : List LRes := [(.tmp 6)]
theorem low5 : Try.f5.body.bind (lowerCode Try.prog 100) = some L5 := by kernel_rfl
theorem res5 : lowerRes Try.prog Try.f5.results.toList = some R5 := by kernel_rfl
set_option maxRecDepth 100000 in
def L6 : LC := (.seq (.reg none [⟨(some 4), (.box (.tmp 1)), none, true⟩, ⟨(some 5), (.box (.tmp 2)), none, true⟩, ⟨(some 6), (.alloc [(.int .i64 0), .nilsl]), none, true⟩, ⟨(some 7), (.mv (.val (.int .i64 0))), none, true⟩]) (.seq (.reg none [⟨(some 12), (.mv (.tmp 0)), none, true⟩, ⟨(some 13), (.load 2 true (.tmp 4)), none, true⟩, ⟨(some 14), (.call 12 [(.tmp 12), (.tmp 13)] false), none, true⟩, ⟨(some 8), (.mv (.tmp 14)), none, true⟩]) (.seq (.seq (.reg none [⟨(some 15), (.mv (.tmp 8)), none, true⟩, ⟨(some 16), (.bin .eql (.tmp 15) (.val (.int .i64 0))), none, true⟩]) (.cond (.tmp 16) (.reg none [⟨(some 17), (.load 2 true (.tmp 5)), none, true⟩, ⟨(some 18), (.call 23 [(.tmp 17)] false), none, true⟩, ⟨(some 8), (.mv (.tmp 18)), none, true⟩]) .skip)) (.seq (.seq (.reg none [⟨(some 19), (.mv (.tmp 8)), none, true⟩, ⟨(some 20), (.bin .neq (.tmp 19) (.val (.int .i64 0))), none, true⟩]) (.cond (.tmp 20) (.seq (.reg none [⟨(some 21), (.build [(.int .i64 0), .nilsl] []), none, true⟩, ⟨(some 22), (.mv (.tmp 8)), none, true⟩, ⟨none, (.store 2 (.tmp 6) (.tmp 21)), none, true⟩, ⟨(some 7), (.mv (.tmp 22)), none, true⟩]) .ret) .skip)) (.seq (.reg none [⟨(some 23), (.load 2 true (.tmp 4)), none, true⟩, ⟨(some 24), (.mv (.tmp 0)), none, true⟩, ⟨(some 25), (.load 2 true (.tmp 5)), none, true⟩, ⟨(some 26), (.build [(.int .i64 0), .nilsl, .nilsl, (.int .i64 0), (.int .i64 0)] [(0, (2, (.tmp 23))), (2, (1, (.tmp 24))), (3, (2, (.tmp 25)))]), none, true⟩, ⟨(some 27), (.box (.tmp 26)), none, true⟩, ⟨(some 9), (.mv (.tmp 27)), none, true⟩]) (.seq (.reg none [⟨(some 29), (.mv (.tmp 9)), none, true⟩, ⟨(some 30), (.call 24 [(.tmp 29)] false), none, true⟩, ⟨(some 28), (.mv (.tmp 30)), none, true⟩, ⟨(some 31), (.ext 0 (.tmp 28)), none, true⟩, ⟨(some 32), (.ext 1 (.tmp 28)), none, true⟩, ⟨(some 10), (.mv (.tmp 31)), none, true⟩, ⟨(some 11), (.mv (.tmp 32)), none, true⟩]) (.seq (.seq (.reg (some []) [⟨(some 33), (.mv (.tmp 11)), none, true⟩, ⟨(some 34), (.not (.tmp 33)), none, true⟩, ⟨(some 35), (.mv (.tmp 34)), none, true⟩, ⟨(some 36), (.load 2 true (.tmp 5)), (some (35, false)), false⟩, ⟨(some 37), (.mv (.tmp 0)), (some (35, false)), true⟩, ⟨(some 38), (.call 26 [(.tmp 37)] false), (some (35, false)), false⟩, ⟨(some 39), (.call 25 [(.tmp 36), (.tmp 38)] false), (some (35, false)), true⟩, ⟨(some 40), (.not (.tmp 39)), (some (35, false)), true⟩, ⟨(some 41), (.pick (.tmp 35) (.val (.bool true)) (.tmp 40)), none, true⟩, ⟨(some 42), (.mv (.tmp 41)), none, true⟩, ⟨(some 43), (.addr 1 (.tmp 4)), (some (42, false)), true⟩, ⟨(some 44), (.load 1 false (.tmp 43)), (some (42, false)), true⟩, ⟨(some 45), (.mv (.tmp 9)), (some (42, false)), true⟩, ⟨(some 46), (.clob 28 [(.tmp 45)]), (some (42, false)), true⟩, ⟨(some 47), (.call 27 [(.tmp 44), (.tmp 46)] false), (some (42, false)), true⟩, ⟨(some 48), (.pick (.tmp 42) (.val (.bool true)) (.tmp 47)), none, true⟩]) (.cond (.tmp 48) (.seq (.reg none [⟨(some 49), (.build [(.int .i64 0), .nilsl] []), none, true⟩, ⟨none, (.store 2 (.tmp 6) (.tmp 49)), none, true⟩, ⟨(some 7), (.mv (.val (.int .i64 4))), none, true⟩]) .ret) .skip)) (.seq (.reg (some []) [⟨(some 50), (.addr 0 (.tmp 4)), none, false⟩, ⟨(some 51), (.load 1 false (.tmp 50)), none, false⟩, ⟨(some 52), (.mv (.tmp 10)), none, true⟩, ⟨(some 53), (.addr 0 (.tmp 4)), none, false⟩, ⟨(some 54), (.load 1 false (.tmp 53)), none, false⟩, ⟨(some 55), (.addr 1 (.tmp 4)), none, false⟩, ⟨(some 56), (.load 1 false (.tmp 55)), none, false⟩, ⟨(some 57), (.call 29 [(.tmp 52), (.tmp 54), (.tmp 56)] false), none, false⟩, ⟨(some 58), (.build [(.int .i64 0), .nilsl] [(0, (1, (.tmp 51))), (1, (1, (.tmp 57)))]), none, true⟩, ⟨none, (.store 2 (.tmp 6) (.tmp 58)), none, true⟩, ⟨(some 7), (.mv (.val (.int .i64 0))), none, true⟩]) .ret))))))))
def R6 : List LRes := [(.cell 6 2 true), (.tmp 7)]
theorem low6 : Try.f6.body.bind (lowerCode Try.prog 59) = some L6 := by kernel_rfl
theorem res6 : lowerRes Try.prog Try.f6.results.toList = some R6 := by kernel_rfl
set_option maxRecDepth 100000 in
def L7 : LC := (.seq (.reg none [⟨(some 3), (.box (.tmp 1)), none, true⟩, ⟨(some 4), (.mv (.val .nilsl)), none, true⟩, ⟨(some 5), (.mv (.val (.int .i64 0))), none, true⟩]) (.seq (.seq (.reg none [⟨(some 10), (.mv (.tmp 0)), none, true⟩, ⟨(some 11), (.load 2 true (.tmp 3)), none, true⟩, ⟨(some 12), (.call 12 [(.tmp 10), (.tmp 11)] false), none, true⟩, ⟨(some 6), (.mv (.tmp 12)), none, true⟩]) (.seq (.reg none [⟨(some 13), (.mv (.tmp 6)), none, true⟩, ⟨(some 14), (.bin .neq (.tmp 13) (.val (.int .i64 0))), none, true⟩]) (.cond (.tmp 14) (.seq (.reg none [⟨(some 15), (.mv (.tmp 6)), none, true⟩, ⟨(some 4), (.mv (.val .nilsl)), none, true⟩, ⟨(some 5), (.mv (.tmp 15)), none, true⟩]) .ret) .skip))) (.seq (.reg none [⟨(some 7), (.mv (.val .nilsl)), none, true⟩]) (.seq (.seq (.reg none [⟨(some 16), (.addr 1 (.tmp 3)), none, true⟩, ⟨(some 17), (.load 1 false (.tmp 16)), none, true⟩, ⟨(some 18), (.len false (.tmp 17)), none, true⟩, ⟨(some 19), (.mv (.val (.int .i64 0))), none, true⟩]) (.block 0 (.loop (.seq (.reg none [⟨(some 20), (.bin .lss (.tmp 19) (.tmp 18)), none, true⟩]) (.seq (.cond (.tmp 20) .skip (.exit 0)) (.seq (.block 1 (.seq (.reg none [⟨(some 21), (.iaddrS 2 (.tmp 17) (.tmp 19)), none, true⟩, ⟨(some 22), (.load 2 true (.tmp 21)), none, true⟩, ⟨(some 9), (.alloc [(.int .i64 0), (.int .i64 0)]), none, true⟩, ⟨none, (.store 2 (.tmp 9) (.tmp 22)), none, true⟩]) (.reg none [⟨(some 23), (.mv (.tmp 7)), none, true⟩, ⟨(some 24), (.mv (.tmp 0)), none, true⟩, ⟨(some 25), (.mv (.tmp 0)), none, true⟩, ⟨(some 26), (.load 2 true (.tmp 9)), none, true⟩, ⟨(some 27), (.call 30 [(.tmp 25), (.tmp 26)] false), none, true⟩, ⟨(some 28), (.iaddrS 5 (.tmp 24) (.tmp 27)), none, true⟩, ⟨(some 29), (.addr 3 (.tmp 28)), none, true⟩, ⟨(some 30), (.load 1 false (.tmp 29)), none, true⟩, ⟨(some 31), (.mks 1 [(.str ⟨#[]⟩)] 1 [(0, (.tmp 30))]), none, true⟩, ⟨(some 32), (.append 9 1 16 (.tmp 23) (.tmp 31)), none, true⟩, ⟨(some 7), (.mv (.tmp 32)), none, true⟩]))) (.reg none [⟨(some 33), (.bin .add (.tmp 19) (.val (.int .i64 1))), none, true⟩, ⟨(some 19), (.mv (.tmp 33)), none, true⟩]))))))) (.seq (.reg none [⟨(some 34), (.mv (.tmp 7)), none, true⟩, ⟨(some 4), (.mv (.tmp 34)), none, true⟩, ⟨(some 5), (.mv (.val (.int .i64 0))), none, true⟩]) .ret)))))
def R7 : List LRes := [(.tmp 4), (.tmp 5)]
theorem low7 : Try.f7.body.bind (lowerCode Try.prog 35) = some L7 := by kernel_rfl
theorem res7 : lowerRes Try.prog Try.f7.results.toList = some R7 := by kernel_rfl
set_option maxRecDepth 100000 in
def L8 : LC := (.seq (.reg none [⟨(some 6), (.mv (.val (.int .i64 0))), none, true⟩]) (.seq (.reg none [⟨(some 10), (.mv (.tmp 0)), none, true⟩, ⟨(some 11), (.call 31 [(.tmp 10)] false), none, true⟩, ⟨(some 7), (.mv (.tmp 11)), none, true⟩]) (.seq (.seq (.reg none [⟨(some 12), (.mv (.tmp 7)), none, true⟩, ⟨(some 13), (.bin .eql (.tmp 12) (.val (.int .i64 0))), none, true⟩]) (.cond (.tmp 13) (.reg none [⟨(some 14), (.mv (.tmp 0)), none, true⟩, ⟨(some 15), (.mv (.tmp 2)), none, true⟩, ⟨(some 16), (.call 32 [(.tmp 14), (.tmp 15)] false), none, true⟩, ⟨(some 7), (.mv (.tmp 16)), none, true⟩]) .skip)) (.seq (.seq (.reg none [⟨(some 17), (.mv (.tmp 7)), none, true⟩, ⟨(some 18), (.bin .eql (.tmp 17) (.val (.int .i64 0))), none, true⟩, ⟨(some 19), (.mv (.tmp 18)), none, true⟩, ⟨(some 20), (.mv (.tmp 1)), (some (19, true)), true⟩, ⟨(some 21), (.call 33 [(.tmp 20), (.val (.int .i64 1)), (.val (.int .i64 7))] false), (some (19, true)), true⟩, ⟨(some 22), (.not (.tmp 21)), (some (19, true)), true⟩, ⟨(some 23), (.pick (.tmp 19) (.tmp 22) (.val (.bool false))), none, true⟩]) (.cond (.tmp 23) (.reg none [⟨(some 7), (.mv (.val (.int .i64 3))), none, true⟩]) .skip)) (.seq (.seq (.reg none [⟨(some 24), (.mv (.tmp 7)), none, true⟩, ⟨(some 25), (.bin .neq (.tmp 24) (.val (.int .i64 0))), none, true⟩]) (.cond (.tmp 25) (.seq (.reg none [⟨(some 26), (.mv (.tmp 7)), none, true⟩, ⟨(some 6), (.mv (.tmp 26)), none, true⟩]) .ret) .skip)) (.seq (.seq (.reg none [⟨(some 8), (.mv (.val (.int .i64 0))), none, true⟩]) (.block 0 (.loop (.seq (.seq (.reg none [⟨(some 27), (.mv (.tmp 8)), none, true⟩, ⟨(some 28), (.mv (.tmp 2)), none, true⟩, ⟨(some 29), (.len false (.tmp 28)), none, true⟩, ⟨(some 30), (.bin .lss (.tmp 27) (.tmp 29)), none, true⟩]) (.cond (.tmp 30) .skip (.exit 0))) (.seq (.block 1 (.seq (.reg none [⟨(some 33), (.mv (.tmp 0)), none, true⟩, ⟨(some 34), (.mv (.tmp 2)), none, true⟩, ⟨(some 35), (.mv (.tmp 8)), none, true⟩, ⟨(some 36), (.iaddrS 2 (.tmp 34) (.tmp 35)), none, true⟩, ⟨(some 37), (.load 2 true (.tmp 36)), none, true⟩, ⟨(some 38), (.call 10 [(.tmp 33), (.tmp 37)] false), none, true⟩, ⟨(some 9), (.mv (.tmp 38)), none, true⟩]) (.seq (.reg none [⟨(some 39), (.mv (.tmp 0)), none, true⟩, ⟨(some 40), (.mv (.tmp 9)), none, true⟩, ⟨(some 41), (.iaddrS 5 (.tmp 39) (.tmp 40)), none, true⟩, ⟨(some 42), (.addr 2 (.tmp 41)), none, true⟩, ⟨(some 43), (.load 1 false (.tmp 42)), none, true⟩, ⟨(some 44), (.mv (.tmp 1)), none, true⟩, ⟨(some 45), (.call 18 [(.tmp 43), (.tmp 44)] false), none, true⟩, ⟨(some 46), (.not (.tmp 45)), none, true⟩, ⟨(some 47), (.mv (.tmp 46)), none, true⟩, ⟨(some 48), (.mv (.tmp 0)), (some (47, false)), true⟩, ⟨(some 49), (.mv (.tmp 1)), (some (47, false)), true⟩, ⟨(some 50), (.mv (.tmp 9)), (some (47, false)), true⟩, ⟨(some 51), (.mv (.tmp 2)), (some (47, false)), true⟩, ⟨(some 52), (.call 34 [(.tmp 48), (.tmp 49), (.tmp 50), (.tmp 51)] false), (some (47, false)), true⟩, ⟨(some 53), (.not (.tmp 52)), (some (47, false)), true⟩, ⟨(some 54), (.pick (.tmp 47) (.val (.bool true)) (.tmp 53)), none, true⟩]) (.cond (.tmp 54) (.seq (.reg none [⟨(some 6), (.mv (.val (.int .i64 4))), none, true⟩]) .ret) .skip)))) (.reg none [⟨(some 31), (.mv (.tmp 8)), none, true⟩, ⟨(some 32), (.bin .add (.tmp 31) (.val (.int .i64 1))), none, true⟩, ⟨(some 8), (.mv (.tmp 32)), none, true⟩])))))) (.seq (.seq (.reg none [⟨(some 55), (.mv (.tmp 0)), none, true⟩, ⟨(some 56), (.mv (.tmp 2)), none, true⟩, ⟨(some 57), (.call 35 [(.tmp 55), (.tmp 56)] false), none, true⟩, ⟨(some 58), (.not (.tmp 57)), none, true⟩]) (.cond (.tmp 58) (.seq (.reg none [⟨(some 6), (.mv (.val (.int .i64 4))), none, true⟩]) .ret) .skip)) (.seq (.reg none [⟨(some 6), (.mv (.val (.int .i64 0))), none, true⟩]) .ret))))))))
def R8 : List LRes := [(.tmp 6)]
theorem low8 : Try.f8.body.bind (lowerCode Try.prog 59) = some L8 := by kernel_rfl
theorem res8 : lowerRes Try.prog Try.f8.results.toList = some R8 := by kernel_rfl
set_option maxRecDepth 100000 in
def L9 : LC := (.seq (.reg none [⟨(some 4), (.box (.tmp 1)), none, true⟩, ⟨(some 5), (.box (.tmp 2)), none, true⟩, ⟨(some 6), (.alloc [(.int .i64 0), .nilsl]), none, true⟩, ⟨(some 7), (.mv (.val (.int .i64 0))), none, true⟩]) (.seq (.reg none [⟨(some 13), (.mv (.tmp 0)), none, true⟩, ⟨(some 14), (.addr 0 (.tmp 4)), none, true⟩, ⟨(some 15), (.load 1 false (.tmp 14)), none, true⟩, ⟨(some 16), (.addr 1 (.tmp 4)), none, true⟩, ⟨(some 17), (.load 1 false (.tmp 16)), none, true⟩, ⟨(some 18), (.call 8 [(.tmp 13), (.tmp 15), (.tmp 17)] false), none, true⟩, ⟨(some 8), (.mv (.tmp 18)), none, true⟩]) (.seq (.seq (.reg none [⟨(some 19), (.mv (.tmp 8)), none, true⟩, ⟨(some 20), (.bin .eql (.tmp 19) (.val (.int .i64 0))), none, true⟩]) (.cond (.tmp 20) (.reg none [⟨(some 21), (.load 2 true (.tmp 5)), none, true⟩, ⟨(some 22), (.call 36 [(.tmp 21)] false), none, true⟩, ⟨(some 8), (.mv (.tmp 22)), none, true⟩]) .skip)) (.seq (.seq (.reg none [⟨(some 23), (.mv (.tmp 8)), none, true⟩, ⟨(some 24), (.bin .neq (.tmp 23) (.val (.int .i64 0))), none, true⟩]) (.cond (.tmp 24) (.seq (.reg none [⟨(some 25), (.build [(.int .i64 0), .nilsl] []), none, true⟩, ⟨(some 26), (.mv (.tmp 8)), none, true⟩, ⟨none, (.store 2 (.tmp 6) (.tmp 25)), none, true⟩, ⟨(some 7), (.mv (.tmp 26)), none, true⟩]) .ret) .skip)) (.seq (.reg none [⟨(some 28), (.mv (.tmp 0)), none, true⟩, ⟨(some 29), (.load 2 true (.tmp 5)), none, true⟩, ⟨(some 30), (.call 37 [(.tmp 28), (.tmp 29)] false), none, true⟩, ⟨(some 27), (.mv (.tmp 30)), none, true⟩, ⟨(some 31), (.ext 0 (.tmp 27)), none, true⟩, ⟨(some 32), (.ext 1 (.tmp 27)), none, true⟩, ⟨(some 9), (.mv (.tmp 31)), none, true⟩, ⟨(some 10), (.mv (.tmp 32)), none, true⟩]) (.seq (.reg none [⟨(some 33), (.mv (.tmp 0)), none, true⟩, ⟨(some 34), (.call 38 [(.tmp 33)] false), none, true⟩, ⟨(some 11), (.alloc [(.int .i64 0), (.int .i64 0)]), none, true⟩, ⟨none, (.store 2 (.tmp 11) (.tmp 34)), none, true⟩]) (.seq (.reg none [⟨(some 35), (.mv (.tmp 10)), none, true⟩, ⟨(some 36), (.mv (.tmp 35)), none, true⟩, ⟨(some 37), (.iaddrA 1 2 (.tmp 5) (.val (.int .i64 0))), (some (36, true)), true⟩, ⟨(some 38), (.load 1 false (.tmp 37)), (some (36, true)), true⟩, ⟨(some 39), (.iaddrA 1 2 (.tmp 11) (.val (.int .i64 0))), (some (36, true)), true⟩, ⟨(some 40), (.load 1 false (.tmp 39)), (some (36, true)), true⟩, ⟨(some 41), (.bin .leq (.tmp 38) (.tmp 40)), (some (36, true)), true⟩, ⟨(some 42), (.pick (.tmp 36) (.tmp 41) (.val (.bool false))), none, true⟩, ⟨(some 43), (.mv (.tmp 42)), none, true⟩, ⟨(some 44), (.iaddrA 1 2 (.tmp 5) (.val (.int .i64 1))), (some (43, true)), true⟩, ⟨(some 45), (.load 1 false (.tmp 44)), (some (43, true)), true⟩, ⟨(some 46), (.iaddrA 1 2 (.tmp 11) (.val (.int .i64 1))), (some (43, true)), true⟩, ⟨(some 47), (.load 1 false (.tmp 46)), (some (43, true)), true⟩, ⟨(some 48), (.bin .leq (.tmp 45) (.tmp 47)), (some (43, true)), true⟩, ⟨(some 49), (.pick (.tmp 43) (.tmp 48) (.val (.bool false))), none, true⟩, ⟨(some 10), (.mv (.tmp 49)), none, true⟩]) (.seq (.seq (.reg none [⟨(some 12), (.mv (.val (.int .i64 0))), none, true⟩]) (.block 0 (.loop (.seq (.seq (.reg none [⟨(some 50), (.mv (.tmp 12)), none, true⟩, ⟨(some 51), (.addr 1 (.tmp 4)), none, true⟩, ⟨(some 52), (.load 1 false (.tmp 51)), none, true⟩, ⟨(some 53), (.len false (.tmp 52)), none, true⟩, ⟨(some 54), (.bin .lss (.tmp 50) (.tmp 53)), none, true⟩]) (.cond (.tmp 54) .skip (.exit 0))) (.seq (.block 1 (.reg (some []) [⟨(some 57), (.mv (.tmp 10)), none, true⟩, ⟨(some 58), (.mv (.tmp 57)), none, true⟩, ⟨(some 59), (.addr 1 (.tmp 4)), (some (58, true)), false⟩, ⟨(some 60), (.load 1 false (.tmp 59)), (some (58, true)), false⟩, ⟨(some 61), (.mv (.tmp 12)), (some (58, true)), true⟩, ⟨(some 62), (.iaddrS 2 (.tmp 60) (.tmp 61)), (some (58, true)), false⟩, ⟨(some 63), (.addr 1 (.tmp 62)), (some (58, true)), false⟩, ⟨(some 64), (.load 1 false (.tmp 63)), (some (58, true)), false⟩, ⟨(some 65), (.addr 1 (.tmp 4)), (some (58, true)), false⟩, ⟨(some 66), (.load 1 false (.tmp 65)), (some (58, true)), false⟩, ⟨(some 67), (.mv (.tmp 12)), (some (58, true)), true⟩, ⟨(some 68), (.iaddrS 2 (.tmp 66) (.tmp 67)), (some (58, true)), false⟩, ⟨(some 69), (.addr 0 (.tmp 68)), (some (58, true)), false⟩, ⟨(some 70), (.load 1 false (.tmp 69)), (some (58, true)), false⟩, ⟨(some 71), (.iaddrA 1 2 (.tmp 5) (.tmp 70)), (some (58, true)), true⟩, ⟨(some 72), (.load 1 false (.tmp 71)), (some (58, true)), false⟩, ⟨(some 73), (.bin .leq (.tmp 64) (.tmp 72)), (some (58, true)), true⟩, ⟨(some 74), (.pick (.tmp 58) (.tmp 73) (.val (.bool false))), none, true⟩, ⟨(some 10), (.mv (.tmp 74)), none, true⟩])) (.reg none [⟨(some 55), (.mv (.tmp 12)), none, true⟩, ⟨(some 56), (.bin .add (.tmp 55) (.val (.int .i64 1))), none, true⟩, ⟨(some 12), (.mv (.tmp 56)), none, true⟩])))))) (.seq (.seq (.reg none [⟨(some 75), (.mv (.tmp 10)), none, true⟩, ⟨(some 76), (.not (.tmp 75)), none, true⟩]) (.cond (.tmp 76) (.seq (.reg none [⟨(some 77), (.build [(.int .i64 0), .nilsl] []), none, true⟩, ⟨none, (.store 2 (.tmp 6) (.tmp 77)), none, true⟩, ⟨(some 7), (.mv (.val (.int .i64 4))), none, true⟩]) .ret) .skip)) (.seq (.reg (some []) [⟨(some 78), (.addr 0 (.tmp 4)), none, false⟩, ⟨(some 79), (.load 1 false (.tmp 78)), none, false⟩, ⟨(some 80), (.mv (.tmp 9)), none, true⟩, ⟨(some 81), (.addr 0 (.tmp 4)), none, false⟩, ⟨(some 82), (.load 1 false (.tmp 81)), none, false⟩, ⟨(some 83), (.addr 1 (.tmp 4)), none, false⟩, ⟨(some 84), (.load 1 false (.tmp 83)), none, false⟩, ⟨(some 85), (.call 39 [(.tmp 80), (.tmp 82), (.tmp 84)] false), none, false⟩, ⟨(some 86), (.build [(.int .i64 0), .nilsl] [(0, (1, (.tmp 79))), (1, (1, (.tmp 85)))]), none, true⟩, ⟨none, (.store 2 (.tmp 6) (.tmp 86)), none, true⟩, ⟨(some 7), (.mv (.val (.int .i64 0))), none, true⟩]) .ret))))))))))
def R9 : List LRes := [(.cell 6 2 true), (.tmp 7)]
theorem low9 : Try.f9.body.bind (lowerCode Try.prog 87) = some L9 := by kernel_rfl
theorem res9 : lowerRes Try.prog Try.f9.results.toList = some R9 := by kernel_rfl
set_option maxRecDepth 100000 in
def L10 : LC := (.seq (.reg none [⟨(some 3), (.box (.tmp 1)), none, true⟩, ⟨(some 4), (.mv (.val (.int .i64 0))), none, true⟩]) (.seq (.seq (.reg none [⟨(some 5), (.mv (.val (.int .i64 0))), none, true⟩]) (.block 0 (.loop (.seq (.seq (.reg none [⟨(some 6), (.mv (.tmp 5)), none, true⟩, ⟨(some 7), (.mv (.tmp 0)), none, true⟩, ⟨(some 8), (.len false (.tmp 7)), none, true⟩, ⟨(some 9), (.bin .lss (.tmp 6) (.tmp 8)), none, true⟩]) (.cond (.tmp 9) .skip (.exit 0))) (.seq (.block 1 (.seq (.reg (some []) [⟨(some 12), (.mv (.tmp 0)), none, true⟩, ⟨(some 13), (.mv (.tmp 5)), none, true⟩, ⟨(some 14), (.iaddrS 5 (.tmp 12) (.tmp 13)), none, false⟩, ⟨(some 15), (.addr 0 (.tmp 14)), none, false⟩, ⟨(some 16), (.load 2 true (.tmp 15)), none, false⟩, ⟨(some 17), (.load 2 true (.tmp 3)), none, false⟩, ⟨(some 18), (.eqag false [.i, .i] (.tmp 16) (.tmp 17)), none, true⟩]) (.cond (.tmp 18) (.seq (.reg none [⟨(some 19), (.mv (.tmp 5)), none, true⟩, ⟨(some 4), (.mv (.tmp 19)), none, true⟩]) .ret) .skip))) (.reg none [⟨(some 10), (.mv (.tmp 5)), none, true⟩, ⟨(some 11), (.bin .add (.tmp 10) (.val (.int .i64 1))), none, true⟩, ⟨(some 5), (.mv (.tmp 11)), none, true⟩])))))) (.seq (.reg none [⟨(some 4), (.mv (.val (.int .i64 (-1)))), none, true⟩]) .ret)))
def R10 : List LRes := [(.tmp 4)]
theorem low10 : Try.f10.body.bind (lowerCode Try.prog 20) = some L10 := by kernel_rfl
theorem res10 : lowerRes Try.prog Try.f10.results.toList = some R10 := by kernel_rfl
set_option maxRecDepth 100000 in
def L11 : LC := (.seq (.reg none [⟨(some 0), (.mv (.val (.bool false))), none, true⟩]) (.seq (.reg none [⟨(some 10), (.call 40 [] false), none, true⟩, ⟨(some 11), (.build [(.int .i64 0), .nilsl] [(0, (1, (.val (.int .i64 1))))]), none, true⟩, ⟨(some 12), (.build [(.int .i64 0), (.int .i64 0)] [(0, (1, (.val (.int .i64 1)))), (1, (1, (.val (.int .i64 1))))]), none, true⟩, ⟨(some 13), (.call 6 [(.tmp 10), (.tmp 11), (.tmp 12)] false), none, true⟩, ⟨(some 9), (.mv (.tmp 13)), none, true⟩, ⟨(some 14), (.ext 0 (.tmp 9)), none, true⟩, ⟨(some 15), (.ext 1 (.tmp 9)), none, true⟩, ⟨(some 1), (.alloc [(.int .i64 0), .nilsl]), none, true⟩, ⟨none, (.store 2 (.tmp 1) (.tmp 14)), none, true⟩, ⟨(some 2), (.mv (.tmp 15)), none, true⟩]) (.seq (.reg (some [(0, 7), (1, 7), (3, 7)]) [⟨(some 17), (.call 40 [] false), none, false⟩, ⟨(some 18), (.load 2 true (.tmp 1)), none, false⟩, ⟨(some 19), (.build [(.int .i64 0), (.int .i64 0)] [(0, (1, (.val (.int .i64 2)))), (1, (1, (.val (.int .i64 2))))]), none, true⟩, ⟨(some 20), (.call 6 [(.tmp 17), (.tmp 18), (.tmp 19)] false), none, false⟩, ⟨(some 16), (.mv (.tmp 20)), none, true⟩, ⟨(some 21), (.ext 0 (.tmp 16)), none, true⟩, ⟨(some 22), (.ext 1 (.tmp 16)), none, true⟩, ⟨(some 3), (.alloc [(.int .i64 0), .nilsl]), none, false⟩, ⟨none, (.store 2 (.tmp 3) (.tmp 21)), none, true⟩, ⟨(some 4), (.mv (.tmp 22)), none, true⟩]) (.seq (.reg (some []) [⟨(some 24), (.call 40 [] false), none, false⟩, ⟨(some 25), (.load 2 true (.tmp 3)), none, false⟩, ⟨(some 26), (.call 7 [(.tmp 24), (.tmp 25)] false), none, true⟩, ⟨(some 23), (.mv (.tmp 26)), none, true⟩, ⟨(some 27), (.ext 0 (.tmp 23)), none, true⟩, ⟨(some 28), (.ext 1 (.tmp 23)), none, true⟩, ⟨(some 5), (.mv (.tmp 27)), none, true⟩, ⟨(some 6), (.mv (.tmp 28)), none, true⟩]) (.seq (.reg (some [(0, 7), (1, 7), (3, 7)]) [⟨(some 30), (.call 40 [] false), none, false⟩, ⟨(some 31), (.load 2 true (.tmp 1)), none, false⟩, ⟨(some 32), (.build [(.int .i64 0), (.int .i64 0)] [(0, (1, (.val (.int .i64 1)))), (1, (1, (.val (.int .i64 2))))]), none, true⟩, ⟨(some 33), (.call 6 [(.tmp 30), (.tmp 31), (.tmp 32)] false), none, false⟩, ⟨(some 29), (.mv (.tmp 33)), none, true⟩, ⟨(some 34), (.ext 0 (.tmp 29)), none, true⟩, ⟨(some 35), (.ext 1 (.tmp 29)), none, true⟩, ⟨(some 7), (.alloc [(.int .i64 0), .nilsl]), none, false⟩, ⟨none, (.store 2 (.tmp 7) (.tmp 34)), none, true⟩, ⟨(some 8), (.mv (.tmp 35)), none, true⟩]) (.seq (.reg (some []) [⟨(some 36), (.mv (.tmp 2)), none, true⟩, ⟨(some 37), (.bin .eql (.tmp 36) (.val (.int .i64 0))), none, true⟩, ⟨(some 38), (.mv (.tmp 37)), none, true⟩, ⟨(some 39), (.mv (.tmp 4)), (some (38, true)), true⟩, ⟨(some 40), (.bin .eql (.tmp 39) (.val (.int .i64 0))), (some (38, true)), true⟩, ⟨(some 41), (.pick (.tmp 38) (.tmp 40) (.val (.bool false))), none, true⟩, ⟨(some 42), (.mv (.tmp 41)), none, true⟩, ⟨(some 43), (.mv (.tmp 6)), (some (42, true)), true⟩, ⟨(some 44), (.bin .eql (.tmp 43) (.val (.int .i64 0))), (some (42, true)), true⟩, ⟨(some 45), (.pick (.tmp 42) (.tmp 44) (.val (.bool false))), none, true⟩, ⟨(some 46), (.mv (.tmp 45)), none, true⟩, ⟨(some 47), (.mv (.tmp 8)), (some (46, true)), true⟩, ⟨(some 48), (.bin .eql (.tmp 47) (.val (.int .i64 4))), (some (46, true)), true⟩, ⟨(some 49), (.pick (.tmp 46) (.tmp 48) (.val (.bool false))), none, true⟩, ⟨(some 50), (.mv (.tmp 49)), none, true⟩, ⟨(some 51), (.call 40 [] false), (some (50, true)), false⟩, ⟨(some 52), (.load 2 true (.tmp 3)), (some (50, true)), false⟩, ⟨(some 53), (.call 12 [(.tmp 51), (.tmp 52)] false), (some (50, true)), true⟩, ⟨(some 54), (.bin .eql (.tmp 53) (.val (.int .i64 0))), (some (50, true)), true⟩, ⟨(some 55), (.pick (.tmp 50) (.tmp 54) (.val (.bool false))), none, true⟩, ⟨(some 56), (.mv (.tmp 55)), none, true⟩, ⟨(some 57), (.addr 1 (.tmp 1)), (some (56, true)), false⟩, ⟨(some 58), (.load 1 false (.tmp 57)), (some (56, true)), false⟩, ⟨(some 59), (.call 41 [(.val (.int .i64 0)), (.val (.int .i64 1))] false), (some (56, true)), false⟩, ⟨(some 60), (.call 41 [(.val (.int .i64 1)), (.val (.int .i64 1))] false), (some (56, true)), false⟩, ⟨(some 61), (.mks 2 [(.int .i64 0), (.int .i64 0)] 2 [(0, (.tmp 59)), (1, (.tmp 60))]), (some (56, true)), true⟩, ⟨(some 62), (.call 17 [(.tmp 58), (.tmp 61)] false), (some (56, true)), true⟩, ⟨(some 63), (.pick (.tmp 56) (.tmp 62) (.val (.bool false))), none, true⟩, ⟨(some 64), (.mv (.tmp 63)), none, true⟩, ⟨(some 65), (.mv (.tmp 5)), (some (64, true)), true⟩, ⟨(some 66), (.mks 1 [(.str ⟨#[]⟩)] 3 [(0, (.val (.str ⟨#[112, 117, 116, 32, 97, 32, 120]⟩))), (1, (.val (.str ⟨#[112, 117, 116, 32, 97, 32, 121]⟩))), (2, (.val (.str ⟨#[100, 114, 111, 112, 32, 97]⟩)))]), (some (64, true)), true⟩, ⟨(some 67), (.call 14 [(.tmp 65), (.tmp 66)] false), (some (64, true)), true⟩, ⟨(some 68), (.pick (.tmp 64) (.tmp 67) (.val (.bool false))), none, true⟩, ⟨(some 0), (.mv (.tmp 68)), none, true⟩]) .ret))))))
def R11 : List LRes := [(.tmp 0)]
theorem low11 : Try.f11.body.bind (lowerCode Try.prog 69) = some L11 := by kernel_rfl
theorem res11 : lowerRes Try.prog Try.f11.results.toList = some R11 := by kernel_rfl
set_option maxRecDepth 100000 in
def L12 : LC := (.seq (.reg none [⟨(some 3), (.box (.tmp 1)), none, true⟩, ⟨(some 4), (.mv (.val (.int .i64 0))), none, true⟩]) (.seq (.reg none [⟨(some 5), (.mv (.tmp 0)), none, true⟩, ⟨(some 6), (.addr 0 (.tmp 3)), none, true⟩, ⟨(some 7), (.load 1 false (.tmp 6)), none, true⟩, ⟨(some 8), (.addr 1 (.tmp 3)), none, true⟩, ⟨(some 9), (.load 1 false (.tmp 8)), none, true⟩, ⟨(some 10), (.call 42 [(.tmp 5), (.tmp 7), (.tmp 9)] false), none, true⟩, ⟨(some 4), (.mv (.tmp 10)), none, true⟩]) .ret))
def R12 : List LRes := [(.tmp 4)]
theorem low12 : Try.f12.body.bind (lowerCode Try.prog 11) = some L12 := by kernel_rfl
theorem res12 : lowerRes Try.prog Try.f12.results.toList = some R12 := by kernel_rfl
set_option maxRecDepth 100000 in
def L13 : LC := (.seq (.reg none [⟨(some 2), (.box (.tmp 0)), none, true⟩, ⟨(some 3), (.box (.tmp 1)), none, true⟩, ⟨(some 4), (.mv (.val (.bool false))), none, true⟩]) (.seq (.reg none [⟨(some 5), (.addr 0 (.tmp 2)), none, true⟩, ⟨(some 6), (.load 1 false (.tmp 5)), none, true⟩, ⟨(some 7), (.addr 0 (.tmp 3)), none, true⟩, ⟨(some 8), (.load 1 false (.tmp 7)), none, true⟩, ⟨(some 9), (.bin .eql (.tmp 6) (.tmp 8)), none, true⟩, ⟨(some 10), (.mv (.tmp 9)), none, true⟩, ⟨(some 11), (.addr 1 (.tmp 2)), (some (10, true)), true⟩, ⟨(some 12), (.load 1 false (.tmp 11)), (some (10, true)), true⟩, ⟨(some 13), (.addr 1 (.tmp 3)), (some (10, true)), true⟩, ⟨(some 14), (.load 1 false (.tmp 13)), (some (10, true)), true⟩, ⟨(some 15), (.call 17 [(.tmp 12), (.tmp 14)] false), (some (10, true)), true⟩, ⟨(some 16), (.pick (.tmp 10) (.tmp 15) (.val (.bool false))), none, true⟩, ⟨(some 4), (.mv (.tmp 16)), none, true⟩]) .ret))
def R13 : List LRes := [(.tmp 4)]
theorem low13 : Try.f13.body.bind (lowerCode Try.prog 17) = some L13 := by kernel_rfl
theorem res13 : lowerRes Try.prog Try.f13.results.toList = some R13 := by kernel_rfl
set_option maxRecDepth 100000 in
def L14 : LC := (.seq (.reg none [⟨(some 4), (.mv (.val (.bool false))), none, true⟩]) (.seq (.seq (.reg none [⟨(some 6), (.mv (.tmp 0)), none, true⟩, ⟨(some 7), (.len false (.tmp 6)), none, true⟩, ⟨(some 8), (.mv (.tmp 1)), none, true⟩, ⟨(some 9), (.len false (.tmp 8)), none, true⟩, ⟨(some 10), (.bin .neq (.tmp 7) (.tmp 9)), none, true⟩]) (.cond (.tmp 10) (.seq (.reg none [⟨(some 4), (.mv (.val (.bool false))), none, true⟩]) .ret) .skip)) (.seq (.seq (.reg none [⟨(some 5), (.mv (.val (.int .i64 0))), none, true⟩]) (.block 0 (.loop (.seq (.seq (.reg none [⟨(some 11), (.mv (.tmp 5)), none, true⟩, ⟨(some 12), (.mv (.tmp 0)), none, true⟩, ⟨(some 13), (.len false (.tmp 12)), none, true⟩, ⟨(some 14), (.bin .lss (.tmp 11) (.tmp 13)), none, true⟩]) (.cond (.tmp 14) .skip (.exit 0))) (.seq (.block 1 (.seq (.reg (some []) [⟨(some 17), (.mv (.tmp 0)), none, true⟩, ⟨(some 18), (.mv (.tmp 5)), none, true⟩, ⟨(some 19), (.iaddrS 1 (.tmp 17) (.tmp 18)), none, false⟩, ⟨(some 20), (.load 1 false (.tmp 19)), none, false⟩, ⟨(some 21), (.mv (.tmp 1)), none, true⟩, ⟨(some 22), (.mv (.tmp 5)), none, true⟩, ⟨(some 23), (.iaddrS 1 (.tmp 21) (.tmp 22)), none, false⟩, ⟨(some 24), (.load 1 false (.tmp 23)), none, false⟩, ⟨(some 25), (.bin .neq (.tmp 20) (.tmp 24)), none, true⟩]) (.cond (.tmp 25) (.seq (.reg none [⟨(some 4), (.mv (.val (.bool false))), none, true⟩]) .ret) .skip))) (.reg none [⟨(some 15), (.mv (.tmp 5)), none, true⟩, ⟨(some 16), (.bin .add (.tmp 15) (.val (.int .i64 1))), none, true⟩, ⟨(some 5), (.mv (.tmp 16)), none, true⟩])))))) (.seq (.reg none [⟨(some 4), (.mv (.val (.bool true))), none, true⟩]) .ret))))
def R14 : List LRes := [(.tmp 4)]
theorem low14 : Try.f14.body.bind (lowerCode Try.prog 26) = some L14 := by kernel_rfl
theorem res14 : lowerRes Try.prog Try.f14.results.toList = some R14 := by kernel_rfl
set_option maxRecDepth 100000 in
def L15 : LC := (.seq (.reg none [⟨(some 0), (.mv (.val (.bool false))), none, true⟩]) (.seq (.reg none [⟨(some 10), (.call 40 [] false), none, true⟩, ⟨(some 11), (.call 22 [(.tmp 10), (.val (.int .i64 1))] false), none, true⟩, ⟨(some 9), (.mv (.tmp 11)), none, true⟩, ⟨(some 12), (.ext 0 (.tmp 9)), none, true⟩, ⟨(some 13), (.ext 1 (.tmp 9)), none, true⟩, ⟨(some 1), (.mv (.tmp 12)), none, true⟩, ⟨(some 2), (.mv (.tmp 13)), none, true⟩]) (.seq (.reg none [⟨(some 15), (.call 40 [] false), none, true⟩, ⟨(some 16), (.call 41 [(.val (.int .i64 1)), (.val (.int .i64 1))] false), none, true⟩, ⟨(some 17), (.mks 2 [(.int .i64 0), (.int .i64 0)] 1 [(0, (.tmp 16))]), none, true⟩, ⟨(some 18), (.call 43 [(.tmp 15), (.val (.int .i64 3)), (.tmp 17)] false), none, true⟩, ⟨(some 14), (.mv (.tmp 18)), none, true⟩, ⟨(some 19), (.ext 0 (.tmp 14)), none, true⟩, ⟨(some 20), (.ext 1 (.tmp 14)), none, true⟩, ⟨(some 3), (.mv (.tmp 19)), none, true⟩, ⟨(some 4), (.mv (.tmp 20)), none, true⟩]) (.seq (.reg none [⟨(some 22), (.call 40 [] false), none, true⟩, ⟨(some 23), (.call 41 [(.val (.int .i64 1)), (.val (.int .i64 1))] false), none, true⟩, ⟨(some 24), (.call 41 [(.val (.int .i64 0)), (.val (.int .i64 1))] false), none, true⟩, ⟨(some 25), (.call 41 [(.val (.int .i64 1)), (.val (.int .i64 2))] false), none, true⟩, ⟨(some 26), (.mks 2 [(.int .i64 0), (.int .i64 0)] 3 [(0, (.tmp 23)), (1, (.tmp 24)), (2, (.tmp 25))]), none, true⟩, ⟨(some 27), (.call 16 [(.tmp 22), (.tmp 26)] false), none, true⟩, ⟨(some 21), (.mv (.tmp 27)), none, true⟩, ⟨(some 28), (.ext 0 (.tmp 21)), none, true⟩, ⟨(some 29), (.ext 1 (.tmp 21)), none, true⟩, ⟨(some 5), (.mv (.tmp 28)), none, true⟩, ⟨(some 6), (.mv (.tmp 29)), none, true⟩]) (.seq (.reg none [⟨(some 31), (.call 40 [] false), none, true⟩, ⟨(some 32), (.call 41 [(.val (.int .i64 1)), (.val (.int .i64 2))] false), none, true⟩, ⟨(some 33), (.call 41 [(.val (.int .i64 0)), (.val (.int .i64 1))] false), none, true⟩, ⟨(some 34), (.mks 2 [(.int .i64 0), (.int .i64 0)] 2 [(0, (.tmp 32)), (1, (.tmp 33))]), none, true⟩, ⟨(some 35), (.call 16 [(.tmp 31), (.tmp 34)] false), none, true⟩, ⟨(some 30), (.mv (.tmp 35)), none, true⟩, ⟨(some 36), (.ext 0 (.tmp 30)), none, true⟩, ⟨(some 37), (.ext 1 (.tmp 30)), none, true⟩, ⟨(some 7), (.mv (.tmp 36)), none, true⟩, ⟨(some 8), (.mv (.tmp 37)), none, true⟩]) (.seq (.reg none [⟨(some 38), (.mv (.tmp 2)), none, true⟩, ⟨(some 39), (.bin .eql (.tmp 38) (.val (.int .i64 0))), none, true⟩, ⟨(some 40), (.mv (.tmp 39)), none, true⟩, ⟨(some 41), (.mv (.tmp 4)), (some (40, true)), true⟩, ⟨(some 42), (.bin .eql (.tmp 41) (.val (.int .i64 0))), (some (40, true)), true⟩, ⟨(some 43), (.pick (.tmp 40) (.tmp 42) (.val (.bool false))), none, true⟩, ⟨(some 44), (.mv (.tmp 43)), none, true⟩, ⟨(some 45), (.mv (.tmp 6)), (some (44, true)), true⟩, ⟨(some 46), (.bin .eql (.tmp 45) (.val (.int .i64 0))), (some (44, true)), true⟩, ⟨(some 47), (.pick (.tmp 44) (.tmp 46) (.val (.bool false))), none, true⟩, ⟨(some 48), (.mv (.tmp 47)), none, true⟩, ⟨(some 49), (.mv (.tmp 8)), (some (48, true)), true⟩, ⟨(some 50), (.bin .eql (.tmp 49) (.val (.int .i64 0))), (some (48, true)), true⟩, ⟨(some 51), (.pick (.tmp 48) (.tmp 50) (.val (.bool false))), none, true⟩, ⟨(some 52), (.mv (.tmp 51)), none, true⟩, ⟨(some 53), (.mv (.tmp 5)), (some (52, true)), true⟩, ⟨(some 54), (.pick (.tmp 52) (.tmp 53) (.val (.bool false))), none, true⟩, ⟨(some 55), (.mv (.tmp 54)), none, true⟩, ⟨(some 56), (.mv (.tmp 7)), (some (55, true)), true⟩, ⟨(some 57), (.not (.tmp 56)), (some (55, true)), true⟩, ⟨(some 58), (.pick (.tmp 55) (.tmp 57) (.val (.bool false))), none, true⟩, ⟨(some 59), (.mv (.tmp 58)), none, true⟩, ⟨(some 60), (.mv (.tmp 1)), (some (59, true)), true⟩, ⟨(some 61), (.call 41 [(.val (.int .i64 0)), (.val (.int .i64 1))] false), (some (59, true)), true⟩, ⟨(some 62), (.call 41 [(.val (.int .i64 0)), (.val (.int .i64 2))] false), (some (59, true)), true⟩, ⟨(some 63), (.call 41 [(.val (.int .i64 1)), (.val (.int .i64 1))] false), (some (59, true)), true⟩, ⟨(some 64), (.mks 2 [(.int .i64 0), (.int .i64 0)] 3 [(0, (.tmp 61)), (1, (.tmp 62)), (2, (.tmp 63))]), (some (59, true)), true⟩, ⟨(some 65), (.call 17 [(.tmp 60), (.tmp 64)] false), (some (59, true)), true⟩, ⟨(some 66), (.pick (.tmp 59) (.tmp 65) (.val (.bool false))), none, true⟩, ⟨(some 67), (.mv (.tmp 66)), none, true⟩, ⟨(some 68), (.mv (.tmp 3)), (some (67, true)), true⟩, ⟨(some 69), (.call 41 [(.val (.int .i64 1)), (.val (.int .i64 1))] false), (some (67, true)), true⟩, ⟨(some 70), (.call 41 [(.val (.int .i64 0)), (.val (.int .i64 1))] false), (some (67, true)), true⟩, ⟨(some 71), (.call 41 [(.val (.int .i64 0)), (.val (.int .i64 2))] false), (some (67, true)), true⟩, ⟨(some 72), (.call 41 [(.val (.int .i64 1)), (.val (.int .i64 2))] false), (some (67, true)), true⟩, ⟨(some 73), (.mks 2 [(.int .i64 0), (.int .i64 0)] 4 [(0, (.tmp 69)), (1, (.tmp 70)), (2, (.tmp 71)), (3, (.tmp 72))]), (some (67, true)), true⟩, ⟨(some 74), (.call 17 [(.tmp 68), (.tmp 73)] false), (some (67, true)), true⟩, ⟨(some 75), (.pick (.tmp 67) (.tmp 74) (.val (.bool false))), none, true⟩, ⟨(some 0), (.mv (.tmp 75)), none, true⟩]) .ret))))))
def R15 : List LRes := [(.tmp 0)]
theorem low15 : Try.f15.body.bind (lowerCode Try.prog 76) = some L15 := by kernel_rfl
theorem res15 : lowerRes Try.prog Try.f15.results.toList = some R15 := by kernel_rfl
set_option maxRecDepth 100000 in
def L16 : LC := (.seq (.reg none [⟨(some 4), (.mv (.val (.bool false))), none, true⟩, ⟨(some 5), (.mv (.val (.int .i64 0))), none, true⟩]) (.seq (.reg none [⟨(some 7), (.mv (.tmp 0)), none, true⟩, ⟨(some 8), (.call 44 [(.tmp 7)] false), none, true⟩, ⟨(some 6), (.mv (.tmp 8)), none, true⟩]) (.seq (.seq (.reg none [⟨(some 9), (.mv (.tmp 6)), none, true⟩, ⟨(some 10), (.bin .eql (.tmp 9) (.val (.int .i64 0))), none, true⟩]) (.cond (.tmp 10) (.reg none [⟨(some 11), (.mv (.tmp 0)), none, true⟩, ⟨(some 12), (.mv (.tmp 1)), none, true⟩, ⟨(some 13), (.call 45 [(.tmp 11), (.tmp 12)] false), none, true⟩, ⟨(some 6), (.mv (.tmp 13)), none, true⟩]) .skip)) (.seq (.seq (.reg none [⟨(some 14), (.mv (.tmp 6)), none, true⟩, ⟨(some 15), (.bin .neq (.tmp 14) (.val (.int .i64 0))), none, true⟩]) (.cond (.tmp 15) (.seq (.reg none [⟨(some 16), (.mv (.tmp 6)), none, true⟩, ⟨(some 4), (.mv (.val (.bool false))), none, true⟩, ⟨(some 5), (.mv (.tmp 16)), none, true⟩]) .ret) .skip)) (.seq (.reg none [⟨(some 17), (.mv (.tmp 0)), none, true⟩, ⟨(some 18), (.call 47 [(.tmp 17)] false), none, true⟩, ⟨(some 19), (.mv (.tmp 1)), none, true⟩, ⟨(some 20), (.call 46 [(.tmp 18), (.tmp 19)] false), none, true⟩, ⟨(some 4), (.mv (.tmp 20)), none, true⟩, ⟨(some 5), (.mv (.val (.int .i64 0))), none, true⟩]) .ret)))))
def R16 : List LRes := [(.tmp 4), (.tmp 5)]
theorem low16 : Try.f16.body.bind (lowerCode Try.prog 21) = some L16 := by kernel_rfl
theorem res16 : lowerRes Try.prog Try.f16.results.toList = some R16 := by kernel_rfl
set_option maxRecDepth 100000 in
def L17 : LC := (.seq (.reg none [⟨(some 4), (.mv (.val (.bool false))), none, true⟩]) (.seq (.seq (.reg none [⟨(some 6), (.mv (.tmp 0)), none, true⟩, ⟨(some 7), (.len false (.tmp 6)), none, true⟩, ⟨(some 8), (.mv (.tmp 1)), none, true⟩, ⟨(some 9), (.len false (.tmp 8)), none, true⟩, ⟨(some 10), (.bin .neq (.tmp 7) (.tmp 9)), none, true⟩]) (.cond (.tmp 10) (.seq (.reg none [⟨(some 4), (.mv (.val (.bool false))), none, true⟩]) .ret) .skip)) (.seq (.seq (.reg none [⟨(some 5), (.mv (.val (.int .i64 0))), none, true⟩]) (.block 0 (.loop (.seq (.seq (.reg none [⟨(some 11), (.mv (.tmp 5)), none, true⟩, ⟨(some 12), (.mv (.tmp 0)), none, true⟩, ⟨(some 13), (.len false (.tmp 12)), none, true⟩, ⟨(some 14), (.bin .lss (.tmp 11) (.tmp 13)), none, true⟩]) (.cond (.tmp 14) .skip (.exit 0))) (.seq (.block 1 (.seq (.reg (some []) [⟨(some 17), (.mv (.tmp 0)), none, true⟩, ⟨(some 18), (.mv (.tmp 5)), none, true⟩, ⟨(some 19), (.iaddrS 2 (.tmp 17) (.tmp 18)), none, false⟩, ⟨(some 20), (.load 2 true (.tmp 19)), none, false⟩, ⟨(some 21), (.mv (.tmp 1)), none, true⟩, ⟨(some 22), (.mv (.tmp 5)), none, true⟩, ⟨(some 23), (.iaddrS 2 (.tmp 21) (.tmp 22)), none, false⟩, ⟨(some 24), (.load 2 true (.tmp 23)), none, false⟩, ⟨(some 25), (.eqag true [.i, .i] (.tmp 20) (.tmp 24)), none, true⟩]) (.cond (.tmp 25) (.seq (.reg none [⟨(some 4), (.mv (.val (.bool false))), none, true⟩]) .ret) .skip))) (.reg none [⟨(some 15), (.mv (.tmp 5)), none, true⟩, ⟨(some 16), (.bin .add (.tmp 15) (.val (.int .i64 1))), none, true⟩, ⟨(some 5), (.mv (.tmp 16)), none, true⟩])))))) (.seq (.reg none [⟨(some 4), (.mv (.val (.bool true))), none, true⟩]) .ret))))
def R17 : List LRes := [(.tmp 4)]
theorem low17 : Try.f17.body.bind (lowerCode Try.prog 26) = some L17 := by kernel_rfl
theorem res17 : lowerRes Try.prog Try.f17.results.toList = some R17 := by kernel_rfl
set_option maxRecDepth 100000 in
def L18 : LC := (.seq (.reg none [⟨(some 4), (.mv (.val (.bool false))), none, true⟩]) (.seq (.seq (.reg none [⟨(some 5), (.mv (.val (.int .i64 0))), none, true⟩]) (.block 0 (.loop (.seq (.seq (.reg none [⟨(some 6), (.mv (.tmp 5)), none, true⟩, ⟨(some 7), (.bin .lss (.tmp 6) (.val (.int .i64 3))), none, true⟩]) (.cond (.tmp 7) .skip (.exit 0))) (.seq (.block 1 (.seq (.reg none [⟨(some 10), (.mv (.tmp 0)), none, true⟩, ⟨(some 11), (.mv (.tmp 5)), none, true⟩, ⟨(some 12), (.call 48 [(.tmp 10), (.tmp 11)] false), none, true⟩, ⟨(some 13), (.mv (.tmp 12)), none, true⟩, ⟨(some 14), (.mv (.tmp 1)), (some (13, true)), true⟩, ⟨(some 15), (.mv (.tmp 5)), (some (13, true)), true⟩, ⟨(some 16), (.call 48 [(.tmp 14), (.tmp 15)] false), (some (13, true)), true⟩, ⟨(some 17), (.pick (.tmp 13) (.tmp 16) (.val (.bool false))), none, true⟩]) (.cond (.tmp 17) (.seq (.reg none [⟨(some 4), (.mv (.val (.bool true))), none, true⟩]) .ret) .skip))) (.reg none [⟨(some 8), (.mv (.tmp 5)), none, true⟩, ⟨(some 9), (.bin .add (.tmp 8) (.val (.int .i64 1))), none, true⟩, ⟨(some 5), (.mv (.tmp 9)), none, true⟩])))))) (.seq (.reg none [⟨(some 4), (.mv (.val (.bool false))), none, true⟩]) .ret)))
def R18 : List LRes := [(.tmp 4)]
theorem low18 : Try.f18.body.bind (lowerCode Try.prog 18) = some L18 := by kernel_rfl
theorem res18 : lowerRes Try.prog Try.f18.results.toList = some R18 := by kernel_rfl
set_option maxRecDepth 100000 in
def L19 : LC := (.seq (.reg none [⟨(some 3), (.box (.tmp 1)), none, true⟩, ⟨(some 4), (.mv (.val (.bool false))), none, true⟩]) (.seq (.seq (.reg none [⟨(some 5), (.mv (.val (.int .i64 0))), none, true⟩]) (.block 0 (.loop (.seq (.seq (.reg none [⟨(some 6), (.mv (.tmp 5)), none, true⟩, ⟨(some 7), (.mv (.tmp 0)), none, true⟩, ⟨(some 8), (.len false (.tmp 7)), none, true⟩, ⟨(some 9), (.bin .lss (.tmp 6) (.tmp 8)), none, true⟩]) (.cond (.tmp 9) .skip (.exit 0))) (.seq (.block 1 (.seq (.reg (some []) [⟨(some 12), (.mv (.tmp 0)), none, true⟩, ⟨(some 13), (.mv (.tmp 5)), none, true⟩, ⟨(some 14), (.iaddrS 2 (.tmp 12) (.tmp 13)), none, false⟩, ⟨(some 15), (.load 2 true (.tmp 14)), none, false⟩, ⟨(some 16), (.load 2 true (.tmp 3)), none, false⟩, ⟨(some 17), (.eqag false [.i, .i] (.tmp 15) (.tmp 16)), none, true⟩]) (.cond (.tmp 17) (.seq (.reg none [⟨(some 4), (.mv (.val (.bool true))), none, true⟩]) .ret) .skip))) (.reg none [⟨(some 10), (.mv (.tmp 5)), none, true⟩, ⟨(some 11), (.bin .add (.tmp 10) (.val (.int .i64 1))), none, true⟩, ⟨(some 5), (.mv (.tmp 11)), none, true⟩])))))) (.seq (.reg none [⟨(some 4), (.mv (.val (.bool false))), none, true⟩]) .ret)))
def R19 : List LRes := [(.tmp 4)]
theorem low19 : Try.f19.body.bind (lowerCode Try.prog 18) = some L19 := by kernel_rfl
theorem res19 : lowerRes Try.prog Try.f19.results.toList = some R19 := by kernel_rfl
set_option maxRecDepth 100000 in
def L20 : LC := (.seq (.reg none [⟨(some 0), (.mv (.val (.bool false))), none, true⟩]) (.seq (.reg none [⟨(some 8), (.call 40 [] false), none, true⟩, ⟨(some 9), (.call 41 [(.val (.int .i64 1)), (.val (.int .i64 2))] false), none, true⟩, ⟨(some 10), (.call 49 [(.tmp 8), (.tmp 9)] false), none, true⟩, ⟨(some 7), (.mv (.tmp 10)), none, true⟩, ⟨(some 11), (.ext 0 (.tmp 7)), none, true⟩, ⟨(some 12), (.ext 1 (.tmp 7)), none, true⟩, ⟨(some 1), (.mv (.tmp 11)), none, true⟩, ⟨(some 2), (.mv (.tmp 12)), none, true⟩]) (.seq (.reg none [⟨(some 14), (.call 40 [] false), none, true⟩, ⟨(some 15), (.call 50 [(.tmp 14), (.val (.int .i64 1))] false), none, true⟩, ⟨(some 13), (.mv (.tmp 15)), none, true⟩, ⟨(some 16), (.ext 0 (.tmp 13)), none, true⟩, ⟨(some 17), (.ext 1 (.tmp 13)), none, true⟩, ⟨(some 3), (.mv (.tmp 16)), none, true⟩, ⟨(some 4), (.mv (.tmp 17)), none, true⟩]) (.seq (.reg none [⟨(some 19), (.call 40 [] false), none, true⟩, ⟨(some 20), (.call 21 [(.tmp 19)] false), none, true⟩, ⟨(some 18), (.mv (.tmp 20)), none, true⟩, ⟨(some 21), (.ext 0 (.tmp 18)), none, true⟩, ⟨(some 22), (.ext 1 (.tmp 18)), none, true⟩, ⟨(some 5), (.alloc [(.int .i64 0), (.int .i64 0)]), none, true⟩, ⟨none, (.store 2 (.tmp 5) (.tmp 21)), none, true⟩, ⟨(some 6), (.mv (.tmp 22)), none, true⟩]) (.seq (.reg none [⟨(some 23), (.call 40 [] false), none, true⟩, ⟨(some 24), (.call 44 [(.tmp 23)] false), none, true⟩, ⟨(some 25), (.bin .eql (.tmp 24) (.val (.int .i64 0))), none, true⟩, ⟨(some 26), (.mv (.tmp 25)), none, true⟩, ⟨(some 27), (.mv (.tmp 2)), (some (26, true)), true⟩, ⟨(some 28), (.bin .eql (.tmp 27) (.val (.int .i64 0))), (some (26, true)), true⟩, ⟨(some 29), (.pick (.tmp 26) (.tmp 28) (.val (.bool false))), none, true⟩, ⟨(some 30), (.mv (.tmp 29)), none, true⟩, ⟨(some 31), (.mv (.tmp 4)), (some (30, true)), true⟩, ⟨(some 32), (.bin .eql (.tmp 31) (.val (.int .i64 0))), (some (30, true)), true⟩, ⟨(some 33), (.pick (.tmp 30) (.tmp 32) (.val (.bool false))), none, true⟩, ⟨(some 34), (.mv (.tmp 33)), none, true⟩, ⟨(some 35), (.mv (.tmp 6)), (some (34, true)), true⟩, ⟨(some 36), (.bin .eql (.tmp 35) (.val (.int .i64 0))), (some (34, true)), true⟩, ⟨(some 37), (.pick (.tmp 34) (.tmp 36) (.val (.bool false))), none, true⟩, ⟨(some 38), (.mv (.tmp 37)), none, true⟩, ⟨(some 39), (.mv (.tmp 1)), (some (38, true)), true⟩, ⟨(some 40), (.call 41 [(.val (.int .i64 0)), (.val (.int .i64 1))] false), (some (38, true)), true⟩, ⟨(some 41), (.call 41 [(.val (.int .i64 0)), (.val (.int .i64 2))] false), (some (38, true)), true⟩, ⟨(some 42), (.call 41 [(.val (.int .i64 1)), (.val (.int .i64 1))] false), (some (38, true)), true⟩, ⟨(some 43), (.mks 2 [(.int .i64 0), (.int .i64 0)] 3 [(0, (.tmp 40)), (1, (.tmp 41)), (2, (.tmp 42))]), (some (38, true)), true⟩, ⟨(some 44), (.call 17 [(.tmp 39), (.tmp 43)] false), (some (38, true)), true⟩, ⟨(some 45), (.pick (.tmp 38) (.tmp 44) (.val (.bool false))), none, true⟩, ⟨(some 46), (.mv (.tmp 45)), none, true⟩, ⟨(some 47), (.mv (.tmp 3)), (some (46, true)), true⟩, ⟨(some 48), (.call 41 [(.val (.int .i64 0)), (.val (.int .i64 2))] false), (some (46, true)), true⟩, ⟨(some 49), (.call 41 [(.val (.int .i64 1)), (.val (.int .i64 1))] false), (some (46, true)), true⟩, ⟨(some 50), (.mks 2 [(.int .i64 0), (.int .i64 0)] 2 [(0, (.tmp 48)), (1, (.tmp 49))]), (some (46, true)), true⟩, ⟨(some 51), (.call 17 [(.tmp 47), (.tmp 50)] false), (some (46, true)), true⟩, ⟨(some 52), (.pick (.tmp 46) (.tmp 51) (.val (.bool false))), none, true⟩, ⟨(some 53), (.mv (.tmp 52)), none, true⟩, ⟨(some 54), (.load 2 true (.tmp 5)), (some (53, true)), true⟩, ⟨(some 55), (.build [(.int .i64 0), (.int .i64 0)] [(0, (1, (.val (.int .i64 2)))), (1, (1, (.val (.int .i64 2))))]), (some (53, true)), true⟩, ⟨(some 56), (.eqag false [.i, .i] (.tmp 54) (.tmp 55)), (some (53, true)), true⟩, ⟨(some 57), (.pick (.tmp 53) (.tmp 56) (.val (.bool false))), none, true⟩, ⟨(some 0), (.mv (.tmp 57)), none, true⟩]) .ret)))))
def R20 : List LRes := [(.tmp 0)]
theorem low20 : Try.f20.body.bind (lowerCode Try.prog 58) = some L20 := by kernel_rfl
theorem res20 : lowerRes Try.prog Try.f20.results.toList = some R20 := by kernel_rfl
set_option maxRecDepth 100000 in
def L21 : LC := (.seq (.reg none [⟨(some 2), (.alloc [(.int .i64 0), (.int .i64 0)]), none, true⟩, ⟨(some 3), (.mv (.val (.int .i64 0))), none, true⟩]) (.seq (.seq (.reg none [⟨(some 5), (.mv (.tmp 0)), none, true⟩, ⟨(some 6), (.call 44 [(.tmp 5)] false), none, true⟩, ⟨(some 4), (.mv (.tmp 6)), none, true⟩]) (.seq (.reg none [⟨(some 7), (.mv (.tmp 4)), none, true⟩, ⟨(some 8), (.bin .neq (.tmp 7) (.val (.int .i64 0))), none, true⟩]) (.cond (.tmp 8) (.seq (.reg none [⟨(some 9), (.build [(.int .i64 0), (.int .i64 0)] []), none, true⟩, ⟨(some 10), (.mv (.tmp 4)), none, true⟩, ⟨none, (.store 2 (.tmp 2) (.tmp 9)), none, true⟩, ⟨(some 3), (.mv (.tmp 10)), none, true⟩]) .ret) .skip))) (.seq (.reg none [⟨(some 11), (.mv (.tmp 0)), none, true⟩, ⟨(some 12), (.call 26 [(.tmp 11)] false), none, true⟩, ⟨none, (.store 2 (.tmp 2) (.tmp 12)), none, true⟩, ⟨(some 3), (.mv (.val (.int .i64 0))), none, true⟩]) .ret)))
def R21 : List LRes := [(.cell 2 2 true), (.tmp 3)]
theorem low21 : Try.f21.body.bind (lowerCode Try.prog 13) = some L21 := by kernel_rfl
theorem res21 : lowerRes Try.prog Try.f21.results.toList = some R21 := by kernel_rfl
set_option maxRecDepth 100000 in
def L22 : LC := (.seq (.reg none [⟨(some 4), (.mv (.val .nilsl)), none, true⟩, ⟨(some 5), (.mv (.val (.int .i64 0))), none, true⟩]) (.seq (.reg none [⟨(some 6), (.mv (.tmp 0)), none, true⟩, ⟨(some 7), (.mv (.tmp 1)), none, true⟩, ⟨(some 8), (.call 43 [(.tmp 6), (.tmp 7), (.val .nilsl)] false), none, true⟩, ⟨(some 9), (.ext 0 (.tmp 8)), none, true⟩, ⟨(some 10), (.ext 1 (.tmp 8)), none, true⟩, ⟨(some 4), (.mv (.tmp 9)), none, true⟩, ⟨(some 5), (.mv (.tmp 10)), none, true⟩]) .ret))
def R22 : List LRes := [(.tmp 4), (.tmp 5)]
theorem low22 : Try.f22.body.bind (lowerCode Try.prog 11) = some L22 := by kernel_rfl
theorem res22 : lowerRes Try.prog Try.f22.results.toList = some R22 := by kernel_rfl
set_option maxRecDepth 100000 in
def L23 : LC := (.seq (.reg none [⟨(some 1), (.box (.tmp 0)), none, true⟩, ⟨(some 2), (.mv (.val (.int .i64 0))), none, true⟩]) (.seq (.seq (.reg none [⟨(some 5), (.load 2 true (.tmp 1)), none, true⟩, ⟨(some 6), (.mv (.val (.int .i64 0))), none, true⟩]) (.block 0 (.loop (.seq (.reg none [⟨(some 7), (.bin .lss (.tmp 6) (.val (.int .i64 2))), none, true⟩]) (.seq (.cond (.tmp 7) .skip (.exit 0)) (.seq (.block 1 (.seq (.reg none [⟨(some 8), (.idxA 1 2 false (.tmp 5) (.tmp 6)), none, true⟩, ⟨(some 4), (.mv (.tmp 8)), none, true⟩]) (.seq (.reg none [⟨(some 9), (.mv (.tmp 4)), none, true⟩, ⟨(some 10), (.bin .lss (.tmp 9) (.val (.int .i64 0))), none, true⟩, ⟨(some 11), (.mv (.tmp 10)), none, true⟩, ⟨(some 12), (.mv (.tmp 4)), (some (11, false)), true⟩, ⟨(some 13), (.bin .gtr (.tmp 12) (.val (.int .i64 20))), (some (11, false)), true⟩, ⟨(some 14), (.pick (.tmp 11) (.val (.bool true)) (.tmp 13)), none, true⟩]) (.cond (.tmp 14) (.seq (.reg none [⟨(some 2), (.mv (.val (.int .i64 3))), none, true⟩]) .ret) .skip)))) (.reg none [⟨(some 15), (.bin .add (.tmp 6) (.val (.int .i64 1))), none, true⟩, ⟨(some 6), (.mv (.tmp 15)), none, true⟩]))))))) (.seq (.reg none [⟨(some 2), (.mv (.val (.int .i64 0))), none, true⟩]) .ret)))
def R23 : List LRes := [(.tmp 2)]
theorem low23 : Try.f23.body.bind (lowerCode Try.prog 16) = some L23 := by kernel_rfl
theorem res23 : lowerRes Try.prog Try.f23.results.toList = some R23 := by kernel_rfl
set_option maxRecDepth 100000 in
def L24 : LC := (.seq (.reg none [⟨(some 2), (.mv (.val .nilsl)), none, true⟩, ⟨(some 3), (.mv (.val (.bool false))), none, true⟩]) (.seq (.reg none [⟨(some 4), (.mv (.val .nilsl)), none, true⟩]) (.seq (.seq (.reg none [⟨(some 7), (.mv (.tmp 0)), none, true⟩, ⟨(some 8), (.nilchk (.tmp 7)), none, true⟩, ⟨(some 9), (.addr 2 (.tmp 8)), none, true⟩, ⟨(some 10), (.load 1 false (.tmp 9)), none, true⟩, ⟨(some 11), (.len false (.tmp 10)), none, true⟩, ⟨(some 12), (.mv (.val (.int .i64 0))), none, true⟩]) (.block 0 (.loop (.seq (.reg none [⟨(some 13), (.bin .lss (.tmp 12) (.tmp 11)), none, true⟩]) (.seq (.cond (.tmp 13) .skip (.exit 0)) (.seq (.block 1 (.seq (.reg none [⟨(some 14), (.iaddrS 5 (.tmp 10) (.tmp 12)), none, true⟩, ⟨(some 15), (.load 5 true (.tmp 14)), none, true⟩, ⟨(some 6), (.alloc [(.int .i64 0), (.int .i64 0), (.int .i64 0), (.str ⟨#[]⟩), .nilsl]), none, true⟩, ⟨none, (.store 5 (.tmp 6) (.tmp 15)), none, true⟩]) (.seq (.seq (.reg none [⟨(some 16), (.mv (.tmp 0)), none, true⟩, ⟨(some 17), (.addr 0 (.tmp 6)), none, true⟩, ⟨(some 18), (.load 2 true (.tmp 17)), none, true⟩, ⟨(some 19), (.call 28 [(.tmp 16), (.tmp 18)] false), none, true⟩]) (.cond (.tmp 19) (.exit 1) .skip)) (.seq (.seq (.reg none [⟨(some 20), (.addr 4 (.tmp 6)), none, true⟩, ⟨(some 21), (.load 1 false (.tmp 20)), none, true⟩, ⟨(some 22), (.mv (.tmp 0)), none, true⟩, ⟨(some 23), (.clob 28 [(.tmp 22)]), none, true⟩, ⟨(some 24), (.call 27 [(.tmp 21), (.tmp 23)] false), none, true⟩]) (.cond (.tmp 24) (.seq (.reg none [⟨(some 2), (.mv (.val .nilsl)), none, true⟩, ⟨(some 3), (.mv (.val (.bool false))), none, true⟩]) .ret) .skip)) (.reg none [⟨(some 25), (.mv (.tmp 4)), none, true⟩, ⟨(some 26), (.load 5 true (.tmp 6)), none, true⟩, ⟨(some 27), (.mks 5 [(.int .i64 0), (.int .i64 0), (.int .i64 0), (.str ⟨#[]⟩), .nilsl] 1 [(0, (.tmp 26))]), none, true⟩, ⟨(some 28), (.append 38 5 64 (.tmp 25) (.tmp 27)), none, true⟩, ⟨(some 4), (.mv (.tmp 28)), none, true⟩]))))) (.reg none [⟨(some 29), (.bin .add (.tmp 12) (.val (.int .i64 1))), none, true⟩, ⟨(some 12), (.mv (.tmp 29)), none, true⟩]))))))) (.seq (.reg none [⟨(some 30), (.mv (.tmp 4)), none, true⟩, ⟨(some 2), (.mv (.tmp 30)), none, true⟩, ⟨(some 3), (.mv (.val (.bool true))), none, true⟩]) .ret))))
def R24 : List LRes := [(.tmp 2), (.tmp 3)]
theorem low24 : Try.f24.body.bind (lowerCode Try.prog 31) = some L24 := by kernel_rfl
theorem res24 : lowerRes Try.prog Try.f24.results.toList = some R24 := by kernel_rfl
set_option maxRecDepth 100000 in
def L25 : LC := (.seq (.reg none [⟨(some 2), (.box (.tmp 0)), none, true⟩, ⟨(some 3), (.box (.tmp 1)), none, true⟩, ⟨(some 4), (.mv (.val (.bool false))), none, true⟩]) (.seq (.seq (.reg none [⟨(some 6), (.mv (.val (.int .i64 0))), none, true⟩]) (.block 0 (.loop (.seq (.reg none [⟨(some 7), (.bin .lss (.tmp 6) (.val (.int .i64 2))), none, true⟩]) (.seq (.cond (.tmp 7) .skip (.exit 0)) (.seq (.block 1 (.seq (.reg none [⟨(some 8), (.mv (.tmp 6)), none, true⟩, ⟨(some 5), (.mv (.tmp 8)), none, true⟩]) (.seq (.reg (some []) [⟨(some 9), (.mv (.tmp 5)), none, true⟩, ⟨(some 10), (.iaddrA 1 2 (.tmp 2) (.tmp 9)), none, true⟩, ⟨(some 11), (.load 1 false (.tmp 10)), none, false⟩, ⟨(some 12), (.mv (.tmp 5)), none, true⟩, ⟨(some 13), (.iaddrA 1 2 (.tmp 3) (.tmp 12)), none, true⟩, ⟨(some 14), (.load 1 false (.tmp 13)), none, false⟩, ⟨(some 15), (.bin .gtr (.tmp 11) (.tmp 14)), none, true⟩]) (.cond (.tmp 15) (.seq (.reg none [⟨(some 4), (.mv (.val (.bool false))), none, true⟩]) .ret) .skip)))) (.reg none [⟨(some 16), (.bin .add (.tmp 6) (.val (.int .i64 1))), none, true⟩, ⟨(some 6), (.mv (.tmp 16)), none, true⟩]))))))) (.seq (.reg none [⟨(some 4), (.mv (.val (.bool true))), none, true⟩]) .ret)))
def R25 : List LRes := [(.tmp 4)]
theorem low25 : Try.f25.body.bind (lowerCode Try.prog 17) = some L25 := by kernel_rfl
theorem res25 : lowerRes Try.prog Try.f25.results.toList = some R25 := by kernel_rfl
set_option maxRecDepth 100000 in
def L26 : LC := (.seq (.reg none [⟨(some 2), (.alloc [(.int .i64 0), (.int .i64 0)]), none, true⟩]) (.seq (.reg none [⟨(some 3), (.alloc [(.int .i64 0), (.int .i64 0)]), none, true⟩]) (.seq (.seq (.reg none [⟨(some 6), (.mv (.tmp 0)), none, true⟩, ⟨(some 7), (.len false (.tmp 6)), none, true⟩, ⟨(some 8), (.mv (.val (.int .i64 0))), none, true⟩]) (.block 0 (.loop (.seq (.reg none [⟨(some 9), (.bin .lss (.tmp 8) (.tmp 7)), none, true⟩]) (.seq (.cond (.tmp 9) .skip (.exit 0)) (.seq (.block 1 (.seq (.reg none [⟨(some 10), (.iaddrS 5 (.tmp 6) (.tmp 8)), none, true⟩, ⟨(some 11), (.load 5 true (.tmp 10)), none, true⟩, ⟨(some 5), (.alloc [(.int .i64 0), (.int .i64 0), (.int .i64 0), (.str ⟨#[]⟩), .nilsl]), none, true⟩, ⟨none, (.store 5 (.tmp 5) (.tmp 11)), none, true⟩]) (.reg none [⟨(some 12), (.addr 0 (.tmp 5)), none, true⟩, ⟨(some 13), (.addr 0 (.tmp 12)), none, true⟩, ⟨(some 14), (.load 1 false (.tmp 13)), none, true⟩, ⟨(some 15), (.iaddrA 1 2 (.tmp 3) (.tmp 14)), none, true⟩, ⟨(some 16), (.load 1 false (.tmp 15)), none, true⟩, ⟨(some 17), (.bin .add (.tmp 16) (.val (.int .i64 1))), none, true⟩, ⟨(some 18), (.iaddrA 1 2 (.tmp 3) (.tmp 14)), none, true⟩, ⟨none, (.store 1 (.tmp 18) (.tmp 17)), none, true⟩]))) (.reg none [⟨(some 19), (.bin .add (.tmp 8) (.val (.int .i64 1))), none, true⟩, ⟨(some 8), (.mv (.tmp 19)), none, true⟩]))))))) (.seq (.reg none [⟨(some 20), (.load 2 true (.tmp 3)), none, true⟩, ⟨none, (.store 2 (.tmp 2) (.tmp 20)), none, true⟩]) .ret))))
def R26 : List LRes := [(.cell 2 2 true)]
theorem low26 : Try.f26.body.bind (lowerCode Try.prog 21) = some L26 := by kernel_rfl
theorem res26 : lowerRes Try.prog Try.f26.results.toList = some R26 := by kernel_rfl
set_option maxRecDepth 100000 in
def L27 : LC := (.seq (.reg none [⟨(some 4), (.mv (.val (.bool false))), none, true⟩]) (.seq (.reg none [⟨(some 5), (.mv (.tmp 0)), none, true⟩, ⟨(some 6), (.mv (.tmp 1)), none, true⟩, ⟨(some 7), (.call 51 [(.tmp 5), (.tmp 6)] false), none, true⟩, ⟨(some 8), (.bin .geq (.tmp 7) (.val (.int .i64 0))), none, true⟩, ⟨(some 4), (.mv (.tmp 8)), none, true⟩]) .ret))
def R27 : List LRes := [(.tmp 4)]
theorem low27 : Try.f27.body.bind (lowerCode Try.prog 9) = some L27 := by kernel_rfl
theorem res27 : lowerRes Try.prog Try.f27.results.toList = some R27 := by kernel_rfl
set_option maxRecDepth 100000 in
def L28 : LC := (.seq (.reg none [⟨(some 3), (.box (.tmp 1)), none, true⟩, ⟨(some 4), (.mv (.val (.bool false))), none, true⟩]) (.seq (.reg (some []) [⟨(some 5), (.mv (.tmp 0)), none, true⟩, ⟨(some 6), (.nilchk (.tmp 5)), none, false⟩, ⟨(some 7), (.addr 3 (.tmp 6)), none, false⟩, ⟨(some 8), (.load 2 true (.tmp 7)), none, false⟩, ⟨(some 9), (.load 2 true (.tmp 3)), none, false⟩, ⟨(some 10), (.call 52 [(.tmp 8), (.tmp 9)] false), none, true⟩, ⟨(some 11), (.not (.tmp 10)), none, true⟩, ⟨(some 4), (.mv (.tmp 11)), none, true⟩]) .ret))
def R28 : List LRes := [(.tmp 4)]
theorem low28 : Try.f28.body.bind (lowerCode Try.prog 12) = some L28 := by kernel_rfl
theorem res28 : lowerRes Try.prog Try.f28.results.toList = some R28 := by kernel_rfl
set_option maxRecDepth 100000 in
def L29 : LC := (.seq (.reg none [⟨(some 6), (.mv (.val .nilsl)), none, true⟩]) (.seq (.reg none [⟨(some 10), (.mv (.tmp 0)), none, true⟩, ⟨(some 11), (.mv (.tmp 1)), none, true⟩, ⟨(some 12), (.mv (.tmp 2)), none, true⟩, ⟨(some 13), (.call 53 [(.tmp 10), (.tmp 11), (.tmp 12)] false), none, true⟩, ⟨(some 7), (.mv (.tmp 13)), none, true⟩]) (.seq (.seq (.reg none [⟨(some 15), (.mv (.tmp 7)), none, true⟩, ⟨(some 16), (.call 54 [(.tmp 15)] false), none, true⟩, ⟨(some 14), (.mv (.tmp 16)), none, true⟩, ⟨(some 17), (.ext 0 (.tmp 14)), none, true⟩, ⟨(some 18), (.ext 1 (.tmp 14)), none, true⟩, ⟨(some 8), (.alloc [(.int .i64 0), (.int .i64 0)]), none, true⟩, ⟨none, (.store 2 (.tmp 8) (.tmp 17)), none, true⟩, ⟨(some 9), (.mv (.tmp 18)), none, true⟩]) (.block 0 (.loop (.seq (.seq (.reg none [⟨(some 19), (.mv (.tmp 9)), none, true⟩]) (.cond (.tmp 19) .skip (.exit 0))) (.seq (.block 1 (.reg (some []) [⟨(some 25), (.mv (.tmp 7)), none, true⟩, ⟨(some 26), (.mv (.tmp 7)), none, true⟩, ⟨(some 27), (.nilchk (.tmp 26)), none, false⟩, ⟨(some 28), (.addr 0 (.tmp 27)), none, false⟩, ⟨(some 29), (.addr 1 (.tmp 28)), none, false⟩, ⟨(some 30), (.load 1 false (.tmp 29)), none, false⟩, ⟨(some 31), (.load 2 true (.tmp 8)), none, false⟩, ⟨(some 32), (.mks 2 [(.int .i64 0), (.int .i64 0)] 1 [(0, (.tmp 31))]), none, true⟩, ⟨(some 33), (.append 36 2 16 (.tmp 30) (.tmp 32)), none, true⟩, ⟨(some 34), (.nilchk (.tmp 25)), none, true⟩, ⟨(some 35), (.addr 0 (.tmp 34)), none, true⟩, ⟨(some 36), (.addr 1 (.tmp 35)), none, true⟩, ⟨none, (.store 1 (.tmp 36) (.tmp 33)), none, true⟩])) (.seq (.seq (.reg none [⟨(some 37), (.load 2 true (.tmp 8)), none, true⟩]) (.reg none [⟨(some 8), (.alloc [(.int .i64 0), (.int .i64 0)]), none, true⟩, ⟨none, (.store 2 (.tmp 8) (.tmp 37)), none, true⟩])) (.reg none [⟨(some 21), (.mv (.tmp 7)), none, true⟩, ⟨(some 22), (.call 54 [(.tmp 21)] false), none, true⟩, ⟨(some 20), (.mv (.tmp 22)), none, true⟩, ⟨(some 23), (.ext 0 (.tmp 20)), none, true⟩, ⟨(some 24), (.ext 1 (.tmp 20)), none, true⟩, ⟨none, (.store 2 (.tmp 8) (.tmp 23)), none, true⟩, ⟨(some 9), (.mv (.tmp 24)), none, true⟩]))))))) (.seq (.reg none [⟨(some 38), (.mv (.tmp 7)), none, true⟩, ⟨(some 39), (.nilchk (.tmp 38)), none, true⟩, ⟨(some 40), (.addr 0 (.tmp 39)), none, true⟩, ⟨(some 41), (.addr 1 (.tmp 40)), none, true⟩, ⟨(some 42), (.load 1 false (.tmp 41)), none, true⟩, ⟨(some 6), (.mv (.tmp 42)), none, true⟩]) .ret))))
def R29 : List LRes := [(.tmp 6)]
theorem low29 : Try.f29.body.bind (lowerCode Try.prog 43) = some L29 := by kernel_rfl
theorem res29 : lowerRes Try.prog Try.f29.results.toList = some R29 := by kernel_rfl
set_option maxRecDepth 100000 in
def L30 : LC := (.seq (.reg none [⟨(some 3), (.box (.tmp 1)), none, true⟩, ⟨(some 4), (.mv (.val (.int .i64 0))), none, true⟩]) (.seq (.reg none [⟨(some 5), (.mv (.tmp 0)), none, true⟩, ⟨(some 6), (.clo 56 [(.tmp 3)]), none, true⟩, ⟨(some 7), (.call 55 [(.tmp 5), (.tmp 6)] false), none, true⟩, ⟨(some 4), (.mv (.tmp 7)), none, true⟩]) .ret))
def R30 : List LRes := [(.tmp 4)]
theorem low30 : Try.f30.body.bind (lowerCode Try.prog 8) = some L30 := by kernel_rfl
theorem res30 : lowerRes Try.prog Try.f30.results.toList = some R30 := by kernel_rfl
set_option maxRecDepth 100000 in
def L31 : LC := (.seq (.reg none [⟨(some 2), (.mv (.val (.int .i64 0))), none, true⟩]) (.seq (.seq (.reg none [⟨(some 6), (.mv (.tmp 0)), none, true⟩, ⟨(some 7), (.len false (.tmp 6)), none, true⟩, ⟨(some 8), (.bin .gtr (.tmp 7) (.val (.int .i64 40))), none, true⟩]) (.cond (.tmp 8) (.seq (.reg none [⟨(some 2), (.mv (.val (.int .i64 2))), none, true⟩]) .ret) .skip)) (.seq (.seq (.reg none [⟨(some 3), (.mv (.val (.int .i64 0))), none, true⟩]) (.block 0 (.loop (.seq (.seq (.reg none [⟨(some 9), (.mv (.tmp 3)), none, true⟩, ⟨(some 10), (.mv (.tmp 0)), none, true⟩, ⟨(some 11), (.len false (.tmp 10)), none, true⟩, ⟨(some 12), (.bin .lss (.tmp 9) (.tmp 11)), none, true⟩]) (.cond (.tmp 12) .skip (.exit 0))) (.seq (.block 1 (.seq (.reg none [⟨(some 15), (.mv (.tmp 0)), none, true⟩, ⟨(some 16), (.mv (.tmp 3)), none, true⟩, ⟨(some 17), (.iaddrS 5 (.tmp 15) (.tmp 16)), none, true⟩, ⟨(some 18), (.load 5 true (.tmp 17)), none, true⟩, ⟨(some 19), (.call 57 [(.tmp 18)] false), none, true⟩, ⟨(some 4), (.mv (.tmp 19)), none, true⟩]) (.seq (.seq (.reg none [⟨(some 20), (.mv (.tmp 4)), none, true⟩, ⟨(some 21), (.bin .neq (.tmp 20) (.val (.int .i64 0))), none, true⟩]) (.cond (.tmp 21) (.seq (.reg none [⟨(some 22), (.mv (.tmp 4)), none, true⟩, ⟨(some 2), (.mv (.tmp 22)), none, true⟩]) .ret) .skip)) (.seq (.seq (.reg (some []) [⟨(some 23), (.mv (.tmp 0)), none, true⟩, ⟨(some 24), (.mv (.tmp 3)), none, true⟩, ⟨(some 25), (.slc 5 (.tmp 23) none (some (.tmp 24))), none, false⟩, ⟨(some 26), (.mv (.tmp 0)), none, true⟩, ⟨(some 27), (.mv (.tmp 3)), none, true⟩, ⟨(some 28), (.iaddrS 5 (.tmp 26) (.tmp 27)), none, false⟩, ⟨(some 29), (.addr 0 (.tmp 28)), none, false⟩, ⟨(some 30), (.load 2 true (.tmp 29)), none, false⟩, ⟨(some 31), (.call 10 [(.tmp 25), (.tmp 30)] false), none, true⟩, ⟨(some 32), (.bin .geq (.tmp 31) (.val (.int .i64 0))), none, true⟩]) (.cond (.tmp 32) (.seq (.reg none [⟨(some 2), (.mv (.val (.int .i64 6))), none, true⟩]) .ret) .skip)) (.seq (.seq (.reg (some []) [⟨(some 33), (.mv (.tmp 0)), none, true⟩, ⟨(some 34), (.mv (.tmp 3)), none, true⟩, ⟨(some 35), (.slc 5 (.tmp 33) none (some (.tmp 34))), none, false⟩, ⟨(some 36), (.call 38 [(.tmp 35)] false), none, false⟩, ⟨(some 37), (.mv (.tmp 0)), none, true⟩, ⟨(some 38), (.mv (.tmp 3)), none, true⟩, ⟨(some 39), (.iaddrS 5 (.tmp 37) (.tmp 38)), none, false⟩, ⟨(some 40), (.addr 0 (.tmp 39)), none, false⟩, ⟨(some 41), (.addr 0 (.tmp 40)), none, false⟩, ⟨(some 42), (.load 1 false (.tmp 41)), none, false⟩, ⟨(some 43), (.idxA 1 2 false (.tmp 36) (.tmp 42)), none, true⟩, ⟨(some 44), (.bin .add (.tmp 43) (.val (.int .i64 1))), none, true⟩, ⟨(some 45), (.mv (.tmp 0)), none, true⟩, ⟨(some 46), (.mv (.tmp 3)), none, true⟩, ⟨(some 47), (.iaddrS 5 (.tmp 45) (.tmp 46)), none, false⟩, ⟨(some 48), (.addr 0 (.tmp 47)), none, false⟩, ⟨(some 49), (.addr 1 (.tmp 48)), none, false⟩, ⟨(some 50), (.load 1 false (.tmp 49)), none, false⟩, ⟨(some 51), (.bin .neq (.tmp 44) (.tmp 50)), none, true⟩]) (.cond (.tmp 51) (.seq (.reg none [⟨(some 2), (.mv (.val (.int .i64 4))), none, true⟩]) .ret) .skip)) (.seq (.reg none [⟨(some 5), (.mv (.val (.int .i64 0))), none, true⟩]) (.block 2 (.loop (.seq (.seq (.reg none [⟨(some 52), (.mv (.tmp 5)), none, true⟩, ⟨(some 53), (.mv (.tmp 0)), none, true⟩, ⟨(some 54), (.mv (.tmp 3)), none, true⟩, ⟨(some 55), (.iaddrS 5 (.tmp 53) (.tmp 54)), none, true⟩, ⟨(some 56), (.addr 4 (.tmp 55)), none, true⟩, ⟨(some 57), (.load 1 false (.tmp 56)), none, true⟩, ⟨(some 58), (.len false (.tmp 57)), none, true⟩, ⟨(some 59), (.bin .lss (.tmp 52) (.tmp 58)), none, true⟩]) (.cond (.tmp 59) .skip (.exit 2))) (.seq (.block 3 (.seq (.reg (some []) [⟨(some 62), (.mv (.tmp 0)), none, true⟩, ⟨(some 63), (.mv (.tmp 3)), none, true⟩, ⟨(some 64), (.slc 5 (.tmp 62) none (some (.tmp 63))), none, false⟩, ⟨(some 65), (.mv (.tmp 0)), none, true⟩, ⟨(some 66), (.mv (.tmp 3)), none, true⟩, ⟨(some 67), (.iaddrS 5 (.tmp 65) (.tmp 66)), none, false⟩, ⟨(some 68), (.addr 4 (.tmp 67)), none, false⟩, ⟨(some 69), (.load 1 false (.tmp 68)), none, false⟩, ⟨(some 70), (.mv (.tmp 5)), none, true⟩, ⟨(some 71), (.iaddrS 2 (.tmp 69) (.tmp 70)), none, false⟩, ⟨(some 72), (.load 2 true (.tmp 71)), none, false⟩, ⟨(some 73), (.call 10 [(.tmp 64), (.tmp 72)] false), none, true⟩, ⟨(some 74), (.bin .lss (.tmp 73) (.val (.int .i64 0))), none, true⟩]) (.cond (.tmp 74) (.seq (.reg none [⟨(some 2), (.mv (.val (.int .i64 5))), none, true⟩]) .ret) .skip))) (.reg none [⟨(some 60), (.mv (.tmp 5)), none, true⟩, ⟨(some 61), (.bin .add (.tmp 60) (.val (.int .i64 1))), none, true⟩, ⟨(some 5), (.mv (.tmp 61)), none, true⟩]))))))))))) (.reg none [⟨(some 13), (.mv (.tmp 3)), none, true⟩, ⟨(some 14), (.bin .add (.tmp 13) (.val (.int .i64 1))), none, true⟩, ⟨(some 3), (.mv (.tmp 14)), none, true⟩])))))) (.seq (.reg none [⟨(some 2), (.mv (.val (.int .i64 0))), none, true⟩]) .ret))))
def R31 : List LRes := [(.tmp 2)]
theorem low31 : Try.f31.body.bind (lowerCode Try.prog 75) = some L31 := by kernel_rfl
theorem res31 : lowerRes Try.prog Try.f31.results.toList = some R31 := by kernel_rfl
set_option maxRecDepth 100000 in
def L32 : LC := (.seq (.reg none [⟨(some 4), (.mv (.val (.int .i64 0))), none, true⟩]) (.seq (.seq (.reg none [⟨(some 5), (.mv (.val (.int .i64 0))), none, true⟩]) (.block 0 (.loop (.seq (.seq (.reg none [⟨(some 6), (.mv (.tmp 5)), none, true⟩, ⟨(some 7), (.mv (.tmp 1)), none, true⟩, ⟨(some 8), (.len false (.tmp 7)), none, true⟩, ⟨(some 9), (.bin .lss (.tmp 6) (.tmp 8)), none, true⟩]) (.cond (.tmp 9) .skip (.exit 0))) (.seq (.block 1 (.seq (.seq (.reg none [⟨(some 12), (.mv (.tmp 0)), none, true⟩, ⟨(some 13), (.mv (.tmp 1)), none, true⟩, ⟨(some 14), (.mv (.tmp 5)), none, true⟩, ⟨(some 15), (.iaddrS 2 (.tmp 13) (.tmp 14)), none, true⟩, ⟨(some 16), (.load 2 true (.tmp 15)), none, true⟩, ⟨(some 17), (.call 10 [(.tmp 12), (.tmp 16)] false), none, true⟩, ⟨(some 18), (.bin .lss (.tmp 17) (.val (.int .i64 0))), none, true⟩]) (.cond (.tmp 18) (.seq (.reg none [⟨(some 4), (.mv (.val (.int .i64 5))), none, true⟩]) .ret) .skip)) (.seq (.reg (some []) [⟨(some 19), (.mv (.tmp 1)), none, true⟩, ⟨(some 20), (.mv (.tmp 5)), none, true⟩, ⟨(some 21), (.slc 2 (.tmp 19) none (some (.tmp 20))), none, false⟩, ⟨(some 22), (.mv (.tmp 1)), none, true⟩, ⟨(some 23), (.mv (.tmp 5)), none, true⟩, ⟨(some 24), (.iaddrS 2 (.tmp 22) (.tmp 23)), none, false⟩, ⟨(some 25), (.load 2 true (.tmp 24)), none, false⟩, ⟨(some 26), (.call 19 [(.tmp 21), (.tmp 25)] false), none, true⟩]) (.cond (.tmp 26) (.seq (.reg none [⟨(some 4), (.mv (.val (.int .i64 6))), none, true⟩]) .ret) .skip)))) (.reg none [⟨(some 10), (.mv (.tmp 5)), none, true⟩, ⟨(some 11), (.bin .add (.tmp 10) (.val (.int .i64 1))), none, true⟩, ⟨(some 5), (.mv (.tmp 11)), none, true⟩])))))) (.seq (.reg none [⟨(some 4), (.mv (.val (.int .i64 0))), none, true⟩]) .ret)))
def R32 : List LRes := [(.tmp 4)]
theorem low32 : Try.f32.body.bind (lowerCode Try.prog 27) = some L32 := by kernel_rfl
theorem res32 : lowerRes Try.prog Try.f32.results.toList = some R32 := by kernel_rfl
set_option maxRecDepth 100000 in
def L33 : LC := (.seq (.reg none [⟨(some 6), (.mv (.val (.bool false))), none, true⟩]) (.seq (.reg none [⟨(some 7), (.mv (.tmp 0)), none, true⟩, ⟨(some 8), (.mv (.tmp 1)), none, true⟩, ⟨(some 9), (.bin .geq (.tmp 7) (.tmp 8)), none, true⟩, ⟨(some 10), (.mv (.tmp 9)), none, true⟩, ⟨(some 11), (.mv (.tmp 0)), (some (10, true)), true⟩, ⟨(some 12), (.mv (.tmp 2)), (some (10, true)), true⟩, ⟨(some 13), (.bin .leq (.tmp 11) (.tmp 12)), (some (10, true)), true⟩, ⟨(some 14), (.pick (.tmp 10) (.tmp 13) (.val (.bool false))), none, true⟩, ⟨(some 6), (.mv (.tmp 14)), none, true⟩]) .ret))
def R33 : List LRes := [(.tmp 6)]
theorem low33 : Try.f33.body.bind (lowerCode Try.prog 15) = some L33 := by kernel_rfl
theorem res33 : lowerRes Try.prog Try.f33.results.toList = some R33 := by kernel_rfl
set_option maxRecDepth 100000 in
def L34 : LC := (.seq (.reg none [⟨(some 8), (.mv (.val (.bool false))), none, true⟩]) (.seq (.reg none [⟨(some 11), (.mv (.tmp 0)), none, true⟩, ⟨(some 12), (.mv (.tmp 2)), none, true⟩, ⟨(some 13), (.call 58 [(.tmp 11), (.tmp 12)] false), none, true⟩, ⟨(some 9), (.mv (.tmp 13)), none, true⟩]) (.seq (.seq (.reg none [⟨(some 10), (.mv (.val (.int .i64 0))), none, true⟩]) (.block 0 (.loop (.seq (.seq (.reg none [⟨(some 14), (.mv (.tmp 10)), none, true⟩, ⟨(some 15), (.mv (.tmp 0)), none, true⟩, ⟨(some 16), (.len false (.tmp 15)), none, true⟩, ⟨(some 17), (.bin .lss (.tmp 14) (.tmp 16)), none, true⟩]) (.cond (.tmp 17) .skip (.exit 0))) (.seq (.block 1 (.seq (.reg none [⟨(some 20), (.mv (.tmp 9)), none, true⟩, ⟨(some 21), (.mv (.tmp 10)), none, true⟩, ⟨(some 22), (.iaddrS 1 (.tmp 20) (.tmp 21)), none, true⟩, ⟨(some 23), (.load 1 false (.tmp 22)), none, true⟩, ⟨(some 24), (.mv (.tmp 23)), none, true⟩, ⟨(some 25), (.mv (.tmp 0)), (some (24, true)), true⟩, ⟨(some 26), (.mv (.tmp 10)), (some (24, true)), true⟩, ⟨(some 27), (.iaddrS 5 (.tmp 25) (.tmp 26)), (some (24, true)), true⟩, ⟨(some 28), (.addr 2 (.tmp 27)), (some (24, true)), true⟩, ⟨(some 29), (.load 1 false (.tmp 28)), (some (24, true)), true⟩, ⟨(some 30), (.mv (.tmp 1)), (some (24, true)), true⟩, ⟨(some 31), (.call 18 [(.tmp 29), (.tmp 30)] false), (some (24, true)), true⟩, ⟨(some 32), (.pick (.tmp 24) (.tmp 31) (.val (.bool false))), none, true⟩, ⟨(some 33), (.mv (.tmp 32)), none, true⟩, ⟨(some 34), (.mv (.tmp 3)), (some (33, true)), true⟩, ⟨(some 35), (.mv (.tmp 0)), (some (33, true)), true⟩, ⟨(some 36), (.mv (.tmp 10)), (some (33, true)), true⟩, ⟨(some 37), (.iaddrS 5 (.tmp 35) (.tmp 36)), (some (33, true)), true⟩, ⟨(some 38), (.addr 0 (.tmp 37)), (some (33, true)), true⟩, ⟨(some 39), (.load 2 true (.tmp 38)), (some (33, true)), true⟩, ⟨(some 40), (.call 19 [(.tmp 34), (.tmp 39)] false), (some (33, true)), true⟩, ⟨(some 41), (.not (.tmp 40)), (some (33, true)), true⟩, ⟨(some 42), (.pick (.tmp 33) (.tmp 41) (.val (.bool false))), none, true⟩]) (.cond (.tmp 42) (.seq (.reg none [⟨(some 8), (.mv (.val (.bool false))), none, true⟩]) .ret) .skip))) (.reg none [⟨(some 18), (.mv (.tmp 10)), none, true⟩, ⟨(some 19), (.bin .add (.tmp 18) (.val (.int .i64 1))), none, true⟩, ⟨(some 10), (.mv (.tmp 19)), none, true⟩])))))) (.seq (.reg none [⟨(some 8), (.mv (.val (.bool true))), none, true⟩]) .ret))))
def R34 : List LRes := [(.tmp 8)]
theorem low34 : Try.f34.body.bind (lowerCode Try.prog 43) = some L34 := by kernel_rfl
theorem res34 : lowerRes Try.prog Try.f34.results.toList = some R34 := by kernel_rfl
set_option maxRecDepth 100000 in
def L35 : LC := (.seq (.reg none [⟨(some 4), (.mv (.val (.bool false))), none, true⟩]) (.seq (.seq (.reg none [⟨(some 5), (.mv (.val (.int .i64 0))), none, true⟩]) (.block 0 (.loop (.seq (.seq (.reg none [⟨(some 7), (.mv (.tmp 5)), none, true⟩, ⟨(some 8), (.mv (.tmp 1)), none, true⟩, ⟨(some 9), (.len false (.tmp 8)), none, true⟩, ⟨(some 10), (.bin .lss (.tmp 7) (.tmp 9)), none, true⟩]) (.cond (.tmp 10) .skip (.exit 0))) (.seq (.block 1 (.seq (.reg none [⟨(some 13), (.mv (.tmp 5)), none, true⟩, ⟨(some 14), (.bin .add (.tmp 13) (.val (.int .i64 1))), none, true⟩, ⟨(some 6), (.mv (.tmp 14)), none, true⟩]) (.block 2 (.loop (.seq (.seq (.reg none [⟨(some 15), (.mv (.tmp 6)), none, true⟩, ⟨(some 16), (.mv (.tmp 1)), none, true⟩, ⟨(some 17), (.len false (.tmp 16)), none, true⟩, ⟨(some 18), (.bin .lss (.tmp 15) (.tmp 17)), none, true⟩]) (.cond (.tmp 18) .skip (.exit 2))) (.seq (.block 3 (.seq (.reg (some []) [⟨(some 21), (.mv (.tmp 0)), none, true⟩, ⟨(some 22), (.mv (.tmp 1)), none, true⟩, ⟨(some 23), (.mv (.tmp 6)), none, true⟩, ⟨(some 24), (.iaddrS 2 (.tmp 22) (.tmp 23)), none, false⟩, ⟨(some 25), (.load 2 true (.tmp 24)), none, false⟩, ⟨(some 26), (.mv (.tmp 1)), none, true⟩, ⟨(some 27), (.mv (.tmp 5)), none, true⟩, ⟨(some 28), (.iaddrS 2 (.tmp 26) (.tmp 27)), none, false⟩, ⟨(some 29), (.load 2 true (.tmp 28)), none, false⟩, ⟨(some 30), (.call 59 [(.tmp 21), (.tmp 25), (.tmp 29)] false), none, true⟩]) (.cond (.tmp 30) (.seq (.reg none [⟨(some 4), (.mv (.val (.bool false))), none, true⟩]) .ret) .skip))) (.reg none [⟨(some 19), (.mv (.tmp 6)), none, true⟩, ⟨(some 20), (.bin .add (.tmp 19) (.val (.int .i64 1))), none, true⟩, ⟨(some 6), (.mv (.tmp 20)), none, true⟩]))))))) (.reg none [⟨(some 11), (.mv (.tmp 5)), none, true⟩, ⟨(some 12), (.bin .add (.tmp 11) (.val (.int .i64 1))), none, true⟩, ⟨(some 5), (.mv (.tmp 12)), none, true⟩])))))) (.seq (.reg none [⟨(some 4), (.mv (.val (.bool true))), none, true⟩]) .ret)))
def R35 : List LRes := [(.tmp 4)]
theorem low35 : Try.f35.body.bind (lowerCode Try.prog 31) = some L35 := by kernel_rfl
theorem res35 : lowerRes Try.prog Try.f35.results.toList = some R35 := by kernel_rfl
set_option maxRecDepth 100000 in
def L36 : LC := (.seq (.reg none [⟨(some 1), (.box (.tmp 0)), none, true⟩, ⟨(some 2), (.mv (.val (.int .i64 0))), none, true⟩]) (.seq (.seq (.reg none [⟨(some 3), (.iaddrA 1 2 (.tmp 1) (.val (.int .i64 0))), none, true⟩, ⟨(some 4), (.load 1 false (.tmp 3)), none, true⟩, ⟨(some 5), (.call 33 [(.tmp 4), (.val (.int .i64 0)), (.val (.int .i64 20))] false), none, true⟩, ⟨(some 6), (.not (.tmp 5)), none, true⟩, ⟨(some 7), (.mv (.tmp 6)), none, true⟩, ⟨(some 8), (.iaddrA 1 2 (.tmp 1) (.val (.int .i64 1))), (some (7, false)), true⟩, ⟨(some 9), (.load 1 false (.tmp 8)), (some (7, false)), true⟩, ⟨(some 10), (.call 33 [(.tmp 9), (.val (.int .i64 0)), (.val (.int .i64 20))] false), (some (7, false)), true⟩, ⟨(some 11), (.not (.tmp 10)), (some (7, false)), true⟩, ⟨(some 12), (.pick (.tmp 7) (.val (.bool true)) (.tmp 11)), none, true⟩]) (.cond (.tmp 12) (.seq (.reg none [⟨(some 2), (.mv (.val (.int .i64 3))), none, true⟩]) .ret) .skip)) (.seq (.reg none [⟨(some 2), (.mv (.val (.int .i64 0))), none, true⟩]) .ret)))
def R36 : List LRes := [(.tmp 2)]
theorem low36 : Try.f36.body.bind (lowerCode Try.prog 13) = some L36 := by kernel_rfl
theorem res36 : lowerRes Try.prog Try.f36.results.toList = some R36 := by kernel_rfl
set_option maxRecDepth 100000 in
def L37 : LC := (.seq (.reg none [⟨(some 3), (.box (.tmp 1)), none, true⟩, ⟨(some 4), (.mv (.val .nilsl)), none, true⟩, ⟨(some 5), (.mv (.val (.bool false))), none, true⟩]) (.seq (.reg none [⟨(some 6), (.mv (.val .nilsl)), none, true⟩]) (.seq (.reg none [⟨(some 7), (.mv (.val (.bool true))), none, true⟩]) (.seq (.seq (.reg none [⟨(some 8), (.mv (.val (.int .i64 0))), none, true⟩]) (.block 0 (.loop (.seq (.seq (.reg none [⟨(some 11), (.mv (.tmp 8)), none, true⟩, ⟨(some 12), (.mv (.tmp 0)), none, true⟩, ⟨(some 13), (.len false (.tmp 12)), none, true⟩, ⟨(some 14), (.bin .lss (.tmp 11) (.tmp 13)), none, true⟩]) (.cond (.tmp 14) .skip (.exit 0))) (.seq (.block 1 (.seq (.seq (.reg (some []) [⟨(some 17), (.mv (.tmp 0)), none, true⟩, ⟨(some 18), (.mv (.tmp 8)), none, true⟩, ⟨(some 19), (.iaddrS 5 (.tmp 17) (.tmp 18)), none, false⟩, ⟨(some 20), (.addr 0 (.tmp 19)), none, false⟩, ⟨(some 21), (.addr 1 (.tmp 20)), none, false⟩, ⟨(some 22), (.load 1 false (.tmp 21)), none, false⟩, ⟨(some 23), (.mv (.tmp 0)), none, true⟩, ⟨(some 24), (.mv (.tmp 8)), none, true⟩, ⟨(some 25), (.iaddrS 5 (.tmp 23) (.tmp 24)), none, false⟩, ⟨(some 26), (.addr 0 (.tmp 25)), none, false⟩, ⟨(some 27), (.addr 0 (.tmp 26)), none, false⟩, ⟨(some 28), (.load 1 false (.tmp 27)), none, false⟩, ⟨(some 29), (.iaddrA 1 2 (.tmp 3) (.tmp 28)), none, true⟩, ⟨(some 30), (.load 1 false (.tmp 29)), none, false⟩, ⟨(some 31), (.bin .gtr (.tmp 22) (.tmp 30)), none, true⟩]) (.cond (.tmp 31) (.exit 1) .skip)) (.seq (.seq (.reg none [⟨(some 9), (.mv (.val (.int .i64 0))), none, true⟩]) (.block 2 (.loop (.seq (.seq (.reg none [⟨(some 32), (.mv (.tmp 9)), none, true⟩, ⟨(some 33), (.mv (.tmp 0)), none, true⟩, ⟨(some 34), (.mv (.tmp 8)), none, true⟩, ⟨(some 35), (.iaddrS 5 (.tmp 33) (.tmp 34)), none, true⟩, ⟨(some 36), (.addr 4 (.tmp 35)), none, true⟩, ⟨(some 37), (.load 1 false (.tmp 36)), none, true⟩, ⟨(some 38), (.len false (.tmp 37)), none, true⟩, ⟨(some 39), (.bin .lss (.tmp 32) (.tmp 38)), none, true⟩]) (.cond (.tmp 39) .skip (.exit 2))) (.seq (.block 3 (.seq (.reg none [⟨(some 42), (.mv (.tmp 0)), none, true⟩, ⟨(some 43), (.mv (.tmp 8)), none, true⟩, ⟨(some 44), (.iaddrS 5 (.tmp 42) (.tmp 43)), none, true⟩, ⟨(some 45), (.addr 4 (.tmp 44)), none, true⟩, ⟨(some 46), (.load 1 false (.tmp 45)), none, true⟩, ⟨(some 47), (.mv (.tmp 9)), none, true⟩, ⟨(some 48), (.iaddrS 2 (.tmp 46) (.tmp 47)), none, true⟩, ⟨(some 49), (.load 2 true (.tmp 48)), none, true⟩, ⟨(some 10), (.alloc [(.int .i64 0), (.int .i64 0)]), none, true⟩, ⟨none, (.store 2 (.tmp 10) (.tmp 49)), none, true⟩]) (.reg (some []) [⟨(some 50), (.mv (.tmp 7)), none, true⟩, ⟨(some 51), (.mv (.tmp 50)), none, true⟩, ⟨(some 52), (.addr 1 (.tmp 10)), (some (51, true)), false⟩, ⟨(some 53), (.load 1 false (.tmp 52)), (some (51, true)), false⟩, ⟨(some 54), (.addr 0 (.tmp 10)), (some (51, true)), false⟩, ⟨(some 55), (.load 1 false (.tmp 54)), (some (51, true)), false⟩, ⟨(some 56), (.iaddrA 1 2 (.tmp 3) (.tmp 55)), (some (51, true)), true⟩, ⟨(some 57), (.load 1 false (.tmp 56)), (some (51, true)), false⟩, ⟨(some 58), (.bin .leq (.tmp 53) (.tmp 57)), (some (51, true)), true⟩, ⟨(some 59), (.pick (.tmp 51) (.tmp 58) (.val (.bool false))), none, true⟩, ⟨(some 7), (.mv (.tmp 59)), none, true⟩]))) (.reg none [⟨(some 40), (.mv (.tmp 9)), none, true⟩, ⟨(some 41), (.bin .add (.tmp 40) (.val (.int .i64 1))), none, true⟩, ⟨(some 9), (.mv (.tmp 41)), none, true⟩])))))) (.reg none [⟨(some 60), (.mv (.tmp 6)), none, true⟩, ⟨(some 61), (.mv (.tmp 0)), none, true⟩, ⟨(some 62), (.mv (.tmp 8)), none, true⟩, ⟨(some 63), (.iaddrS 5 (.tmp 61) (.tmp 62)), none, true⟩, ⟨(some 64), (.load 5 true (.tmp 63)), none, true⟩, ⟨(some 65), (.mks 5 [(.int .i64 0), (.int .i64 0), (.int .i64 0), (.str ⟨#[]⟩), .nilsl] 1 [(0, (.tmp 64))]), none, true⟩, ⟨(some 66), (.append 38 5 64 (.tmp 60) (.tmp 65)), none, true⟩, ⟨(some 6), (.mv (.tmp 66)), none, true⟩])))) (.reg none [⟨(some 15), (.mv (.tmp 8)), none, true⟩, ⟨(some 16), (.bin .add (.tmp 15) (.val (.int .i64 1))), none, true⟩, ⟨(some 8), (.mv (.tmp 16)), none, true⟩])))))) (.seq (.reg none [⟨(some 67), (.mv (.tmp 6)), none, true⟩, ⟨(some 68), (.mv (.tmp 7)), none, true⟩, ⟨(some 4), (.mv (.tmp 67)), none, true⟩, ⟨(some 5), (.mv (.tmp 68)), none, true⟩]) .ret)))))
def R37 : List LRes := [(.tmp 4), (.tmp 5)]
theorem low37 : Try.f37.body.bind (lowerCode Try.prog 69) = some L37 := by kernel_rfl
theorem res37 : lowerRes Try.prog Try.f37.results.toList = some R37 := by kernel_rfl
set_option maxRecDepth 100000 in
def L38 : LC := (.seq (.reg none [⟨(some 2), (.alloc [(.int .i64 0), (.int .i64 0)]), none, true⟩]) (.seq (.reg none [⟨(some 3), (.alloc [(.int .i64 0), (.int .i64 0)]), none, true⟩]) (.seq (.seq (.reg none [⟨(some 4), (.mv (.val (.int .i64 0))), none, true⟩]) (.block 0 (.loop (.seq (.seq (.reg none [⟨(some 5), (.mv (.tmp 4)), none, true⟩, ⟨(some 6), (.mv (.tmp 0)), none, true⟩, ⟨(some 7), (.len false (.tmp 6)), none, true⟩, ⟨(some 8), (.bin .lss (.tmp 5) (.tmp 7)), none, true⟩]) (.cond (.tmp 8) .skip (.exit 0))) (.seq (.block 1 (.seq (.reg none [⟨(some 11), (.mv (.tmp 0)), none, true⟩, ⟨(some 12), (.mv (.tmp 4)), none, true⟩, ⟨(some 13), (.iaddrS 5 (.tmp 11) (.tmp 12)), none, true⟩, ⟨(some 14), (.addr 0 (.tmp 13)), none, true⟩, ⟨(some 15), (.addr 0 (.tmp 14)), none, true⟩, ⟨(some 16), (.load 1 false (.tmp 15)), none, true⟩, ⟨(some 17), (.bin .eql (.tmp 16) (.val (.int .i64 0))), none, true⟩]) (.cond (.tmp 17) (.reg none [⟨(some 18), (.iaddrA 1 2 (.tmp 3) (.val (.int .i64 0))), none, true⟩, ⟨(some 19), (.load 1 false (.tmp 18)), none, true⟩, ⟨(some 20), (.bin .add (.tmp 19) (.val (.int .i64 1))), none, true⟩, ⟨(some 21), (.iaddrA 1 2 (.tmp 3) (.val (.int .i64 0))), none, true⟩, ⟨none, (.store 1 (.tmp 21) (.tmp 20)), none, true⟩]) (.reg none [⟨(some 22), (.iaddrA 1 2 (.tmp 3) (.val (.int .i64 1))), none, true⟩, ⟨(some 23), (.load 1 false (.tmp 22)), none, true⟩, ⟨(some 24), (.bin .add (.tmp 23) (.val (.int .i64 1))), none, true⟩, ⟨(some 25), (.iaddrA 1 2 (.tmp 3) (.val (.int .i64 1))), none, true⟩, ⟨none, (.store 1 (.tmp 25) (.tmp 24)), none, true⟩])))) (.reg none [⟨(some 9), (.mv (.tmp 4)), none, true⟩, ⟨(some 10), (.bin .add (.tmp 9) (.val (.int .i64 1))), none, true⟩, ⟨(some 4), (.mv (.tmp 10)), none, true⟩])))))) (.seq (.reg none [⟨(some 26), (.load 2 true (.tmp 3)), none, true⟩, ⟨none, (.store 2 (.tmp 2) (.tmp 26)), none, true⟩]) .ret))))
def R38 : List LRes := [(.cell 2 2 true)]
theorem low38 : Try.f38.body.bind (lowerCode Try.prog 27) = some L38 := by kernel_rfl
theorem res38 : lowerRes Try.prog Try.f38.results.toList = some R38 := by kernel_rfl
set_option maxRecDepth 100000 in
def L39 : LC := (.seq (.reg none [⟨(some 6), (.mv (.val .nilsl)), none, true⟩]) (.seq (.reg none [⟨(some 13), (.mk0 36 2), none, true⟩, ⟨(some 14), (.mv (.tmp 2)), none, true⟩, ⟨(some 15), (.append 36 2 16 (.tmp 13) (.tmp 14)), none, true⟩, ⟨(some 7), (.mv (.tmp 15)), none, true⟩]) (.seq (.seq (.reg none [⟨(some 8), (.mv (.val (.bool true))), none, true⟩]) (.block 0 (.loop (.seq (.seq (.reg none [⟨(some 16), (.mv (.tmp 8)), none, true⟩]) (.cond (.tmp 16) .skip (.exit 0))) (.block 1 (.seq (.reg none [⟨(some 8), (.mv (.val (.bool false))), none, true⟩]) (.seq (.reg none [⟨(some 9), (.mv (.val (.int .i64 0))), none, true⟩]) (.block 2 (.loop (.seq (.seq (.reg none [⟨(some 17), (.mv (.tmp 9)), none, true⟩, ⟨(some 18), (.bin .lss (.tmp 17) (.val (.int .i64 2))), none, true⟩, ⟨(some 19), (.mv (.tmp 18)), none, true⟩, ⟨(some 20), (.mv (.tmp 8)), (some (19, true)), true⟩, ⟨(some 21), (.not (.tmp 20)), (some (19, true)), true⟩, ⟨(some 22), (.pick (.tmp 19) (.tmp 21) (.val (.bool false))), none, true⟩]) (.cond (.tmp 22) .skip (.exit 2))) (.seq (.block 3 (.seq (.reg none [⟨(some 10), (.mv (.val (.int .i64 1))), none, true⟩]) (.block 4 (.loop (.seq (.seq (.reg none [⟨(some 25), (.mv (.tmp 10)), none, true⟩, ⟨(some 26), (.bin .leq (.tmp 25) (.val (.int .i64 20))), none, true⟩, ⟨(some 27), (.mv (.tmp 26)), none, true⟩, ⟨(some 28), (.mv (.tmp 8)), (some (27, true)), true⟩, ⟨(some 29), (.not (.tmp 28)), (some (27, true)), true⟩, ⟨(some 30), (.pick (.tmp 27) (.tmp 29) (.val (.bool false))), none, true⟩]) (.cond (.tmp 30) .skip (.exit 4))) (.seq (.block 5 (.seq (.reg none [⟨(some 33), (.mv (.tmp 9)), none, true⟩, ⟨(some 34), (.mv (.tmp 10)), none, true⟩, ⟨(some 35), (.build [(.int .i64 0), (.int .i64 0)] [(0, (1, (.tmp 33))), (1, (1, (.tmp 34)))]), none, true⟩, ⟨(some 11), (.alloc [(.int .i64 0), (.int .i64 0)]), none, true⟩, ⟨none, (.store 2 (.tmp 11) (.tmp 35)), none, true⟩]) (.seq (.reg none [⟨(some 36), (.mv (.tmp 0)), none, true⟩, ⟨(some 37), (.load 2 true (.tmp 11)), none, true⟩, ⟨(some 38), (.call 10 [(.tmp 36), (.tmp 37)] false), none, true⟩, ⟨(some 12), (.mv (.tmp 38)), none, true⟩]) (.seq (.reg none [⟨(some 39), (.mv (.tmp 12)), none, true⟩, ⟨(some 40), (.bin .geq (.tmp 39) (.val (.int .i64 0))), none, true⟩, ⟨(some 41), (.mv (.tmp 40)), none, true⟩, ⟨(some 42), (.mv (.tmp 0)), (some (41, true)), true⟩, ⟨(some 43), (.mv (.tmp 12)), (some (41, true)), true⟩, ⟨(some 44), (.iaddrS 5 (.tmp 42) (.tmp 43)), (some (41, true)), true⟩, ⟨(some 45), (.addr 2 (.tmp 44)), (some (41, true)), true⟩, ⟨(some 46), (.load 1 false (.tmp 45)), (some (41, true)), true⟩, ⟨(some 47), (.mv (.tmp 1)), (some (41, true)), true⟩, ⟨(some 48), (.call 18 [(.tmp 46), (.tmp 47)] false), (some (41, true)), true⟩, ⟨(some 49), (.pick (.tmp 41) (.tmp 48) (.val (.bool false))), none, true⟩, ⟨(some 50), (.mv (.tmp 49)), none, true⟩, ⟨(some 51), (.mv (.tmp 7)), (some (50, true)), true⟩, ⟨(some 52), (.load 2 true (.tmp 11)), (some (50, true)), true⟩, ⟨(some 53), (.call 19 [(.tmp 51), (.tmp 52)] false), (some (50, true)), true⟩, ⟨(some 54), (.not (.tmp 53)), (some (50, true)), true⟩, ⟨(some 55), (.pick (.tmp 50) (.tmp 54) (.val (.bool false))), none, true⟩, ⟨(some 56), (.mv (.tmp 55)), none, true⟩, ⟨(some 57), (.mv (.tmp 0)), (some (56, true)), true⟩, ⟨(some 58), (.mv (.tmp 1)), (some (56, true)), true⟩, ⟨(some 59), (.mv (.tmp 12)), (some (56, true)), true⟩, ⟨(some 60), (.mv (.tmp 7)), (some (56, true)), true⟩, ⟨(some 61), (.call 34 [(.tmp 57), (.tmp 58), (.tmp 59), (.tmp 60)] false), (some (56, true)), true⟩, ⟨(some 62), (.pick (.tmp 56) (.tmp 61) (.val (.bool false))), none, true⟩]) (.cond (.tmp 62) (.seq (.reg none [⟨(some 63), (.mv (.tmp 7)), none, true⟩, ⟨(some 64), (.load 2 true (.tmp 11)), none, true⟩, ⟨(some 65), (.mks 2 [(.int .i64 0), (.int .i64 0)] 1 [(0, (.tmp 64))]), none, true⟩, ⟨(some 66), (.append 36 2 16 (.tmp 63) (.tmp 65)), none, true⟩, ⟨(some 7), (.mv (.tmp 66)), none, true⟩]) (.reg none [⟨(some 8), (.mv (.val (.bool true))), none, true⟩])) .skip))))) (.reg none [⟨(some 31), (.mv (.tmp 10)), none, true⟩, ⟨(some 32), (.bin .add (.tmp 31) (.val (.int .i64 1))), none, true⟩, ⟨(some 10), (.mv (.tmp 32)), none, true⟩]))))))) (.reg none [⟨(some 23), (.mv (.tmp 9)), none, true⟩, ⟨(some 24), (.bin .add (.tmp 23) (.val (.int .i64 1))), none, true⟩, ⟨(some 9), (.mv (.tmp 24)), none, true⟩])))))))))))) (.seq (.reg none [⟨(some 67), (.mv (.tmp 7)), none, true⟩, ⟨(some 6), (.mv (.tmp 67)), none, true⟩]) .ret))))
def R39 : List LRes := [(.tmp 6)]
theorem low39 : Try.f39.body.bind (lowerCode Try.prog 68) = some L39 := by kernel_rfl
theorem res39 : lowerRes Try.prog Try.f39.results.toList = some R39 := by kernel_rfl
set_option maxRecDepth 100000 in
def L40 : LC := (.seq (.reg none [⟨(some 0), (.mv (.val .nilsl)), none, true⟩]) (.seq (.reg none [⟨(some 1), (.call 41 [(.val (.int .i64 0)), (.val (.int .i64 1))] false), none, true⟩, ⟨(some 2), (.build [(.int .i64 0), (.int .i64 0), (.int .i64 0), (.str ⟨#[]⟩), .nilsl] [(0, (2, (.tmp 1))), (2, (1, (.val (.int .i64 1)))), (3, (1, (.val (.str ⟨#[112, 117, 116, 32, 97, 32, 120]⟩))))]), none, true⟩, ⟨(some 3), (.call 41 [(.val (.int .i64 1)), (.val (.int .i64 1))] false), none, true⟩, ⟨(some 4), (.build [(.int .i64 0), (.int .i64 0), (.int .i64 0), (.str ⟨#[]⟩), .nilsl] [(0, (2, (.tmp 3))), (2, (1, (.val (.int .i64 3)))), (3, (1, (.val (.str ⟨#[112, 117, 116, 32, 97, 32, 121]⟩))))]), none, true⟩, ⟨(some 5), (.call 41 [(.val (.int .i64 0)), (.val (.int .i64 2))] false), none, true⟩, ⟨(some 6), (.call 41 [(.val (.int .i64 0)), (.val (.int .i64 1))] false), none, true⟩, ⟨(some 7), (.mks 2 [(.int .i64 0), (.int .i64 0)] 1 [(0, (.tmp 6))]), none, true⟩, ⟨(some 8), (.build [(.int .i64 0), (.int .i64 0), (.int .i64 0), (.str ⟨#[]⟩), .nilsl] [(0, (2, (.tmp 5))), (2, (1, (.val (.int .i64 3)))), (3, (1, (.val (.str ⟨#[100, 114, 111, 112, 32, 97]⟩)))), (4, (1, (.tmp 7)))]), none, true⟩, ⟨(some 9), (.call 41 [(.val (.int .i64 1)), (.val (.int .i64 2))] false), none, true⟩, ⟨(some 10), (.call 41 [(.val (.int .i64 0)), (.val (.int .i64 2))] false), none, true⟩, ⟨(some 11), (.call 41 [(.val (.int .i64 1)), (.val (.int .i64 1))] false), none, true⟩, ⟨(some 12), (.mks 2 [(.int .i64 0), (.int .i64 0)] 2 [(0, (.tmp 10)), (1, (.tmp 11))]), none, true⟩, ⟨(some 13), (.build [(.int .i64 0), (.int .i64 0), (.int .i64 0), (.str ⟨#[]⟩), .nilsl] [(0, (2, (.tmp 9))), (2, (1, (.val (.int .i64 2)))), (3, (1, (.val (.str ⟨#[112, 117, 116, 32, 98, 32, 122]⟩)))), (4, (1, (.tmp 12)))]), none, true⟩, ⟨(some 14), (.mks 5 [(.int .i64 0), (.int .i64 0), (.int .i64 0), (.str ⟨#[]⟩), .nilsl] 4 [(0, (.tmp 2)), (1, (.tmp 4)), (2, (.tmp 8)), (3, (.tmp 13))]), none, true⟩, ⟨(some 0), (.mv (.tmp 14)), none, true⟩]) .ret))
def R40 : List LRes := [(.tmp 0)]
theorem low40 : Try.f40.body.bind (lowerCode Try.prog 15) = some L40 := by kernel_rfl
theorem res40 : lowerRes Try.prog Try.f40.results.toList = some R40 := by kernel_rfl
set_option maxRecDepth 100000 in
def L41 : LC := (.seq (.reg none [⟨(some 4), (.alloc [(.int .i64 0), (.int .i64 0)]), none, true⟩]) (.seq (.reg none [⟨(some 5), (.mv (.tmp 0)), none, true⟩, ⟨(some 6), (.mv (.tmp 1)), none, true⟩, ⟨(some 7), (.build [(.int .i64 0), (.int .i64 0)] [(0, (1, (.tmp 5))), (1, (1, (.tmp 6)))]), none, true⟩, ⟨none, (.store 2 (.tmp 4) (.tmp 7)), none, true⟩]) .ret))
def R41 : List LRes := [(.cell 4 2 true)]
theorem low41 : Try.f41.body.bind (lowerCode Try.prog 8) = some L41 := by kernel_rfl
theorem res41 : lowerRes Try.prog Try.f41.results.toList = some R41 := by kernel_rfl
set_option maxRecDepth 100000 in
def L42 : LC := (.seq (.reg none [⟨(some 6), (.mv (.val (.int .i64 0))), none, true⟩]) (.seq (.reg none [⟨(some 10), (.mv (.tmp 0)), none, true⟩, ⟨(some 11), (.call 44 [(.tmp 10)] false), none, true⟩, ⟨(some 7), (.mv (.tmp 11)), none, true⟩]) (.seq (.seq (.reg none [⟨(some 12), (.mv (.tmp 7)), none, true⟩, ⟨(some 13), (.bin .eql (.tmp 12) (.val (.int .i64 0))), none, true⟩]) (.cond (.tmp 13) (.reg none [⟨(some 14), (.mv (.tmp 0)), none, true⟩, ⟨(some 15), (.mv (.tmp 2)), none, true⟩, ⟨(some 16), (.call 45 [(.tmp 14), (.tmp 15)] false), none, true⟩, ⟨(some 7), (.mv (.tmp 16)), none, true⟩]) .skip)) (.seq (.seq (.reg none [⟨(some 17), (.mv (.tmp 7)), none, true⟩, ⟨(some 18), (.bin .eql (.tmp 17) (.val (.int .i64 0))), none, true⟩, ⟨(some 19), (.mv (.tmp 18)), none, true⟩, ⟨(some 20), (.mv (.tmp 1)), (some (19, true)), true⟩, ⟨(some 21), (.call 60 [(.tmp 20)] false), (some (19, true)), true⟩, ⟨(some 22), (.not (.tmp 21)), (some (19, true)), true⟩, ⟨(some 23), (.pick (.tmp 19) (.tmp 22) (.val (.bool false))), none, true⟩]) (.cond (.tmp 23) (.reg none [⟨(some 7), (.mv (.val (.int .i64 3))), none, true⟩]) .skip)) (.seq (.seq (.reg none [⟨(some 24), (.mv (.tmp 7)), none, true⟩, ⟨(some 25), (.bin .neq (.tmp 24) (.val (.int .i64 0))), none, true⟩]) (.cond (.tmp 25) (.seq (.reg none [⟨(some 26), (.mv (.tmp 7)), none, true⟩, ⟨(some 6), (.mv (.tmp 26)), none, true⟩]) .ret) .skip)) (.seq (.reg none [⟨(some 27), (.mv (.tmp 0)), none, true⟩, ⟨(some 28), (.mv (.tmp 1)), none, true⟩, ⟨(some 29), (.mv (.tmp 2)), none, true⟩, ⟨(some 30), (.call 53 [(.tmp 27), (.tmp 28), (.tmp 29)] false), none, true⟩, ⟨(some 8), (.alloc [.nilp]), none, true⟩, ⟨none, (.store 1 (.tmp 8) (.tmp 30)), none, true⟩]) (.seq (.reg none [⟨(some 31), (.clo 61 [(.tmp 8)]), none, true⟩, ⟨(some 9), (.mv (.tmp 31)), none, true⟩]) (.seq (.seq (.reg none [⟨(some 32), (.load 1 false (.tmp 8)), none, true⟩, ⟨(some 33), (.nilchk (.tmp 32)), none, true⟩, ⟨(some 34), (.addr 3 (.tmp 33)), none, true⟩, ⟨(some 35), (.load 1 false (.tmp 34)), none, true⟩, ⟨(some 36), (.mv (.tmp 2)), none, true⟩, ⟨(some 37), (.call 46 [(.tmp 35), (.tmp 36)] false), none, true⟩, ⟨(some 38), (.not (.tmp 37)), none, true⟩, ⟨(some 39), (.mv (.tmp 38)), none, true⟩, ⟨(some 40), (.mv (.tmp 2)), (some (39, false)), true⟩, ⟨(some 41), (.mv (.tmp 9)), (some (39, false)), true⟩, ⟨(some 42), (.call 27 [(.tmp 40), (.tmp 41)] false), (some (39, false)), true⟩, ⟨(some 43), (.pick (.tmp 39) (.val (.bool true)) (.tmp 42)), none, true⟩]) (.cond (.tmp 43) (.seq (.reg none [⟨(some 6), (.mv (.val (.int .i64 4))), none, true⟩]) .ret) .skip)) (.seq (.reg none [⟨(some 6), (.mv (.val (.int .i64 0))), none, true⟩]) .ret)))))))))
def R42 : List LRes := [(.tmp 6)]
theorem low42 : Try.f42.body.bind (lowerCode Try.prog 44) = some L42 := by kernel_rfl
theorem res42 : lowerRes Try.prog Try.f42.results.toList = some R42 := by kernel_rfl
set_option maxRecDepth 100000 in
def L43 : LC := (.seq (.reg none [⟨(some 6), (.mv (.val .nilsl)), none, true⟩, ⟨(some 7), (.mv (.val (.int .i64 0))), none, true⟩]) (.seq (.seq (.reg none [⟨(some 9), (.mv (.tmp 0)), none, true⟩, ⟨(some 10), (.mv (.tmp 1)), none, true⟩, ⟨(some 11), (.mv (.tmp 2)), none, true⟩, ⟨(some 12), (.call 42 [(.tmp 9), (.tmp 10), (.tmp 11)] false), none, true⟩, ⟨(some 8), (.mv (.tmp 12)), none, true⟩]) (.seq (.reg none [⟨(some 13), (.mv (.tmp 8)), none, true⟩, ⟨(some 14), (.bin .neq (.tmp 13) (.val (.int .i64 0))), none, true⟩]) (.cond (.tmp 14) (.seq (.reg none [⟨(some 15), (.mv (.tmp 8)), none, true⟩, ⟨(some 6), (.mv (.val .nilsl)), none, true⟩, ⟨(some 7), (.mv (.tmp 15)), none, true⟩]) .ret) .skip))) (.seq (.reg none [⟨(some 16), (.mv (.tmp 0)), none, true⟩, ⟨(some 17), (.mv (.tmp 1)), none, true⟩, ⟨(some 18), (.mv (.tmp 2)), none, true⟩, ⟨(some 19), (.call 29 [(.tmp 16), (.tmp 17), (.tmp 18)] false), none, true⟩, ⟨(some 6), (.mv (.tmp 19)), none, true⟩, ⟨(some 7), (.mv (.val (.int .i64 0))), none, true⟩]) .ret)))
def R43 : List LRes := [(.tmp 6), (.tmp 7)]
theorem low43 : Try.f43.body.bind (lowerCode Try.prog 20) = some L43 := by kernel_rfl
theorem res43 : lowerRes Try.prog Try.f43.results.toList = some R43 := by kernel_rfl
set_option maxRecDepth 100000 in
def L44 : LC := (.seq (.reg none [⟨(some 2), (.mv (.val (.int .i64 0))), none, true⟩]) (.seq (.seq (.reg none [⟨(some 6), (.mv (.tmp 0)), none, true⟩, ⟨(some 7), (.len false (.tmp 6)), none, true⟩, ⟨(some 8), (.bin .gtr (.tmp 7) (.val (.int .i64 40))), none, true⟩]) (.cond (.tmp 8) (.seq (.reg none [⟨(some 2), (.mv (.val (.int .i64 2))), none, true⟩]) .ret) .skip)) (.seq (.seq (.reg none [⟨(some 9), (.mv (.tmp 0)), none, true⟩, ⟨(some 10), (.len false (.tmp 9)), none, true⟩, ⟨(some 11), (.mv (.val (.int .i64 0))), none, true⟩]) (.block 0 (.loop (.seq (.reg none [⟨(some 12), (.bin .lss (.tmp 11) (.tmp 10)), none, true⟩]) (.seq (.cond (.tmp 12) .skip (.exit 0)) (.seq (.block 1 (.seq (.reg none [⟨(some 13), (.mv (.tmp 11)), none, true⟩, ⟨(some 14), (.iaddrS 5 (.tmp 9) (.tmp 11)), none, true⟩, ⟨(some 15), (.load 5 true (.tmp 14)), none, true⟩, ⟨(some 4), (.alloc [(.int .i64 0), (.int .i64 0), (.int .i64 0), (.str ⟨#[]⟩), .nilsl]), none, true⟩, ⟨(some 3), (.mv (.tmp 13)), none, true⟩, ⟨none, (.store 5 (.tmp 4) (.tmp 15)), none, true⟩]) (.seq (.seq (.reg none [⟨(some 16), (.load 5 true (.tmp 4)), none, true⟩, ⟨(some 17), (.call 63 [(.tmp 16)] false), none, true⟩, ⟨(some 5), (.mv (.tmp 17)), none, true⟩]) (.seq (.reg none [⟨(some 18), (.mv (.tmp 5)), none, true⟩, ⟨(some 19), (.bin .neq (.tmp 18) (.val (.int .i64 0))), none, true⟩]) (.cond (.tmp 19) (.seq (.reg none [⟨(some 20), (.mv (.tmp 5)), none, true⟩, ⟨(some 2), (.mv (.tmp 20)), none, true⟩]) .ret) .skip))) (.block 2 (.seq (.reg (some []) [⟨(some 22), (.mv (.tmp 0)), none, true⟩, ⟨(some 23), (.mv (.tmp 3)), none, true⟩, ⟨(some 24), (.slc 5 (.tmp 22) none (some (.tmp 23))), none, false⟩, ⟨(some 25), (.addr 0 (.tmp 4)), none, false⟩, ⟨(some 26), (.load 2 true (.tmp 25)), none, false⟩, ⟨(some 27), (.call 30 [(.tmp 24), (.tmp 26)] false), none, true⟩, ⟨(some 28), (.bin .geq (.tmp 27) (.val (.int .i64 0))), none, true⟩, ⟨(some 21), (.mv (.tmp 28)), none, true⟩]) (.cond (.tmp 21) (.seq (.reg none [⟨(some 2), (.mv (.val (.int .i64 6))), none, true⟩]) .ret) (.seq (.reg (some []) [⟨(some 30), (.mv (.tmp 0)), none, true⟩, ⟨(some 31), (.mv (.tmp 3)), none, true⟩, ⟨(some 32), (.slc 5 (.tmp 30) none (some (.tmp 31))), none, false⟩, ⟨(some 33), (.call 26 [(.tmp 32)] false), none, false⟩, ⟨(some 34), (.addr 0 (.tmp 4)), none, false⟩, ⟨(some 35), (.addr 0 (.tmp 34)), none, false⟩, ⟨(some 36), (.load 1 false (.tmp 35)), none, false⟩, ⟨(some 37), (.idxA 1 2 false (.tmp 33) (.tmp 36)), none, true⟩, ⟨(some 38), (.bin .add (.tmp 37) (.val (.int .i64 1))), none, true⟩, ⟨(some 39), (.addr 0 (.tmp 4)), none, false⟩, ⟨(some 40), (.addr 1 (.tmp 39)), none, false⟩, ⟨(some 41), (.load 1 false (.tmp 40)), none, false⟩, ⟨(some 42), (.bin .neq (.tmp 38) (.tmp 41)), none, true⟩, ⟨(some 29), (.mv (.tmp 42)), none, true⟩]) (.cond (.tmp 29) (.seq (.reg none [⟨(some 2), (.mv (.val (.int .i64 4))), none, true⟩]) .ret) (.seq (.reg (some []) [⟨(some 44), (.mv (.tmp 0)), none, true⟩, ⟨(some 45), (.mv (.tmp 3)), none, true⟩, ⟨(some 46), (.slc 5 (.tmp 44) none (some (.tmp 45))), none, false⟩, ⟨(some 47), (.load 5 true (.tmp 4)), none, false⟩, ⟨(some 48), (.call 64 [(.tmp 46), (.tmp 47)] false), none, true⟩, ⟨(some 49), (.not (.tmp 48)), none, true⟩, ⟨(some 43), (.mv (.tmp 49)), none, true⟩]) (.cond (.tmp 43) (.seq (.reg none [⟨(some 2), (.mv (.val (.int .i64 5))), none, true⟩]) .ret) .skip)))))))))) (.reg none [⟨(some 50), (.bin .add (.tmp 11) (.val (.int .i64 1))), none, true⟩, ⟨(some 11), (.mv (.tmp 50)), none, true⟩]))))))) (.seq (.reg none [⟨(some 2), (.mv (.val (.int .i64 0))), none, true⟩]) .ret))))
def R44 : List LRes := [(.tmp 2)]
theorem low44 : Try.f44.body.bind (lowerCode Try.prog 51) = some L44 := by kernel_rfl
theorem res44 : lowerRes Try.prog Try.f44.results.toList = some R44 := by kernel_rfl
set_option maxRecDepth 100000 in
def L45 : LC := (.seq (.reg none [⟨(some 4), (.mv (.val (.int .i64 0))), none, true⟩]) (.seq (.seq (.reg none [⟨(some 7), (.mv (.tmp 1)), none, true⟩, ⟨(some 8), (.len false (.tmp 7)), none, true⟩, ⟨(some 9), (.mv (.val (.int .i64 0))), none, true⟩]) (.block 0 (.loop (.seq (.reg none [⟨(some 10), (.bin .lss (.tmp 9) (.tmp 8)), none, true⟩]) (.seq (.cond (.tmp 10) .skip (.exit 0)) (.seq (.block 1 (.seq (.reg none [⟨(some 11), (.mv (.tmp 9)), none, true⟩, ⟨(some 12), (.iaddrS 2 (.tmp 7) (.tmp 9)), none, true⟩, ⟨(some 13), (.load 2 true (.tmp 12)), none, true⟩, ⟨(some 6), (.alloc [(.int .i64 0), (.int .i64 0)]), none, true⟩, ⟨(some 5), (.mv (.tmp 11)), none, true⟩, ⟨none, (.store 2 (.tmp 6) (.tmp 13)), none, true⟩]) (.block 2 (.seq (.reg none [⟨(some 15), (.mv (.tmp 0)), none, true⟩, ⟨(some 16), (.load 2 true (.tmp 6)), none, true⟩, ⟨(some 17), (.call 30 [(.tmp 15), (.tmp 16)] false), none, true⟩, ⟨(some 18), (.bin .lss (.tmp 17) (.val (.int .i64 0))), none, true⟩, ⟨(some 14), (.mv (.tmp 18)), none, true⟩]) (.cond (.tmp 14) (.seq (.reg none [⟨(some 4), (.mv (.val (.int .i64 5))), none, true⟩]) .ret) (.seq (.reg (some []) [⟨(some 20), (.mv (.tmp 1)), none, true⟩, ⟨(some 21), (.mv (.tmp 5)), none, true⟩, ⟨(some 22), (.slc 2 (.tmp 20) none (some (.tmp 21))), none, false⟩, ⟨(some 23), (.load 2 true (.tmp 6)), none, false⟩, ⟨(some 24), (.call 65 [(.tmp 22), (.tmp 23)] false), none, true⟩, ⟨(some 19), (.mv (.tmp 24)), none, true⟩]) (.cond (.tmp 19) (.seq (.reg none [⟨(some 4), (.mv (.val (.int .i64 6))), none, true⟩]) .ret) .skip))))))) (.reg none [⟨(some 25), (.bin .add (.tmp 9) (.val (.int .i64 1))), none, true⟩, ⟨(some 9), (.mv (.tmp 25)), none, true⟩]))))))) (.seq (.reg none [⟨(some 4), (.mv (.val (.int .i64 0))), none, true⟩]) .ret)))
def R45 : List LRes := [(.tmp 4)]
theorem low45 : Try.f45.body.bind (lowerCode Try.prog 26) = some L45 := by kernel_rfl
theorem res45 : lowerRes Try.prog Try.f45.results.toList = some R45 := by kernel_rfl
set_option maxRecDepth 100000 in
def L46 : LC := (.seq (.reg none [⟨(some 2), (.box (.tmp 0)), none, true⟩, ⟨(some 4), (.mv (.val (.bool false))), none, true⟩]) (.seq (.seq (.reg none [⟨(some 7), (.mv (.tmp 1)), none, true⟩, ⟨(some 8), (.len false (.tmp 7)), none, true⟩, ⟨(some 9), (.mv (.val (.int .i64 0))), none, true⟩]) (.block 0 (.loop (.seq (.reg none [⟨(some 10), (.bin .lss (.tmp 9) (.tmp 8)), none, true⟩]) (.seq (.cond (.tmp 10) .skip (.exit 0)) (.seq (.block 1 (.seq (.reg none [⟨(some 11), (.mv (.tmp 9)), none, true⟩, ⟨(some 12), (.iaddrS 2 (.tmp 7) (.tmp 9)), none, true⟩, ⟨(some 13), (.load 2 true (.tmp 12)), none, true⟩, ⟨(some 6), (.alloc [(.int .i64 0), (.int .i64 0)]), none, true⟩, ⟨(some 5), (.mv (.tmp 11)), none, true⟩, ⟨none, (.store 2 (.tmp 6) (.tmp 13)), none, true⟩]) (.seq (.reg none [⟨(some 14), (.mv (.tmp 1)), none, true⟩, ⟨(some 15), (.mv (.tmp 5)), none, true⟩, ⟨(some 16), (.slc 2 (.tmp 14) (some (.tmp 15)) none), none, true⟩, ⟨(some 17), (.clo 66 [(.tmp 2), (.tmp 6)]), none, true⟩, ⟨(some 18), (.call 27 [(.tmp 16), (.tmp 17)] false), none, true⟩]) (.cond (.tmp 18) (.seq (.reg none [⟨(some 4), (.mv (.val (.bool false))), none, true⟩]) .ret) .skip)))) (.reg none [⟨(some 19), (.bin .add (.tmp 9) (.val (.int .i64 1))), none, true⟩, ⟨(some 9), (.mv (.tmp 19)), none, true⟩]))))))) (.seq (.reg none [⟨(some 4), (.mv (.val (.bool true))), none, true⟩]) .ret)))
def R46 : List LRes := [(.tmp 4)]
theorem low46 : Try.f46.body.bind (lowerCode Try.prog 20) = some L46 := by kernel_rfl
theorem res46 : lowerRes Try.prog Try.f46.results.toList = some R46 := by kernel_rfl
set_option maxRecDepth 100000 in
def L47 : LC := (.seq (.reg none [⟨(some 2), (.mv (.val .nilp)), none, true⟩]) (.seq (.reg none [⟨(some 9), (.mv (.tmp 0)), none, true⟩, ⟨(some 10), (.build [.nilsl, .nilsl] [(0, (1, (.tmp 9)))]), none, true⟩, ⟨(some 11), (.box (.tmp 10)), none, true⟩, ⟨(some 3), (.mv (.tmp 11)), none, true⟩]) (.seq (.seq (.reg none [⟨(some 12), (.mv (.tmp 0)), none, true⟩, ⟨(some 13), (.len false (.tmp 12)), none, true⟩, ⟨(some 14), (.mv (.val (.int .i64 0))), none, true⟩]) (.block 0 (.loop (.seq (.reg none [⟨(some 15), (.bin .lss (.tmp 14) (.tmp 13)), none, true⟩]) (.seq (.cond (.tmp 15) .skip (.exit 0)) (.seq (.block 1 (.seq (.reg none [⟨(some 16), (.iaddrS 5 (.tmp 12) (.tmp 14)), none, true⟩, ⟨(some 17), (.load 5 true (.tmp 16)), none, true⟩, ⟨(some 5), (.alloc [(.int .i64 0), (.int .i64 0), (.int .i64 0), (.str ⟨#[]⟩), .nilsl]), none, true⟩, ⟨none, (.store 5 (.tmp 5) (.tmp 17)), none, true⟩]) (.seq (.reg none [⟨(some 6), (.mv (.val .nilsl)), none, true⟩]) (.seq (.seq (.reg none [⟨(some 18), (.addr 4 (.tmp 5)), none, true⟩, ⟨(some 19), (.load 1 false (.tmp 18)), none, true⟩, ⟨(some 20), (.len false (.tmp 19)), none, true⟩, ⟨(some 21), (.mv (.val (.int .i64 0))), none, true⟩]) (.block 2 (.loop (.seq (.reg none [⟨(some 22), (.bin .lss (.tmp 21) (.tmp 20)), none, true⟩]) (.seq (.cond (.tmp 22) .skip (.exit 2)) (.seq (.block 3 (.seq (.reg none [⟨(some 23), (.iaddrS 2 (.tmp 19) (.tmp 21)), none, true⟩, ⟨(some 24), (.load 2 true (.tmp 23)), none, true⟩, ⟨(some 8), (.alloc [(.int .i64 0), (.int .i64 0)]), none, true⟩, ⟨none, (.store 2 (.tmp 8) (.tmp 24)), none, true⟩]) (.reg (some [(3, 5)]) [⟨(some 25), (.mv (.tmp 6)), none, true⟩, ⟨(some 26), (.load 2 true (.tmp 8)), none, false⟩, ⟨(some 27), (.mks 2 [(.int .i64 0), (.int .i64 0)] 1 [(0, (.tmp 26))]), none, true⟩, ⟨(some 28), (.append 36 2 16 (.tmp 25) (.tmp 27)), none, false⟩, ⟨(some 29), (.mv (.tmp 3)), none, true⟩, ⟨(some 30), (.load 2 true (.tmp 8)), none, false⟩, ⟨(some 31), (.call 68 [(.tmp 29), (.tmp 30)] false), none, true⟩, ⟨(some 32), (.append 36 2 16 (.tmp 28) (.tmp 31)), none, true⟩, ⟨(some 6), (.mv (.tmp 32)), none, true⟩]))) (.reg none [⟨(some 33), (.bin .add (.tmp 21) (.val (.int .i64 1))), none, true⟩, ⟨(some 21), (.mv (.tmp 33)), none, true⟩]))))))) (.seq (.reg none [⟨(some 34), (.mv (.tmp 6)), none, true⟩, ⟨(some 35), (.call 69 [(.tmp 34), (.val (.clo 70 []))] true), none, true⟩]) (.reg (some [(2, 6), (3, 6), (4, 6)]) [⟨(some 36), (.mv (.tmp 3)), none, true⟩, ⟨(some 37), (.mv (.tmp 3)), none, true⟩, ⟨(some 38), (.nilchk (.tmp 37)), none, false⟩, ⟨(some 39), (.addr 1 (.tmp 38)), none, false⟩, ⟨(some 40), (.load 1 false (.tmp 39)), none, false⟩, ⟨(some 41), (.mv (.tmp 6)), none, true⟩, ⟨(some 42), (.call 71 [(.tmp 41)] true), none, false⟩, ⟨(some 43), (.mks 1 [.nilsl] 1 [(0, (.tmp 42))]), none, true⟩, ⟨(some 44), (.append 23 1 24 (.tmp 40) (.tmp 43)), none, true⟩, ⟨(some 45), (.nilchk (.tmp 36)), none, true⟩, ⟨(some 46), (.addr 1 (.tmp 45)), none, true⟩, ⟨none, (.store 1 (.tmp 46) (.tmp 44)), none, true⟩])))))) (.reg none [⟨(some 47), (.bin .add (.tmp 14) (.val (.int .i64 1))), none, true⟩, ⟨(some 14), (.mv (.tmp 47)), none, true⟩]))))))) (.seq (.reg none [⟨(some 48), (.mv (.tmp 3)), none, true⟩, ⟨(some 2), (.mv (.tmp 48)), none, true⟩]) .ret))))
def R47 : List LRes := [(.tmp 2)]
theorem low47 : Try.f47.body.bind (lowerCode Try.prog 49) = some L47 := by kernel_rfl
theorem res47 : lowerRes Try.prog Try.f47.results.toList = some R47 := by kernel_rfl
set_option maxRecDepth 100000 in
def L48 : LC := (.seq (.reg none [⟨(some 4), (.mv (.val (.bool false))), none, true⟩]) (.seq (.reg none [⟨(some 6), (.mks 1 [(.int .i64 0)] 3 [(0, (.val (.int .i64 1))), (1, (.val (.int .i64 2))), (2, (.val (.int .i64 4)))]), none, true⟩, ⟨(some 5), (.mv (.tmp 6)), none, true⟩]) (.seq (.reg none [⟨(some 7), (.mv (.tmp 0)), none, true⟩, ⟨(some 8), (.mv (.tmp 5)), none, true⟩, ⟨(some 9), (.mv (.tmp 1)), none, true⟩, ⟨(some 10), (.iaddrS 1 (.tmp 8) (.tmp 9)), none, true⟩, ⟨(some 11), (.load 1 false (.tmp 10)), none, true⟩, ⟨(some 12), (.bin .quo (.tmp 7) (.tmp 11)), none, true⟩, ⟨(some 13), (.bin .rem (.tmp 12) (.val (.int .i64 2))), none, true⟩, ⟨(some 14), (.bin .eql (.tmp 13) (.val (.int .i64 1))), none, true⟩, ⟨(some 4), (.mv (.tmp 14)), none, true⟩]) .ret)))
def R48 : List LRes := [(.tmp 4)]
theorem low48 : Try.f48.body.bind (lowerCode Try.prog 15) = some L48 := by kernel_rfl
theorem res48 : lowerRes Try.prog Try.f48.results.toList = some R48 := by kernel_rfl
set_option maxRecDepth 100000 in
def L49 : LC := (.seq (.reg none [⟨(some 3), (.box (.tmp 1)), none, true⟩, ⟨(some 4), (.mv (.val .nilsl)), none, true⟩, ⟨(some 5), (.mv (.val (.int .i64 0))), none, true⟩]) (.seq (.reg none [⟨(some 7), (.mv (.tmp 0)), none, true⟩, ⟨(some 8), (.call 44 [(.tmp 7)] false), none, true⟩, ⟨(some 6), (.mv (.tmp 8)), none, true⟩]) (.seq (.seq (.reg none [⟨(some 9), (.mv (.tmp 6)), none, true⟩, ⟨(some 10), (.bin .eql (.tmp 9) (.val (.int .i64 0))), none, true⟩, ⟨(some 11), (.mv (.tmp 10)), none, true⟩, ⟨(some 12), (.mv (.tmp 0)), (some (11, true)), true⟩, ⟨(some 13), (.load 2 true (.tmp 3)), (some (11, true)), true⟩, ⟨(some 14), (.call 30 [(.tmp 12), (.tmp 13)] false), (some (11, true)), true⟩, ⟨(some 15), (.bin .lss (.tmp 14) (.val (.int .i64 0))), (some (11, true)), true⟩, ⟨(some 16), (.pick (.tmp 11) (.tmp 15) (.val (.bool false))), none, true⟩]) (.cond (.tmp 16) (.reg none [⟨(some 6), (.mv (.val (.int .i64 5))), none, true⟩]) .skip)) (.seq (.seq (.reg none [⟨(some 17), (.mv (.tmp 6)), none, true⟩, ⟨(some 18), (.bin .neq (.tmp 17) (.val (.int .i64 0))), none, true⟩]) (.cond (.tmp 18) (.seq (.reg none [⟨(some 19), (.mv (.tmp 6)), none, true⟩, ⟨(some 4), (.mv (.val .nilsl)), none, true⟩, ⟨(some 5), (.mv (.tmp 19)), none, true⟩]) .ret) .skip)) (.seq (.reg (some []) [⟨(some 20), (.mv (.tmp 0)), none, true⟩, ⟨(some 21), (.call 47 [(.tmp 20)] false), none, false⟩, ⟨(some 22), (.load 2 true (.tmp 3)), none, false⟩, ⟨(some 23), (.call 68 [(.tmp 21), (.tmp 22)] false), none, true⟩, ⟨(some 4), (.mv (.tmp 23)), none, true⟩, ⟨(some 5), (.mv (.val (.int .i64 0))), none, true⟩]) .ret)))))
def R49 : List LRes := [(.tmp 4), (.tmp 5)]
theorem low49 : Try.f49.body.bind (lowerCode Try.prog 24) = some L49 := by kernel_rfl
theorem res49 : lowerRes Try.prog Try.f49.results.toList = some R49 := by kernel_rfl
set_option maxRecDepth 100000 in
def L50 : LC := (.seq (.reg none [⟨(some 4), (.mv (.val .nilsl)), none, true⟩, ⟨(some 5), (.mv (.val (.int .i64 0))), none, true⟩]) (.seq (.reg none [⟨(some 7), (.mv (.tmp 0)), none, true⟩, ⟨(some 8), (.call 44 [(.tmp 7)] false), none, true⟩, ⟨(some 6), (.mv (.tmp 8)), none, true⟩]) (.seq (.seq (.reg none [⟨(some 9), (.mv (.tmp 6)), none, true⟩, ⟨(some 10), (.bin .eql (.tmp 9) (.val (.int .i64 0))), none, true⟩, ⟨(some 11), (.mv (.tmp 10)), none, true⟩, ⟨(some 12), (.mv (.tmp 1)), (some (11, true)), true⟩, ⟨(some 13), (.call 60 [(.tmp 12)] false), (some (11, true)), true⟩, ⟨(some 14), (.not (.tmp 13)), (some (11, true)), true⟩, ⟨(some 15), (.pick (.tmp 11) (.tmp 14) (.val (.bool false))), none, true⟩]) (.cond (.tmp 15) (.reg none [⟨(some 6), (.mv (.val (.int .i64 3))), none, true⟩]) .skip)) (.seq (.seq (.reg none [⟨(some 16), (.mv (.tmp 6)), none, true⟩, ⟨(some 17), (.bin .neq (.tmp 16) (.val (.int .i64 0))), none, true⟩]) (.cond (.tmp 17) (.seq (.reg none [⟨(some 18), (.mv (.tmp 6)), none, true⟩, ⟨(some 4), (.mv (.val .nilsl)), none, true⟩, ⟨(some 5), (.mv (.tmp 18)), none, true⟩]) .ret) .skip)) (.seq (.reg none [⟨(some 19), (.mv (.tmp 0)), none, true⟩, ⟨(some 20), (.mv (.tmp 1)), none, true⟩, ⟨(some 21), (.call 72 [(.tmp 19), (.tmp 20)] false), none, true⟩, ⟨(some 4), (.mv (.tmp 21)), none, true⟩, ⟨(some 5), (.mv (.val (.int .i64 0))), none, true⟩]) .ret)))))
def R50 : List LRes := [(.tmp 4), (.tmp 5)]
theorem low50 : Try.f50.body.bind (lowerCode Try.prog 22) = some L50 := by kernel_rfl
theorem res50 : lowerRes Try.prog Try.f50.results.toList = some R50 := by kernel_rfl
set_option maxRecDepth 100000 in
def L51 : LC := (.seq (.reg none [⟨(some 4), (.mv (.val (.int .i64 0))), none, true⟩]) (.seq (.seq (.reg none [⟨(some 6), (.mv (.tmp 0)), none, true⟩, ⟨(some 7), (.len false (.tmp 6)), none, true⟩, ⟨(some 8), (.mv (.val (.int .i64 0))), none, true⟩]) (.block 0 (.loop (.seq (.reg none [⟨(some 9), (.bin .lss (.tmp 8) (.tmp 7)), none, true⟩]) (.seq (.cond (.tmp 9) .skip (.exit 0)) (.seq (.block 1 (.seq (.reg none [⟨(some 10), (.mv (.tmp 8)), none, true⟩, ⟨(some 5), (.mv (.tmp 10)), none, true⟩]) (.seq (.reg none [⟨(some 11), (.mv (.tmp 1)), none, true⟩, ⟨(some 12), (.mv (.tmp 0)), none, true⟩, ⟨(some 13), (.mv (.tmp 5)), none, true⟩, ⟨(some 14), (.iaddrS 2 (.tmp 12) (.tmp 13)), none, true⟩, ⟨(some 15), (.load 2 true (.tmp 14)), none, true⟩, ⟨(some 16), (.callv (.tmp 11) [(.tmp 15)]), none, true⟩]) (.cond (.tmp 16) (.seq (.reg none [⟨(some 17), (.mv (.tmp 5)), none, true⟩, ⟨(some 4), (.mv (.tmp 17)), none, true⟩]) .ret) .skip)))) (.reg none [⟨(some 18), (.bin .add (.tmp 8) (.val (.int .i64 1))), none, true⟩, ⟨(some 8), (.mv (.tmp 18)), none, true⟩]))))))) (.seq (.reg none [⟨(some 4), (.mv (.val (.int .i64 (-1)))), none, true⟩]) .ret)))
def R51 : List LRes := [(.tmp 4)]
theorem low51 : Try.f51.body.bind (lowerCode Try.prog 19) = some L51 := by kernel_rfl
theorem res51 : lowerRes Try.prog Try.f51.results.toList = some R51 := by kernel_rfl
set_option maxRecDepth 100000 in
def L52 : LC := (.seq (.reg none [⟨(some 2), (.box (.tmp 0)), none, true⟩, ⟨(some 3), (.box (.tmp 1)), none, true⟩, ⟨(some 4), (.mv (.val (.bool false))), none, true⟩]) (.seq (.reg (some []) [⟨(some 5), (.addr 1 (.tmp 3)), none, false⟩, ⟨(some 6), (.load 1 false (.tmp 5)), none, false⟩, ⟨(some 7), (.addr 0 (.tmp 3)), none, false⟩, ⟨(some 8), (.load 1 false (.tmp 7)), none, false⟩, ⟨(some 9), (.iaddrA 1 2 (.tmp 2) (.tmp 8)), none, true⟩, ⟨(some 10), (.load 1 false (.tmp 9)), none, false⟩, ⟨(some 11), (.bin .leq (.tmp 6) (.tmp 10)), none, true⟩, ⟨(some 4), (.mv (.tmp 11)), none, true⟩]) .ret))
def R52 : List LRes := [(.tmp 4)]
theorem low52 : Try.f52.body.bind (lowerCode Try.prog 12) = some L52 := by kernel_rfl
theorem res52 : lowerRes Try.prog Try.f52.results.toList = some R52 := by kernel_rfl
set_option maxRecDepth 100000 in
def L53 : LC := (.seq (.reg none [⟨(some 6), (.mv (.val .nilp)), none, true⟩]) (.seq (.reg none [⟨(some 7), (.mv (.tmp 1)), none, true⟩, ⟨(some 8), (.mv (.tmp 2)), none, true⟩, ⟨(some 9), (.call 73 [(.tmp 8)] false), none, true⟩, ⟨(some 10), (.build [(.int .i64 0), .nilsl] [(0, (1, (.tmp 7))), (1, (1, (.tmp 9)))]), none, true⟩, ⟨(some 11), (.mv (.tmp 0)), none, true⟩, ⟨(some 12), (.mv (.tmp 1)), none, true⟩, ⟨(some 13), (.call 74 [(.tmp 11), (.tmp 12)] false), none, true⟩, ⟨(some 14), (.mv (.tmp 0)), none, true⟩, ⟨(some 15), (.call 47 [(.tmp 14)] false), none, true⟩, ⟨(some 16), (.build [(.int .i64 0), .nilsl, .nilsl, .nilp] [(0, (2, (.tmp 10))), (2, (1, (.tmp 13))), (3, (1, (.tmp 15)))]), none, true⟩, ⟨(some 17), (.box (.tmp 16)), none, true⟩, ⟨(some 6), (.mv (.tmp 17)), none, true⟩]) .ret))
def R53 : List LRes := [(.tmp 6)]
theorem low53 : Try.f53.body.bind (lowerCode Try.prog 18) = some L53 := by kernel_rfl
theorem res53 : lowerRes Try.prog Try.f53.results.toList = some R53 := by kernel_rfl
set_option maxRecDepth 100000 in
def L54 : LC := (.seq (.reg none [⟨(some 2), (.alloc [(.int .i64 0), (.int .i64 0)]), none, true⟩, ⟨(some 3), (.mv (.val (.bool false))), none, true⟩]) (.seq (.reg none [⟨(some 4), (.alloc [(.int .i64 0), (.int .i64 0)]), none, true⟩]) (.seq (.reg none [⟨(some 5), (.mv (.val (.bool false))), none, true⟩]) (.seq (.seq (.reg none [⟨(some 8), (.mv (.tmp 0)), none, true⟩, ⟨(some 9), (.nilchk (.tmp 8)), none, true⟩, ⟨(some 10), (.addr 2 (.tmp 9)), none, true⟩, ⟨(some 11), (.load 1 false (.tmp 10)), none, true⟩, ⟨(some 12), (.len false (.tmp 11)), none, true⟩, ⟨(some 13), (.mv (.val (.int .i64 0))), none, true⟩]) (.block 0 (.loop (.seq (.reg none [⟨(some 14), (.bin .lss (.tmp 13) (.tmp 12)), none, true⟩]) (.seq (.cond (.tmp 14) .skip (.exit 0)) (.seq (.block 1 (.seq (.reg none [⟨(some 15), (.iaddrS 5 (.tmp 11) (.tmp 13)), none, true⟩, ⟨(some 16), (.load 5 true (.tmp 15)), none, true⟩, ⟨(some 7), (.alloc [(.int .i64 0), (.int .i64 0), (.int .i64 0), (.str ⟨#[]⟩), .nilsl]), none, true⟩, ⟨none, (.store 5 (.tmp 7) (.tmp 16)), none, true⟩]) (.seq (.reg (some []) [⟨(some 17), (.mv (.tmp 0)), none, true⟩, ⟨(some 18), (.nilchk (.tmp 17)), none, false⟩, ⟨(some 19), (.addr 0 (.tmp 18)), none, false⟩, ⟨(some 20), (.addr 1 (.tmp 19)), none, false⟩, ⟨(some 21), (.load 1 false (.tmp 20)), none, false⟩, ⟨(some 22), (.addr 0 (.tmp 7)), none, false⟩, ⟨(some 23), (.load 2 true (.tmp 22)), none, false⟩, ⟨(some 24), (.call 65 [(.tmp 21), (.tmp 23)] false), none, true⟩, ⟨(some 25), (.not (.tmp 24)), none, true⟩, ⟨(some 26), (.mv (.tmp 25)), none, true⟩, ⟨(some 27), (.mv (.tmp 0)), (some (26, true)), true⟩, ⟨(some 28), (.addr 0 (.tmp 7)), (some (26, true)), true⟩, ⟨(some 29), (.load 2 true (.tmp 28)), (some (26, true)), true⟩, ⟨(some 30), (.call 62 [(.tmp 27), (.tmp 29)] false), (some (26, true)), true⟩, ⟨(some 31), (.pick (.tmp 26) (.tmp 30) (.val (.bool false))), none, true⟩, ⟨(some 32), (.mv (.tmp 31)), none, true⟩, ⟨(some 33), (.mv (.tmp 5)), (some (32, true)), true⟩, ⟨(some 34), (.not (.tmp 33)), (some (32, true)), true⟩, ⟨(some 35), (.mv (.tmp 34)), (some (32, true)), true⟩, ⟨(some 36), (.addr 0 (.tmp 7)), (some (35, false)), false⟩, ⟨(some 37), (.load 2 true (.tmp 36)), (some (35, false)), false⟩, ⟨(some 38), (.load 2 true (.tmp 4)), (some (35, false)), false⟩, ⟨(some 39), (.call 75 [(.tmp 37), (.tmp 38)] false), (some (35, false)), true⟩, ⟨(some 40), (.pick (.tmp 35) (.val (.bool true)) (.tmp 39)), (some (32, true)), true⟩, ⟨(some 41), (.pick (.tmp 32) (.tmp 40) (.val (.bool false))), none, true⟩]) (.cond (.tmp 41) (.reg none [⟨(some 42), (.addr 0 (.tmp 7)), none, true⟩, ⟨(some 43), (.load 2 true (.tmp 42)), none, true⟩, ⟨none, (.store 2 (.tmp 4) (.tmp 43)), none, true⟩, ⟨(some 5), (.mv (.val (.bool true))), none, true⟩]) .skip)))) (.reg none [⟨(some 44), (.bin .add (.tmp 13) (.val (.int .i64 1))), none, true⟩, ⟨(some 13), (.mv (.tmp 44)), none, true⟩]))))))) (.seq (.reg none [⟨(some 45), (.load 2 true (.tmp 4)), none, true⟩, ⟨(some 46), (.mv (.tmp 5)), none, true⟩, ⟨none, (.store 2 (.tmp 2) (.tmp 45)), none, true⟩, ⟨(some 3), (.mv (.tmp 46)), none, true⟩]) .ret)))))
def R54 : List LRes := [(.cell 2 2 true), (.tmp 3)]
theorem low54 : Try.f54.body.bind (lowerCode Try.prog 47) = some L54 := by kernel_rfl
theorem res54 : lowerRes Try.prog Try.f54.results.toList = some R54 := by kernel_rfl
set_option maxRecDepth 100000 in
def L55 : LC := (.seq (.reg none [⟨(some 4), (.mv (.val (.int .i64 0))), none, true⟩]) (.seq (.seq (.reg none [⟨(some 6), (.mv (.tmp 0)), none, true⟩, ⟨(some 7), (.len false (.tmp 6)), none, true⟩, ⟨(some 8), (.mv (.val (.int .i64 0))), none, true⟩]) (.block 0 (.loop (.seq (.reg none [⟨(some 9), (.bin .lss (.tmp 8) (.tmp 7)), none, true⟩]) (.seq (.cond (.tmp 9) .skip (.exit 0)) (.seq (.block 1 (.seq (.reg none [⟨(some 10), (.mv (.tmp 8)), none, true⟩, ⟨(some 5), (.mv (.tmp 10)), none, true⟩]) (.seq (.reg none [⟨(some 11), (.mv (.tmp 1)), none, true⟩, ⟨(some 12), (.mv (.tmp 0)), none, true⟩, ⟨(some 13), (.mv (.tmp 5)), none, true⟩, ⟨(some 14), (.iaddrS 5 (.tmp 12) (.tmp 13)), none, true⟩, ⟨(some 15), (.load 5 true (.tmp 14)), none, true⟩, ⟨(some 16), (.callv (.tmp 11) [(.tmp 15)]), none, true⟩]) (.cond (.tmp 16) (.seq (.reg none [⟨(some 17), (.mv (.tmp 5)), none, true⟩, ⟨(some 4), (.mv (.tmp 17)), none, true⟩]) .ret) .skip)))) (.reg none [⟨(some 18), (.bin .add (.tmp 8) (.val (.int .i64 1))), none, true⟩, ⟨(some 8), (.mv (.tmp 18)), none, true⟩]))))))) (.seq (.reg none [⟨(some 4), (.mv (.val (.int .i64 (-1)))), none, true⟩]) .ret)))
def R55 : List LRes := [(.tmp 4)]
theorem low55 : Try.f55.body.bind (lowerCode Try.prog 19) = some L55 := by kernel_rfl
theorem res55 : lowerRes Try.prog Try.f55.results.toList = some R55 := by kernel_rfl
set_option maxRecDepth 100000 in
def L56 : LC := (.seq (.reg none [⟨(some 2), (.box (.tmp 0)), none, true⟩, ⟨(some 3), (.mv (.val (.bool false))), none, true⟩]) (.seq (.reg none [⟨(some 4), (.addr 0 (.tmp 2)), none, true⟩, ⟨(some 5), (.load 2 true (.tmp 4)), none, true⟩, ⟨(some 6), (.load 2 true (.tmp 1)), none, true⟩, ⟨(some 7), (.eqag false [.i, .i] (.tmp 5) (.tmp 6)), none, true⟩, ⟨(some 3), (.mv (.tmp 7)), none, true⟩]) .ret))
def R56 : List LRes := [(.tmp 3)]
theorem low56 : Try.f56.body.bind (lowerCode Try.prog 8) = some L56 := by kernel_rfl
theorem res56 : lowerRes Try.prog Try.f56.results.toList = some R56 := by kernel_rfl
set_option maxRecDepth 100000 in
def L57 : LC := (.seq (.reg none [⟨(some 1), (.box (.tmp 0)), none, true⟩, ⟨(some 2), (.mv (.val (.int .i64 0))), none, true⟩]) (.seq (.seq (.reg none [⟨(some 4), (.addr 0 (.tmp 1)), none, true⟩, ⟨(some 5), (.load 2 true (.tmp 4)), none, true⟩, ⟨(some 6), (.call 76 [(.tmp 5)] false), none, true⟩, ⟨(some 7), (.not (.tmp 6)), none, true⟩, ⟨(some 8), (.mv (.tmp 7)), none, true⟩, ⟨(some 9), (.addr 2 (.tmp 1)), (some (8, false)), true⟩, ⟨(some 10), (.load 1 false (.tmp 9)), (some (8, false)), true⟩, ⟨(some 11), (.call 33 [(.tmp 10), (.val (.int .i64 1)), (.val (.int .i64 7))] false), (some (8, false)), true⟩, ⟨(some 12), (.not (.tmp 11)), (some (8, false)), true⟩, ⟨(some 13), (.pick (.tmp 8) (.val (.bool true)) (.tmp 12)), none, true⟩]) (.cond (.tmp 13) (.seq (.reg none [⟨(some 2), (.mv (.val (.int .i64 3))), none, true⟩]) .ret) .skip)) (.seq (.seq (.reg none [⟨(some 14), (.addr 3 (.tmp 1)), none, true⟩, ⟨(some 15), (.load 1 false (.tmp 14)), none, true⟩, ⟨(some 16), (.len true (.tmp 15)), none, true⟩, ⟨(some 17), (.bin .gtr (.tmp 16) (.val (.int .i64 12))), none, true⟩, ⟨(some 18), (.mv (.tmp 17)), none, true⟩, ⟨(some 19), (.addr 4 (.tmp 1)), (some (18, false)), true⟩, ⟨(some 20), (.load 1 false (.tmp 19)), (some (18, false)), true⟩, ⟨(some 21), (.len false (.tmp 20)), (some (18, false)), true⟩, ⟨(some 22), (.bin .gtr (.tmp 21) (.val (.int .i64 6))), (some (18, false)), true⟩, ⟨(some 23), (.pick (.tmp 18) (.val (.bool true)) (.tmp 22)), none, true⟩]) (.cond (.tmp 23) (.seq (.reg none [⟨(some 2), (.mv (.val (.int .i64 2))), none, true⟩]) .ret) .skip)) (.seq (.seq (.reg none [⟨(some 3), (.mv (.val (.int .i64 0))), none, true⟩]) (.block 0 (.loop (.seq (.seq (.reg none [⟨(some 24), (.mv (.tmp 3)), none, true⟩, ⟨(some 25), (.addr 4 (.tmp 1)), none, true⟩, ⟨(some 26), (.load 1 false (.tmp 25)), none, true⟩, ⟨(some 27), (.len false (.tmp 26)), none, true⟩, ⟨(some 28), (.bin .lss (.tmp 24) (.tmp 27)), none, true⟩]) (.cond (.tmp 28) .skip (.exit 0))) (.seq (.block 1 (.seq (.seq (.reg none [⟨(some 31), (.addr 4 (.tmp 1)), none, true⟩, ⟨(some 32), (.load 1 false (.tmp 31)), none, true⟩, ⟨(some 33), (.mv (.tmp 3)), none, true⟩, ⟨(some 34), (.iaddrS 2 (.tmp 32) (.tmp 33)), none, true⟩, ⟨(some 35), (.load 2 true (.tmp 34)), none, true⟩, ⟨(some 36), (.call 76 [(.tmp 35)] false), none, true⟩, ⟨(some 37), (.not (.tmp 36)), none, true⟩]) (.cond (.tmp 37) (.seq (.reg none [⟨(some 2), (.mv (.val (.int .i64 3))), none, true⟩]) .ret) .skip)) (.seq (.reg (some []) [⟨(some 38), (.mv (.tmp 3)), none, true⟩, ⟨(some 39), (.bin .gtr (.tmp 38) (.val (.int .i64 0))), none, true⟩, ⟨(some 40), (.mv (.tmp 39)), none, true⟩, ⟨(some 41), (.addr 4 (.tmp 1)), (some (40, true)), false⟩, ⟨(some 42), (.load 1 false (.tmp 41)), (some (40, true)), false⟩, ⟨(some 43), (.mv (.tmp 3)), (some (40, true)), true⟩, ⟨(some 44), (.bin .sub (.tmp 43) (.val (.int .i64 1))), (some (40, true)), true⟩, ⟨(some 45), (.iaddrS 2 (.tmp 42) (.tmp 44)), (some (40, true)), false⟩, ⟨(some 46), (.load 2 true (.tmp 45)), (some (40, true)), false⟩, ⟨(some 47), (.addr 4 (.tmp 1)), (some (40, true)), false⟩, ⟨(some 48), (.load 1 false (.tmp 47)), (some (40, true)), false⟩, ⟨(some 49), (.mv (.tmp 3)), (some (40, true)), true⟩, ⟨(some 50), (.iaddrS 2 (.tmp 48) (.tmp 49)), (some (40, true)), false⟩, ⟨(some 51), (.load 2 true (.tmp 50)), (some (40, true)), false⟩, ⟨(some 52), (.call 77 [(.tmp 46), (.tmp 51)] false), (some (40, true)), true⟩, ⟨(some 53), (.not (.tmp 52)), (some (40, true)), true⟩, ⟨(some 54), (.pick (.tmp 40) (.tmp 53) (.val (.bool false))), none, true⟩, ⟨(some 55), (.mv (.tmp 54)), none, true⟩, ⟨(some 56), (.addr 4 (.tmp 1)), (some (55, false)), false⟩, ⟨(some 57), (.load 1 false (.tmp 56)), (some (55, false)), false⟩, ⟨(some 58), (.mv (.tmp 3)), (some (55, false)), true⟩, ⟨(some 59), (.iaddrS 2 (.tmp 57) (.tmp 58)), (some (55, false)), false⟩, ⟨(some 60), (.addr 0 (.tmp 59)), (some (55, false)), false⟩, ⟨(some 61), (.load 1 false (.tmp 60)), (some (55, false)), false⟩, ⟨(some 62), (.addr 0 (.tmp 1)), (some (55, false)), false⟩, ⟨(some 63), (.addr 0 (.tmp 62)), (some (55, false)), false⟩, ⟨(some 64), (.load 1 false (.tmp 63)), (some (55, false)), false⟩, ⟨(some 65), (.bin .eql (.tmp 61) (.tmp 64)), (some (55, false)), true⟩, ⟨(some 66), (.mv (.tmp 65)), (some (55, false)), true⟩, ⟨(some 67), (.addr 4 (.tmp 1)), (some (66, true)), false⟩, ⟨(some 68), (.load 1 false (.tmp 67)), (some (66, true)), false⟩, ⟨(some 69), (.mv (.tmp 3)), (some (66, true)), true⟩, ⟨(some 70), (.iaddrS 2 (.tmp 68) (.tmp 69)), (some (66, true)), false⟩, ⟨(some 71), (.addr 1 (.tmp 70)), (some (66, true)), false⟩, ⟨(some 72), (.load 1 false (.tmp 71)), (some (66, true)), false⟩, ⟨(some 73), (.addr 0 (.tmp 1)), (some (66, true)), false⟩, ⟨(some 74), (.addr 1 (.tmp 73)), (some (66, true)), false⟩, ⟨(some 75), (.load 1 false (.tmp 74)), (some (66, true)), false⟩, ⟨(some 76), (.bin .geq (.tmp 72) (.tmp 75)), (some (66, true)), true⟩, ⟨(some 77), (.pick (.tmp 66) (.tmp 76) (.val (.bool false))), (some (55, false)), true⟩, ⟨(some 78), (.pick (.tmp 55) (.val (.bool true)) (.tmp 77)), none, true⟩]) (.cond (.tmp 78) (.seq (.reg none [⟨(some 2), (.mv (.val (.int .i64 4))), none, true⟩]) .ret) .skip)))) (.reg none [⟨(some 29), (.mv (.tmp 3)), none, true⟩, ⟨(some 30), (.bin .add (.tmp 29) (.val (.int .i64 1))), none, true⟩, ⟨(some 3), (.mv (.tmp 30)), none, true⟩])))))) (.seq (.reg none [⟨(some 2), (.mv (.val (.int .i64 0))), none, true⟩]) .ret)))))
def R57 : List LRes := [(.tmp 2)]
theorem low57 : Try.f57.body.bind (lowerCode Try.prog 79) = some L57 := by kernel_rfl
theorem res57 : lowerRes Try.prog Try.f57.results.toList = some R57 := by kernel_rfl
set_option maxRecDepth 100000 in
def L58 : LC := (.seq (.reg none [⟨(some 4), (.mv (.val .nilsl)), none, true⟩]) (.seq (.reg none [⟨(some 8), (.mv (.tmp 0)), none, true⟩, ⟨(some 9), (.len false (.tmp 8)), none, true⟩, ⟨(some 10), (.mkn 4 1 1 [(.bool false)] (.tmp 9) (.tmp 9)), none, true⟩, ⟨(some 5), (.mv (.tmp 10)), none, true⟩]) (.seq (.seq (.reg none [⟨(some 11), (.mv (.tmp 1)), none, true⟩, ⟨(some 6), (.mv (.tmp 11)), none, true⟩]) (.block 0 (.loop (.seq (.seq (.reg none [⟨(some 12), (.mv (.tmp 6)), none, true⟩, ⟨(some 13), (.bin .geq (.tmp 12) (.val (.int .i64 0))), none, true⟩]) (.cond (.tmp 13) .skip (.exit 0))) (.seq (.block 1 (.seq (.reg none [⟨(some 16), (.mv (.tmp 6)), none, true⟩, ⟨(some 17), (.mv (.tmp 1)), none, true⟩, ⟨(some 18), (.bin .eql (.tmp 16) (.tmp 17)), none, true⟩, ⟨(some 19), (.mv (.tmp 18)), none, true⟩, ⟨(some 20), (.mv (.tmp 5)), (some (19, false)), true⟩, ⟨(some 21), (.mv (.tmp 6)), (some (19, false)), true⟩, ⟨(some 22), (.iaddrS 1 (.tmp 20) (.tmp 21)), (some (19, false)), true⟩, ⟨(some 23), (.load 1 false (.tmp 22)), (some (19, false)), true⟩, ⟨(some 24), (.pick (.tmp 19) (.val (.bool true)) (.tmp 23)), none, true⟩]) (.cond (.tmp 24) (.seq (.reg none [⟨(some 7), (.mv (.val (.int .i64 0))), none, true⟩]) (.block 2 (.loop (.seq (.seq (.reg none [⟨(some 25), (.mv (.tmp 7)), none, true⟩, ⟨(some 26), (.mv (.tmp 0)), none, true⟩, ⟨(some 27), (.mv (.tmp 6)), none, true⟩, ⟨(some 28), (.iaddrS 5 (.tmp 26) (.tmp 27)), none, true⟩, ⟨(some 29), (.addr 4 (.tmp 28)), none, true⟩, ⟨(some 30), (.load 1 false (.tmp 29)), none, true⟩, ⟨(some 31), (.len false (.tmp 30)), none, true⟩, ⟨(some 32), (.bin .lss (.tmp 25) (.tmp 31)), none, true⟩]) (.cond (.tmp 32) .skip (.exit 2))) (.seq (.block 3 (.reg none [⟨(some 35), (.mv (.tmp 5)), none, true⟩, ⟨(some 36), (.mv (.tmp 0)), none, true⟩, ⟨(some 37), (.mv (.tmp 0)), none, true⟩, ⟨(some 38), (.mv (.tmp 6)), none, true⟩, ⟨(some 39), (.iaddrS 5 (.tmp 37) (.tmp 38)), none, true⟩, ⟨(some 40), (.addr 4 (.tmp 39)), none, true⟩, ⟨(some 41), (.load 1 false (.tmp 40)), none, true⟩, ⟨(some 42), (.mv (.tmp 7)), none, true⟩, ⟨(some 43), (.iaddrS 2 (.tmp 41) (.tmp 42)), none, true⟩, ⟨(some 44), (.load 2 true (.tmp 43)), none, true⟩, ⟨(some 45), (.call 10 [(.tmp 36), (.tmp 44)] false), none, true⟩, ⟨(some 46), (.iaddrS 1 (.tmp 35) (.tmp 45)), none, true⟩, ⟨none, (.store 1 (.tmp 46) (.val (.bool true))), none, true⟩])) (.reg none [⟨(some 33), (.mv (.tmp 7)), none, true⟩, ⟨(some 34), (.bin .add (.tmp 33) (.val (.int .i64 1))), none, true⟩, ⟨(some 7), (.mv (.tmp 34)), none, true⟩])))))) .skip))) (.reg none [⟨(some 14), (.mv (.tmp 6)), none, true⟩, ⟨(some 15), (.bin .sub (.tmp 14) (.val (.int .i64 1))), none, true⟩, ⟨(some 6), (.mv (.tmp 15)), none, true⟩])))))) (.seq (.reg none [⟨(some 47), (.mv (.tmp 5)), none, true⟩, ⟨(some 4), (.mv (.tmp 47)), none, true⟩]) .ret))))
def R58 : List LRes := [(.tmp 4)]
theorem low58 : Try.f58.body.bind (lowerCode Try.prog 48) = some L58 := by kernel_rfl
theorem res58 : lowerRes Try.prog Try.f58.results.toList = some R58 := by kernel_rfl
set_option maxRecDepth 100000 in
def L59 : LC := (.seq (.reg none [⟨(some 4), (.box (.tmp 1)), none, true⟩, ⟨(some 5), (.box (.tmp 2)), none, true⟩, ⟨(some 6), (.mv (.val (.bool false))), none, true⟩]) (.seq (.reg (some []) [⟨(some 7), (.mv (.tmp 0)), none, true⟩, ⟨(some 8), (.mv (.tmp 0)), none, true⟩, ⟨(some 9), (.load 2 true (.tmp 5)), none, false⟩, ⟨(some 10), (.call 10 [(.tmp 8), (.tmp 9)] false), none, false⟩, ⟨(some 11), (.call 58 [(.tmp 7), (.tmp 10)] false), none, false⟩, ⟨(some 12), (.mv (.tmp 0)), none, true⟩, ⟨(some 13), (.load 2 true (.tmp 4)), none, false⟩, ⟨(some 14), (.call 10 [(.tmp 12), (.tmp 13)] false), none, true⟩, ⟨(some 15), (.iaddrS 1 (.tmp 11) (.tmp 14)), none, true⟩, ⟨(some 16), (.load 1 false (.tmp 15)), none, true⟩, ⟨(some 6), (.mv (.tmp 16)), none, true⟩]) .ret))
def R59 : List LRes := [(.tmp 6)]
theorem low59 : Try.f59.body.bind (lowerCode Try.prog 17) = some L59 := by kernel_rfl
theorem res59 : lowerRes Try.prog Try.f59.results.toList = some R59 := by kernel_rfl
set_option maxRecDepth 100000 in
def L60 : LC := (.seq (.reg none [⟨(some 2), (.mv (.val (.bool false))), none, true⟩]) (.seq (.reg none [⟨(some 3), (.mv (.tmp 0)), none, true⟩, ⟨(some 4), (.call 78 [(.tmp 3), (.val (.int .i64 1)), (.val (.int .i64 7))] false), none, true⟩, ⟨(some 2), (.mv (.tmp 4)), none, true⟩]) .ret))
def R60 : List LRes := [(.tmp 2)]
theorem low60 : Try.f60.body.bind (lowerCode Try.prog 5) = some L60 := by kernel_rfl
theorem res60 : lowerRes Try.prog Try.f60.results.toList = some R60 := by kernel_rfl
set_option maxRecDepth 100000 in
def L61 : LC := (.seq (.reg none [⟨(some 2), (.box (.tmp 0)), none, true⟩, ⟨(some 3), (.mv (.val (.bool false))), none, true⟩]) (.seq (.reg (some []) [⟨(some 4), (.load 1 false (.tmp 1)), none, false⟩, ⟨(some 5), (.nilchk (.tmp 4)), none, false⟩, ⟨(some 6), (.addr 2 (.tmp 5)), none, false⟩, ⟨(some 7), (.load 1 false (.tmp 6)), none, false⟩, ⟨(some 8), (.load 2 true (.tmp 2)), none, false⟩, ⟨(some 9), (.call 30 [(.tmp 7), (.tmp 8)] false), none, true⟩, ⟨(some 10), (.bin .lss (.tmp 9) (.val (.int .i64 0))), none, true⟩, ⟨(some 11), (.mv (.tmp 10)), none, true⟩, ⟨(some 12), (.load 1 false (.tmp 1)), (some (11, false)), false⟩, ⟨(some 13), (.load 2 true (.tmp 2)), (some (11, false)), false⟩, ⟨(some 14), (.call 62 [(.tmp 12), (.tmp 13)] false), (some (11, false)), true⟩, ⟨(some 15), (.not (.tmp 14)), (some (11, false)), true⟩, ⟨(some 16), (.pick (.tmp 11) (.val (.bool true)) (.tmp 15)), none, true⟩, ⟨(some 3), (.mv (.tmp 16)), none, true⟩]) .ret))
def R61 : List LRes := [(.tmp 3)]
theorem low61 : Try.f61.body.bind (lowerCode Try.prog 17) = some L61 := by kernel_rfl
theorem res61 : lowerRes Try.prog Try.f61.results.toList = some R61 := by kernel_rfl
set_option maxRecDepth 100000 in
def L62 : LC := (.seq (.reg none [⟨(some 2), (.box (.tmp 0)), none, true⟩, ⟨(some 3), (.box (.tmp 1)), none, true⟩, ⟨(some 4), (.mv (.val (.bool false))), none, true⟩]) (.seq (.reg none [⟨(some 5), (.load 1 false (.tmp 2)), none, true⟩, ⟨(some 6), (.nilchk (.tmp 5)), none, true⟩, ⟨(some 7), (.addr 2 (.tmp 6)), none, true⟩, ⟨(some 8), (.load 1 false (.tmp 7)), none, true⟩, ⟨(some 9), (.clo 80 [(.tmp 2), (.tmp 3)]), none, true⟩, ⟨(some 10), (.call 79 [(.tmp 8), (.tmp 9)] false), none, true⟩, ⟨(some 11), (.not (.tmp 10)), none, true⟩, ⟨(some 4), (.mv (.tmp 11)), none, true⟩]) .ret))
def R62 : List LRes := [(.tmp 4)]
theorem low62 : Try.f62.body.bind (lowerCode Try.prog 12) = some L62 := by kernel_rfl
theorem res62 : lowerRes Try.prog Try.f62.results.toList = some R62 := by kernel_rfl
set_option maxRecDepth 100000 in
def L63 : LC := (.seq (.reg none [⟨(some 1), (.box (.tmp 0)), none, true⟩, ⟨(some 2), (.mv (.val (.int .i64 0))), none, true⟩]) (.seq (.block 0 (.seq (.reg none [⟨(some 6), (.addr 0 (.tmp 1)), none, true⟩, ⟨(some 7), (.load 2 true (.tmp 6)), none, true⟩, ⟨(some 8), (.call 81 [(.tmp 7)] false), none, true⟩, ⟨(some 9), (.not (.tmp 8)), none, true⟩, ⟨(some 10), (.mv (.tmp 9)), none, true⟩, ⟨(some 11), (.addr 2 (.tmp 1)), (some (10, false)), true⟩, ⟨(some 12), (.load 1 false (.tmp 11)), (some (10, false)), true⟩, ⟨(some 13), (.call 60 [(.tmp 12)] false), (some (10, false)), true⟩, ⟨(some 14), (.not (.tmp 13)), (some (10, false)), true⟩, ⟨(some 15), (.pick (.tmp 10) (.val (.bool true)) (.tmp 14)), none, true⟩, ⟨(some 5), (.mv (.tmp 15)), none, true⟩]) (.cond (.tmp 5) (.seq (.reg none [⟨(some 2), (.mv (.val (.int .i64 3))), none, true⟩]) .ret) (.seq (.reg none [⟨(some 17), (.addr 3 (.tmp 1)), none, true⟩, ⟨(some 18), (.load 1 false (.tmp 17)), none, true⟩, ⟨(some 19), (.len true (.tmp 18)), none, true⟩, ⟨(some 20), (.bin .gtr (.tmp 19) (.val (.int .i64 12))), none, true⟩, ⟨(some 21), (.mv (.tmp 20)), none, true⟩, ⟨(some 22), (.addr 4 (.tmp 1)), (some (21, false)), true⟩, ⟨(some 23), (.load 1 false (.tmp 22)), (some (21, false)), true⟩, ⟨(some 24), (.len false (.tmp 23)), (some (21, false)), true⟩, ⟨(some 25), (.bin .gtr (.tmp 24) (.val (.int .i64 6))), (some (21, false)), true⟩, ⟨(some 26), (.pick (.tmp 21) (.val (.bool true)) (.tmp 25)), none, true⟩, ⟨(some 16), (.mv (.tmp 26)), none, true⟩]) (.cond (.tmp 16) (.seq (.reg none [⟨(some 2), (.mv (.val (.int .i64 2))), none, true⟩]) .ret) .skip))))) (.seq (.seq (.reg none [⟨(some 27), (.addr 4 (.tmp 1)), none, true⟩, ⟨(some 28), (.load 1 false (.tmp 27)), none, true⟩, ⟨(some 29), (.len false (.tmp 28)), none, true⟩, ⟨(some 30), (.mv (.val (.int .i64 0))), none, true⟩]) (.block 1 (.loop (.seq (.reg none [⟨(some 31), (.bin .lss (.tmp 30) (.tmp 29)), none, true⟩]) (.seq (.cond (.tmp 31) .skip (.exit 1)) (.seq (.block 2 (.seq (.reg none [⟨(some 32), (.mv (.tmp 30)), none, true⟩, ⟨(some 33), (.iaddrS 2 (.tmp 28) (.tmp 30)), none, true⟩, ⟨(some 34), (.load 2 true (.tmp 33)), none, true⟩, ⟨(some 4), (.alloc [(.int .i64 0), (.int .i64 0)]), none, true⟩, ⟨(some 3), (.mv (.tmp 32)), none, true⟩, ⟨none, (.store 2 (.tmp 4) (.tmp 34)), none, true⟩]) (.block 3 (.seq (.reg none [⟨(some 36), (.load 2 true (.tmp 4)), none, true⟩, ⟨(some 37), (.call 81 [(.tmp 36)] false), none, true⟩, ⟨(some 38), (.not (.tmp 37)), none, true⟩, ⟨(some 35), (.mv (.tmp 38)), none, true⟩]) (.cond (.tmp 35) (.seq (.reg none [⟨(some 2), (.mv (.val (.int .i64 3))), none, true⟩]) .ret) (.seq (.seq (.reg (some []) [⟨(some 40), (.mv (.tmp 3)), none, true⟩, ⟨(some 41), (.bin .gtr (.tmp 40) (.val (.int .i64 0))), none, true⟩, ⟨(some 42), (.mv (.tmp 41)), none, true⟩, ⟨(some 43), (.addr 4 (.tmp 1)), (some (42, true)), false⟩, ⟨(some 44), (.load 1 false (.tmp 43)), (some (42, true)), false⟩, ⟨(some 45), (.mv (.tmp 3)), (some (42, true)), true⟩, ⟨(some 46), (.bin .sub (.tmp 45) (.val (.int .i64 1))), (some (42, true)), true⟩, ⟨(some 47), (.iaddrS 2 (.tmp 44) (.tmp 46)), (some (42, true)), false⟩, ⟨(some 48), (.load 2 true (.tmp 47)), (some (42, true)), false⟩, ⟨(some 49), (.load 2 true (.tmp 4)), (some (42, true)), false⟩, ⟨(some 50), (.call 70 [(.tmp 48), (.tmp 49)] false), (some (42, true)), true⟩, ⟨(some 51), (.bin .geq (.tmp 50) (.val (.int .i64 0))), (some (42, true)), true⟩, ⟨(some 52), (.pick (.tmp 42) (.tmp 51) (.val (.bool false))), none, true⟩, ⟨(some 39), (.mv (.tmp 52)), none, true⟩]) (.cond (.tmp 39) .skip (.reg none [⟨(some 53), (.addr 0 (.tmp 4)), none, true⟩, ⟨(some 54), (.load 1 false (.tmp 53)), none, true⟩, ⟨(some 55), (.addr 0 (.tmp 1)), none, true⟩, ⟨(some 56), (.addr 0 (.tmp 55)), none, true⟩, ⟨(some 57), (.load 1 false (.tmp 56)), none, true⟩, ⟨(some 58), (.bin .eql (.tmp 54) (.tmp 57)), none, true⟩, ⟨(some 59), (.mv (.tmp 58)), none, true⟩, ⟨(some 60), (.addr 1 (.tmp 4)), (some (59, true)), true⟩, ⟨(some 61), (.load 1 false (.tmp 60)), (some (59, true)), true⟩, ⟨(some 62), (.addr 0 (.tmp 1)), (some (59, true)), true⟩, ⟨(some 63), (.addr 1 (.tmp 62)), (some (59, true)), true⟩, ⟨(some 64), (.load 1 false (.tmp 63)), (some (59, true)), true⟩, ⟨(some 65), (.bin .geq (.tmp 61) (.tmp 64)), (some (59, true)), true⟩, ⟨(some 66), (.pick (.tmp 59) (.tmp 65) (.val (.bool false))), none, true⟩, ⟨(some 39), (.mv (.tmp 66)), none, true⟩]))) (.cond (.tmp 39) (.seq (.reg none [⟨(some 2), (.mv (.val (.int .i64 4))), none, true⟩]) .ret) .skip))))))) (.reg none [⟨(some 67), (.bin .add (.tmp 30) (.val (.int .i64 1))), none, true⟩, ⟨(some 30), (.mv (.tmp 67)), none, true⟩]))))))) (.seq (.reg none [⟨(some 2), (.mv (.val (.int .i64 0))), none, true⟩]) .ret))))
def R63 : List LRes := [(.tmp 2)]
theorem low63 : Try.f63.body.bind (lowerCode Try.prog 68) = some L63 := by kernel_rfl
theorem res63 : lowerRes Try.prog Try.f63.results.toList = some R63 := by kernel_rfl
set_option maxRecDepth 100000 in
def L64 : LC := (.seq (.reg none [⟨(some 2), (.box (.tmp 0)), none, true⟩, ⟨(some 3), (.box (.tmp 1)), none, true⟩, ⟨(some 4), (.mv (.val (.bool false))), none, true⟩]) (.seq (.reg (some []) [⟨(some 5), (.load 1 false (.tmp 2)), none, false⟩, ⟨(some 6), (.call 26 [(.tmp 5)] false), none, false⟩, ⟨(some 7), (.addr 0 (.tmp 3)), none, false⟩, ⟨(some 8), (.addr 0 (.tmp 7)), none, false⟩, ⟨(some 9), (.load 1 false (.tmp 8)), none, false⟩, ⟨(some 10), (.idxA 1 2 false (.tmp 6) (.tmp 9)), none, true⟩, ⟨(some 11), (.bin .add (.tmp 10) (.val (.int .i64 1))), none, true⟩, ⟨(some 12), (.addr 0 (.tmp 3)), none, false⟩, ⟨(some 13), (.addr 1 (.tmp 12)), none, false⟩, ⟨(some 14), (.load 1 false (.tmp 13)), none, false⟩, ⟨(some 15), (.bin .eql (.tmp 11) (.tmp 14)), none, true⟩, ⟨(some 16), (.mv (.tmp 15)), none, true⟩, ⟨(some 17), (.addr 4 (.tmp 3)), (some (16, true)), true⟩, ⟨(some 18), (.load 1 false (.tmp 17)), (some (16, true)), true⟩, ⟨(some 19), (.clo 82 [(.tmp 2)]), (some (16, true)), true⟩, ⟨(some 20), (.call 27 [(.tmp 18), (.tmp 19)] false), (some (16, true)), true⟩, ⟨(some 21), (.not (.tmp 20)), (some (16, true)), true⟩, ⟨(some 22), (.pick (.tmp 16) (.tmp 21) (.val (.bool false))), none, true⟩, ⟨(some 4), (.mv (.tmp 22)), none, true⟩]) .ret))
def R64 : List LRes := [(.tmp 4)]
theorem low64 : Try.f64.body.bind (lowerCode Try.prog 23) = some L64 := by kernel_rfl
theorem res64 : lowerRes Try.prog Try.f64.results.toList = some R64 := by kernel_rfl
set_option maxRecDepth 100000 in
def L65 : LC := (.seq (.reg none [⟨(some 3), (.box (.tmp 1)), none, true⟩, ⟨(some 4), (.mv (.val (.bool false))), none, true⟩]) (.seq (.reg none [⟨(some 5), (.mv (.tmp 0)), none, true⟩, ⟨(some 6), (.load 2 true (.tmp 3)), none, true⟩, ⟨(some 7), (.call 83 [(.tmp 5), (.tmp 6)] false), none, true⟩, ⟨(some 8), (.bin .geq (.tmp 7) (.val (.int .i64 0))), none, true⟩, ⟨(some 4), (.mv (.tmp 8)), none, true⟩]) .ret))
def R65 : List LRes := [(.tmp 4)]
theorem low65 : Try.f65.body.bind (lowerCode Try.prog 9) = some L65 := by kernel_rfl
theorem res65 : lowerRes Try.prog Try.f65.results.toList = some R65 := by kernel_rfl
set_option maxRecDepth 100000 in
def L66 : LC := (.seq (.reg none [⟨(some 3), (.box (.tmp 0)), none, true⟩, ⟨(some 4), (.mv (.val (.bool false))), none, true⟩]) (.seq (.reg none [⟨(some 5), (.load 1 false (.tmp 1)), none, true⟩, ⟨(some 6), (.load 2 true (.tmp 3)), none, true⟩, ⟨(some 7), (.load 2 true (.tmp 2)), none, true⟩, ⟨(some 8), (.call 67 [(.tmp 5), (.tmp 6), (.tmp 7)] false), none, true⟩, ⟨(some 4), (.mv (.tmp 8)), none, true⟩]) .ret))
def R66 : List LRes := [(.tmp 4)]
theorem low66 : Try.f66.body.bind (lowerCode Try.prog 9) = some L66 := by kernel_rfl
theorem res66 : lowerRes Try.prog Try.f66.results.toList = some R66 := by kernel_rfl
set_option maxRecDepth 100000 in
def L67 : LC := (.seq (.reg none [⟨(some 4), (.box (.tmp 1)), none, true⟩, ⟨(some 5), (.box (.tmp 2)), none, true⟩, ⟨(some 6), (.mv (.val (.bool false))), none, true⟩]) (.seq (.reg (some []) [⟨(some 7), (.mv (.tmp 0)), none, true⟩, ⟨(some 8), (.load 2 true (.tmp 5)), none, false⟩, ⟨(some 9), (.call 68 [(.tmp 7), (.tmp 8)] false), none, false⟩, ⟨(some 10), (.load 2 true (.tmp 4)), none, false⟩, ⟨(some 11), (.call 65 [(.tmp 9), (.tmp 10)] false), none, true⟩, ⟨(some 6), (.mv (.tmp 11)), none, true⟩]) .ret))
def R67 : List LRes := [(.tmp 6)]
theorem low67 : Try.f67.body.bind (lowerCode Try.prog 12) = some L67 := by kernel_rfl
theorem res67 : lowerRes Try.prog Try.f67.results.toList = some R67 := by kernel_rfl
set_option maxRecDepth 100000 in
def L68 : LC := (.seq (.reg none [⟨(some 3), (.box (.tmp 1)), none, true⟩, ⟨(some 4), (.mv (.val .nilsl)), none, true⟩]) (.seq (.reg (some []) [⟨(some 5), (.mv (.tmp 0)), none, true⟩, ⟨(some 6), (.nilchk (.tmp 5)), none, false⟩, ⟨(some 7), (.addr 1 (.tmp 6)), none, false⟩, ⟨(some 8), (.load 1 false (.tmp 7)), none, false⟩, ⟨(some 9), (.mv (.tmp 0)), none, true⟩, ⟨(some 10), (.nilchk (.tmp 9)), none, false⟩, ⟨(some 11), (.addr 0 (.tmp 10)), none, false⟩, ⟨(some 12), (.load 1 false (.tmp 11)), none, false⟩, ⟨(some 13), (.load 2 true (.tmp 3)), none, false⟩, ⟨(some 14), (.call 30 [(.tmp 12), (.tmp 13)] false), none, false⟩, ⟨(some 15), (.iaddrS 1 (.tmp 8) (.tmp 14)), none, true⟩, ⟨(some 16), (.load 1 false (.tmp 15)), none, true⟩, ⟨(some 4), (.mv (.tmp 16)), none, true⟩]) .ret))
def R68 : List LRes := [(.tmp 4)]
theorem low68 : Try.f68.body.bind (lowerCode Try.prog 17) = some L68 := by kernel_rfl
theorem res68 : lowerRes Try.prog Try.f68.results.toList = some R68 := by kernel_rfl
set_option maxRecDepth 100000 in
def L70 : LC := (.seq (.reg none [⟨(some 2), (.box (.tmp 0)), none, true⟩, ⟨(some 3), (.box (.tmp 1)), none, true⟩, ⟨(some 4), (.mv (.val (.int .i64 0))), none, true⟩]) (.seq (.reg none [⟨(some 5), (.mv (.val (.clo 86 []))), none, true⟩]) (.seq (.seq (.reg none [⟨(some 7), (.mv (.tmp 5)), none, true⟩, ⟨(some 8), (.addr 0 (.tmp 2)), none, true⟩, ⟨(some 9), (.load 1 false (.tmp 8)), none, true⟩, ⟨(some 10), (.addr 0 (.tmp 3)), none, true⟩, ⟨(some 11), (.load 1 false (.tmp 10)), none, true⟩, ⟨(some 12), (.callv (.tmp 7) [(.tmp 9), (.tmp 11)]), none, true⟩, ⟨(some 6), (.mv (.tmp 12)), none, true⟩]) (.seq (.reg none [⟨(some 13), (.mv (.tmp 6)), none, true⟩, ⟨(some 14), (.bin .neq (.tmp 13) (.val (.int .i64 0))), none, true⟩]) (.cond (.tmp 14) (.seq (.reg none [⟨(some 15), (.mv (.tmp 6)), none, true⟩, ⟨(some 4), (.mv (.tmp 15)), none, true⟩]) .ret) .skip))) (.seq (.reg none [⟨(some 16), (.mv (.tmp 5)), none, true⟩, ⟨(some 17), (.addr 1 (.tmp 2)), none, true⟩, ⟨(some 18), (.load 1 false (.tmp 17)), none, true⟩, ⟨(some 19), (.addr 1 (.tmp 3)), none, true⟩, ⟨(some 20), (.load 1 false (.tmp 19)), none, true⟩, ⟨(some 21), (.callv (.tmp 16) [(.tmp 18), (.tmp 20)]), none, true⟩, ⟨(some 4), (.mv (.tmp 21)), none, true⟩]) .ret))))
def R70 : List LRes := [(.tmp 4)]
theorem low70 : Try.f70.body.bind (lowerCode Try.prog 22) = some L70 := by kernel_rfl
theorem res70 : lowerRes Try.prog Try.f70.results.toList = some R70 := by kernel_rfl
set_option maxRecDepth 100000 in
def L72 : LC := (.seq (.reg none [⟨(some 4), (.mv (.val .nilsl)), none, true⟩]) (.seq (.reg none [⟨(some 10), (.mv (.tmp 0)), none, true⟩, ⟨(some 11), (.call 47 [(.tmp 10)] false), none, true⟩, ⟨(some 5), (.alloc [.nilp]), none, true⟩, ⟨none, (.store 1 (.tmp 5) (.tmp 11)), none, true⟩]) (.seq (.reg none [⟨(some 12), (.mv (.tmp 0)), none, true⟩, ⟨(some 13), (.mv (.tmp 1)), none, true⟩, ⟨(some 14), (.call 74 [(.tmp 12), (.tmp 13)] false), none, true⟩, ⟨(some 6), (.mv (.tmp 14)), none, true⟩]) (.seq (.reg none [⟨(some 7), (.mv (.val .nilsl)), none, true⟩]) (.seq (.seq (.reg none [⟨(some 15), (.mv (.tmp 6)), none, true⟩, ⟨(some 16), (.len false (.tmp 15)), none, true⟩, ⟨(some 17), (.mv (.val (.int .i64 0))), none, true⟩]) (.block 0 (.loop (.seq (.reg none [⟨(some 18), (.bin .lss (.tmp 17) (.tmp 16)), none, true⟩]) (.seq (.cond (.tmp 18) .skip (.exit 0)) (.seq (.block 1 (.seq (.reg none [⟨(some 19), (.iaddrS 5 (.tmp 15) (.tmp 17)), none, true⟩, ⟨(some 20), (.load 5 true (.tmp 19)), none, true⟩, ⟨(some 9), (.alloc [(.int .i64 0), (.int .i64 0), (.int .i64 0), (.str ⟨#[]⟩), .nilsl]), none, true⟩, ⟨none, (.store 5 (.tmp 9) (.tmp 20)), none, true⟩]) (.seq (.reg none [⟨(some 21), (.mv (.tmp 6)), none, true⟩, ⟨(some 22), (.clo 87 [(.tmp 5), (.tmp 9)]), none, true⟩, ⟨(some 23), (.call 79 [(.tmp 21), (.tmp 22)] false), none, true⟩, ⟨(some 24), (.not (.tmp 23)), none, true⟩]) (.cond (.tmp 24) (.reg none [⟨(some 25), (.mv (.tmp 7)), none, true⟩, ⟨(some 26), (.addr 0 (.tmp 9)), none, true⟩, ⟨(some 27), (.load 2 true (.tmp 26)), none, true⟩, ⟨(some 28), (.mks 2 [(.int .i64 0), (.int .i64 0)] 1 [(0, (.tmp 27))]), none, true⟩, ⟨(some 29), (.append 36 2 16 (.tmp 25) (.tmp 28)), none, true⟩, ⟨(some 7), (.mv (.tmp 29)), none, true⟩]) .skip)))) (.reg none [⟨(some 30), (.bin .add (.tmp 17) (.val (.int .i64 1))), none, true⟩, ⟨(some 17), (.mv (.tmp 30)), none, true⟩]))))))) (.seq (.reg none [⟨(some 31), (.mv (.tmp 7)), none, true⟩, ⟨(some 32), (.call 69 [(.tmp 31), (.val (.clo 70 []))] true), none, true⟩]) (.seq (.reg none [⟨(some 33), (.mv (.tmp 7)), none, true⟩, ⟨(some 4), (.mv (.tmp 33)), none, true⟩]) .ret)))))))
def R72 : List LRes := [(.tmp 4)]
theorem low72 : Try.f72.body.bind (lowerCode Try.prog 34) = some L72 := by kernel_rfl
theorem res72 : lowerRes Try.prog Try.f72.results.toList = some R72 := by kernel_rfl
set_option maxRecDepth 100000 in
def L73 : LC := (.seq (.reg none [⟨(some 2), (.mv (.val .nilsl)), none, true⟩]) (.seq (.seq (.reg none [⟨(some 3), (.mv (.tmp 0)), none, true⟩, ⟨(some 4), (.isnil false (.tmp 3)), none, true⟩]) (.cond (.tmp 4) (.seq (.reg none [⟨(some 2), (.mv (.val .nilsl)), none, true⟩]) .ret) .skip)) (.seq (.reg none [⟨(some 5), (.mk0 36 2), none, true⟩, ⟨(some 6), (.mv (.tmp 0)), none, true⟩, ⟨(some 7), (.append 36 2 16 (.tmp 5) (.tmp 6)), none, true⟩, ⟨(some 2), (.mv (.tmp 7)), none, true⟩]) .ret)))
def R73 : List LRes := [(.tmp 2)]
theorem low73 : Try.f73.body.bind (lowerCode Try.prog 8) = some L73 := by kernel_rfl
theorem res73 : lowerRes Try.prog Try.f73.results.toList = some R73 := by kernel_rfl
set_option maxRecDepth 100000 in
def L74 : LC := (.seq (.reg none [⟨(some 4), (.mv (.val .nilsl)), none, true⟩]) (.seq (.reg none [⟨(some 5), (.mv (.val .nilsl)), none, true⟩]) (.seq (.seq (.reg none [⟨(some 8), (.mv (.tmp 0)), none, true⟩, ⟨(some 9), (.len false (.tmp 8)), none, true⟩, ⟨(some 10), (.mv (.val (.int .i64 0))), none, true⟩]) (.block 0 (.loop (.seq (.reg none [⟨(some 11), (.bin .lss (.tmp 10) (.tmp 9)), none, true⟩]) (.seq (.cond (.tmp 11) .skip (.exit 0)) (.seq (.block 1 (.seq (.reg none [⟨(some 12), (.iaddrS 5 (.tmp 8) (.tmp 10)), none, true⟩, ⟨(some 13), (.load 5 true (.tmp 12)), none, true⟩, ⟨(some 7), (.alloc [(.int .i64 0), (.int .i64 0), (.int .i64 0), (.str ⟨#[]⟩), .nilsl]), none, true⟩, ⟨none, (.store 5 (.tmp 7) (.tmp 13)), none, true⟩]) (.seq (.reg none [⟨(some 14), (.addr 2 (.tmp 7)), none, true⟩, ⟨(some 15), (.load 1 false (.tmp 14)), none, true⟩, ⟨(some 16), (.mv (.tmp 1)), none, true⟩, ⟨(some 17), (.bin .and (.tmp 15) (.tmp 16)), none, true⟩, ⟨(some 18), (.bin .neq (.tmp 17) (.val (.int .i64 0))), none, true⟩]) (.cond (.tmp 18) (.reg none [⟨(some 19), (.mv (.tmp 5)), none, true⟩, ⟨(some 20), (.load 5 true (.tmp 7)), none, true⟩, ⟨(some 21), (.mks 5 [(.int .i64 0), (.int .i64 0), (.int .i64 0), (.str ⟨#[]⟩), .nilsl] 1 [(0, (.tmp 20))]), none, true⟩, ⟨(some 22), (.append 38 5 64 (.tmp 19) (.tmp 21)), none, true⟩, ⟨(some 5), (.mv (.tmp 22)), none, true⟩]) .skip)))) (.reg none [⟨(some 23), (.bin .add (.tmp 10) (.val (.int .i64 1))), none, true⟩, ⟨(some 10), (.mv (.tmp 23)), none, true⟩]))))))) (.seq (.reg none [⟨(some 24), (.mv (.tmp 5)), none, true⟩, ⟨(some 4), (.mv (.tmp 24)), none, true⟩]) .ret))))
def R74 : List LRes := [(.tmp 4)]
theorem low74 : Try.f74.body.bind (lowerCode Try.prog 25) = some L74 := by kernel_rfl
theorem res74 : lowerRes Try.prog Try.f74.results.toList = some R74 := by kernel_rfl
set_option maxRecDepth 100000 in
def L75 : LC := (.seq (.reg none [⟨(some 2), (.box (.tmp 0)), none, true⟩, ⟨(some 3), (.box (.tmp 1)), none, true⟩, ⟨(some 4), (.mv (.val (.bool false))), none, true⟩]) (.seq (.reg none [⟨(some 5), (.load 2 true (.tmp 2)), none, true⟩, ⟨(some 6), (.load 2 true (.tmp 3)), none, true⟩, ⟨(some 7), (.call 70 [(.tmp 5), (.tmp 6)] false), none, true⟩, ⟨(some 8), (.bin .lss (.tmp 7) (.val (.int .i64 0))), none, true⟩, ⟨(some 4), (.mv (.tmp 8)), none, true⟩]) .ret))
def R75 : List LRes := [(.tmp 4)]
theorem low75 : Try.f75.body.bind (lowerCode Try.prog 9) = some L75 := by kernel_rfl
theorem res75 : lowerRes Try.prog Try.f75.results.toList = some R75 := by kernel_rfl
set_option maxRecDepth 100000 in
def L76 : LC := (.seq (.reg none [⟨(some 1), (.box (.tmp 0)), none, true⟩, ⟨(some 2), (.mv (.val (.bool false))), none, true⟩]) (.seq (.reg none [⟨(some 3), (.addr 0 (.tmp 1)), none, true⟩, ⟨(some 4), (.load 1 false (.tmp 3)), none, true⟩, ⟨(some 5), (.call 33 [(.tmp 4), (.val (.int .i64 0)), (.val (.int .i64 1))] false), none, true⟩, ⟨(some 6), (.mv (.tmp 5)), none, true⟩, ⟨(some 7), (.addr 1 (.tmp 1)), (some (6, true)), true⟩, ⟨(some 8), (.load 1 false (.tmp 7)), (some (6, true)), true⟩, ⟨(some 9), (.call 33 [(.tmp 8), (.val (.int .i64 1)), (.val (.int .i64 20))] false), (some (6, true)), true⟩, ⟨(some 10), (.pick (.tmp 6) (.tmp 9) (.val (.bool false))), none, true⟩, ⟨(some 2), (.mv (.tmp 10)), none, true⟩]) .ret))
def R76 : List LRes := [(.tmp 2)]
theorem low76 : Try.f76.body.bind (lowerCode Try.prog 11) = some L76 := by kernel_rfl
theorem res76 : lowerRes Try.prog Try.f76.results.toList = some R76 := by kernel_rfl
set_option maxRecDepth 100000 in
def L77 : LC := (.seq (.reg none [⟨(some 2), (.box (.tmp 0)), none, true⟩, ⟨(some 3), (.box (.tmp 1)), none, true⟩, ⟨(some 4), (.mv (.val (.bool false))), none, true⟩]) (.seq (.reg none [⟨(some 5), (.addr 0 (.tmp 2)), none, true⟩, ⟨(some 6), (.load 1 false (.tmp 5)), none, true⟩, ⟨(some 7), (.addr 0 (.tmp 3)), none, true⟩, ⟨(some 8), (.load 1 false (.tmp 7)), none, true⟩, ⟨(some 9), (.bin .lss (.tmp 6) (.tmp 8)), none, true⟩, ⟨(some 10), (.mv (.tmp 9)), none, true⟩, ⟨(some 11), (.addr 0 (.tmp 2)), (some (10, false)), true⟩, ⟨(some 12), (.load 1 false (.tmp 11)), (some (10, false)), true⟩, ⟨(some 13), (.addr 0 (.tmp 3)), (some (10, false)), true⟩, ⟨(some 14), (.load 1 false (.tmp 13)), (some (10, false)), true⟩, ⟨(some 15), (.bin .eql (.tmp 12) (.tmp 14)), (some (10, false)), true⟩, ⟨(some 16), (.mv (.tmp 15)), (some (10, false)), true⟩, ⟨(some 17), (.addr 1 (.tmp 2)), (some (16, true)), true⟩, ⟨(some 18), (.load 1 false (.tmp 17)), (some (16, true)), true⟩, ⟨(some 19), (.addr 1 (.tmp 3)), (some (16, true)), true⟩, ⟨(some 20), (.load 1 false (.tmp 19)), (some (16, true)), true⟩, ⟨(some 21), (.bin .lss (.tmp 18) (.tmp 20)), (some (16, true)), true⟩, ⟨(some 22), (.pick (.tmp 16) (.tmp 21) (.val (.bool false))), (some (10, false)), true⟩, ⟨(some 23), (.pick (.tmp 10) (.val (.bool true)) (.tmp 22)), none, true⟩, ⟨(some 4), (.mv (.tmp 23)), none, true⟩]) .ret))
def R77 : List LRes := [(.tmp 4)]
theorem low77 : Try.f77.body.bind (lowerCode Try.prog 24) = some L77 := by kernel_rfl
theorem res77 : lowerRes Try.prog Try.f77.results.toList = some R77 := by kernel_rfl
set_option maxRecDepth 100000 in
def L78 : LC := (.seq (.reg none [⟨(some 6), (.mv (.val (.bool false))), none, true⟩]) (.seq (.reg none [⟨(some 7), (.mv (.tmp 0)), none, true⟩, ⟨(some 8), (.mv (.tmp 1)), none, true⟩, ⟨(some 9), (.bin .geq (.tmp 7) (.tmp 8)), none, true⟩, ⟨(some 10), (.mv (.tmp 9)), none, true⟩, ⟨(some 11), (.mv (.tmp 0)), (some (10, true)), true⟩, ⟨(some 12), (.mv (.tmp 2)), (some (10, true)), true⟩, ⟨(some 13), (.bin .leq (.tmp 11) (.tmp 12)), (some (10, true)), true⟩, ⟨(some 14), (.pick (.tmp 10) (.tmp 13) (.val (.bool false))), none, true⟩, ⟨(some 6), (.mv (.tmp 14)), none, true⟩]) .ret))
def R78 : List LRes := [(.tmp 6)]
theorem low78 : Try.f78.body.bind (lowerCode Try.prog 15) = some L78 := by kernel_rfl
theorem res78 : lowerRes Try.prog Try.f78.results.toList = some R78 := by kernel_rfl
set_option maxRecDepth 100000 in
def L79 : LC := (.seq (.reg none [⟨(some 4), (.mv (.val (.bool false))), none, true⟩]) (.seq (.reg none [⟨(some 5), (.mv (.tmp 0)), none, true⟩, ⟨(some 6), (.mv (.tmp 1)), none, true⟩, ⟨(some 7), (.call 55 [(.tmp 5), (.tmp 6)] false), none, true⟩, ⟨(some 8), (.bin .geq (.tmp 7) (.val (.int .i64 0))), none, true⟩, ⟨(some 4), (.mv (.tmp 8)), none, true⟩]) .ret))
def R79 : List LRes := [(.tmp 4)]
theorem low79 : Try.f79.body.bind (lowerCode Try.prog 9) = some L79 := by kernel_rfl
theorem res79 : lowerRes Try.prog Try.f79.results.toList = some R79 := by kernel_rfl
set_option maxRecDepth 100000 in
def L80 : LC := (.seq (.reg none [⟨(some 3), (.box (.tmp 0)), none, true⟩, ⟨(some 4), (.mv (.val (.bool false))), none, true⟩]) (.seq (.reg (some []) [⟨(some 5), (.load 1 false (.tmp 1)), none, false⟩, ⟨(some 6), (.nilchk (.tmp 5)), none, false⟩, ⟨(some 7), (.addr 3 (.tmp 6)), none, false⟩, ⟨(some 8), (.load 1 false (.tmp 7)), none, false⟩, ⟨(some 9), (.addr 0 (.tmp 3)), none, false⟩, ⟨(some 10), (.load 2 true (.tmp 9)), none, false⟩, ⟨(some 11), (.load 2 true (.tmp 2)), none, false⟩, ⟨(some 12), (.call 67 [(.tmp 8), (.tmp 10), (.tmp 11)] false), none, true⟩, ⟨(some 13), (.mv (.tmp 12)), none, true⟩, ⟨(some 14), (.load 1 false (.tmp 1)), (some (13, true)), false⟩, ⟨(some 15), (.nilchk (.tmp 14)), (some (13, true)), false⟩, ⟨(some 16), (.addr 0 (.tmp 15)), (some (13, true)), false⟩, ⟨(some 17), (.addr 1 (.tmp 16)), (some (13, true)), false⟩, ⟨(some 18), (.load 1 false (.tmp 17)), (some (13, true)), false⟩, ⟨(some 19), (.addr 0 (.tmp 3)), (some (13, true)), false⟩, ⟨(some 20), (.load 2 true (.tmp 19)), (some (13, true)), false⟩, ⟨(some 21), (.call 65 [(.tmp 18), (.tmp 20)] false), (some (13, true)), true⟩, ⟨(some 22), (.not (.tmp 21)), (some (13, true)), true⟩, ⟨(some 23), (.pick (.tmp 13) (.tmp 22) (.val (.bool false))), none, true⟩, ⟨(some 4), (.mv (.tmp 23)), none, true⟩]) .ret))
def R80 : List LRes := [(.tmp 4)]
theorem low80 : Try.f80.body.bind (lowerCode Try.prog 24) = some L80 := by kernel_rfl
theorem res80 : lowerRes Try.prog Try.f80.results.toList = some R80 := by kernel_rfl
set_option maxRecDepth 100000 in
def L81 : LC := (.seq (.reg none [⟨(some 1), (.box (.tmp 0)), none, true⟩, ⟨(some 2), (.mv (.val (.bool false))), none, true⟩]) (.seq (.reg none [⟨(some 3), (.addr 0 (.tmp 1)), none, true⟩, ⟨(some 4), (.load 1 false (.tmp 3)), none, true⟩, ⟨(some 5), (.call 78 [(.tmp 4), (.val (.int .i64 0)), (.val (.int .i64 1))] false), none, true⟩, ⟨(some 6), (.mv (.tmp 5)), none, true⟩, ⟨(some 7), (.addr 1 (.tmp 1)), (some (6, true)), true⟩, ⟨(some 8), (.load 1 false (.tmp 7)), (some (6, true)), true⟩, ⟨(some 9), (.call 78 [(.tmp 8), (.val (.int .i64 1)), (.val (.int .i64 20))] false), (some (6, true)), true⟩, ⟨(some 10), (.pick (.tmp 6) (.tmp 9) (.val (.bool false))), none, true⟩, ⟨(some 2), (.mv (.tmp 10)), none, true⟩]) .ret))
def R81 : List LRes := [(.tmp 2)]
theorem low81 : Try.f81.body.bind (lowerCode Try.prog 11) = some L81 := by kernel_rfl
theorem res81 : lowerRes Try.prog Try.f81.results.toList = some R81 := by kernel_rfl
set_option maxRecDepth 100000 in
def L82 : LC := (.seq (.reg none [⟨(some 2), (.box (.tmp 0)), none, true⟩, ⟨(some 3), (.mv (.val (.bool false))), none, true⟩]) (.seq (.reg none [⟨(some 4), (.load 1 false (.tmp 1)), none, true⟩, ⟨(some 5), (.load 2 true (.tmp 2)), none, true⟩, ⟨(some 6), (.call 30 [(.tmp 4), (.tmp 5)] false), none, true⟩, ⟨(some 7), (.bin .lss (.tmp 6) (.val (.int .i64 0))), none, true⟩, ⟨(some 3), (.mv (.tmp 7)), none, true⟩]) .ret))
def R82 : List LRes := [(.tmp 3)]
theorem low82 : Try.f82.body.bind (lowerCode Try.prog 8) = some L82 := by kernel_rfl
theorem res82 : lowerRes Try.prog Try.f82.results.toList = some R82 := by kernel_rfl
set_option maxRecDepth 100000 in
def L83 : LC := (.seq (.reg none [⟨(some 3), (.box (.tmp 1)), none, true⟩, ⟨(some 4), (.mv (.val (.int .i64 0))), none, true⟩]) (.seq (.seq (.reg none [⟨(some 6), (.mv (.tmp 0)), none, true⟩, ⟨(some 7), (.len false (.tmp 6)), none, true⟩, ⟨(some 8), (.mv (.val (.int .i64 0))), none, true⟩]) (.block 0 (.loop (.seq (.reg none [⟨(some 9), (.bin .lss (.tmp 8) (.tmp 7)), none, true⟩]) (.seq (.cond (.tmp 9) .skip (.exit 0)) (.seq (.block 1 (.seq (.reg none [⟨(some 10), (.mv (.tmp 8)), none, true⟩, ⟨(some 5), (.mv (.tmp 10)), none, true⟩]) (.seq (.reg (some []) [⟨(some 11), (.load 2 true (.tmp 3)), none, false⟩, ⟨(some 12), (.mv (.tmp 0)), none, true⟩, ⟨(some 13), (.mv (.tmp 5)), none, true⟩, ⟨(some 14), (.iaddrS 2 (.tmp 12) (.tmp 13)), none, false⟩, ⟨(some 15), (.load 2 true (.tmp 14)), none, false⟩, ⟨(some 16), (.eqag false [.i, .i] (.tmp 11) (.tmp 15)), none, true⟩]) (.cond (.tmp 16) (.seq (.reg none [⟨(some 17), (.mv (.tmp 5)), none, true⟩, ⟨(some 4), (.mv (.tmp 17)), none, true⟩]) .ret) .skip)))) (.reg none [⟨(some 18), (.bin .add (.tmp 8) (.val (.int .i64 1))), none, true⟩, ⟨(some 8), (.mv (.tmp 18)), none, true⟩]))))))) (.seq (.reg none [⟨(some 4), (.mv (.val (.int .i64 (-1)))), none, true⟩]) .ret)))
def R83 : List LRes := [(.tmp 4)]
theorem low83 : Try.f83.body.bind (lowerCode Try.prog 19) = some L83 := by kernel_rfl
theorem res83 : lowerRes Try.prog Try.f83.results.toList = some R83 := by kernel_rfl
set_option maxRecDepth 100000 in
def L86 : LC := (.seq (.reg none [⟨(some 4), (.mv (.val (.int .i64 0))), none, true⟩]) (.seq (.block 0 (.seq (.reg none [⟨(some 6), (.mv (.tmp 0)), none, true⟩, ⟨(some 7), (.mv (.tmp 1)), none, true⟩, ⟨(some 8), (.bin .lss (.tmp 6) (.tmp 7)), none, true⟩, ⟨(some 5), (.mv (.tmp 8)), none, true⟩]) (.cond (.tmp 5) (.seq (.reg none [⟨(some 4), (.mv (.val (.int .i64 (-1)))), none, true⟩]) .ret) (.seq (.reg none [⟨(some 10), (.mv (.tmp 0)), none, true⟩, ⟨(some 11), (.mv (.tmp 1)), none, true⟩, ⟨(some 12), (.bin .gtr (.tmp 10) (.tmp 11)), none, true⟩, ⟨(some 9), (.mv (.tmp 12)), none, true⟩]) (.cond (.tmp 9) (.seq (.reg none [⟨(some 4), (.mv (.val (.int .i64 1))), none, true⟩]) .ret) .skip))))) (.seq (.reg none [⟨(some 4), (.mv (.val (.int .i64 0))), none, true⟩]) .ret)))
def R86 : List LRes := [(.tmp 4)]
theorem low86 : Try.f86.body.bind (lowerCode Try.prog 13) = some L86 := by kernel_rfl
theorem res86 : lowerRes Try.prog Try.f86.results.toList = some R86 := by kernel_rfl
set_option maxRecDepth 100000 in
def L87 : LC := (.seq (.reg none [⟨(some 3), (.box (.tmp 0)), none, true⟩, ⟨(some 4), (.mv (.val (.bool false))), none, true⟩]) (.seq (.reg none [⟨(some 5), (.load 1 false (.tmp 1)), none, true⟩, ⟨(some 6), (.addr 0 (.tmp 2)), none, true⟩, ⟨(some 7), (.load 2 true (.tmp 6)), none, true⟩, ⟨(some 8), (.addr 0 (.tmp 3)), none, true⟩, ⟨(some 9), (.load 2 true (.tmp 8)), none, true⟩, ⟨(some 10), (.call 67 [(.tmp 5), (.tmp 7), (.tmp 9)] false), none, true⟩, ⟨(some 4), (.mv (.tmp 10)), none, true⟩]) .ret))
def R87 : List LRes := [(.tmp 4)]
theorem low87 : Try.f87.body.bind (lowerCode Try.prog 11) = some L87 := by kernel_rfl
theorem res87 : lowerRes Try.prog Try.f87.results.toList = some R87 := by kernel_rfl
end Go.Proofs.Ytgchinklnmldiaa
namespace Go.Proofs.Ytgchinklnmldiaa
set_option linter.unusedSimpArgs false
set_option linter.unusedVariables false
open Go.RowKit
theorem within_meets (n a b : Int) : Meets Try.prog 78 [.int .i64 n, .int .i64 a, .int .i64 b] [] (.bool (wthn n a b)) [] := by
  refine Meets.of_walk Try.func78 Try.ntmps78 low78 res78 (by simp) fun x hx => ?_
  by_cases h : a ≤ n
  all_goals
    simp only [go_sem, Nat.reduceLT, Nat.reduceAdd, Nat.reduceEqDiff, Nat.reduceLeDiff, Nat.reduceSub, Nat.reduceMul, Int.reduceEq, eq_self, reduceIte, L78, R78, h, decide_true, decide_false]
    refine ret_pure hx ?_
    simp only [go_sem, Nat.reduceLT, Nat.reduceAdd, Nat.reduceEqDiff, Nat.reduceLeDiff, Nat.reduceSub, Nat.reduceMul, Int.reduceEq, eq_self, reduceIte, L78, R78, wthn, h, decide_false, true_and, false_and]
theorem id_meets (r n : Int) : Meets Try.prog 81 [.agg [.int .i64 r, .int .i64 n]] [] (.bool (okId ⟨r, n⟩)) [] := by
  refine Meets.of_walk Try.func81 Try.ntmps81 low81 res81 (by simp) fun x hx => ?_
  simp only [go_sem, Nat.reduceLT, Nat.reduceAdd, Nat.reduceEqDiff, Nat.reduceLeDiff, Nat.reduceSub, Nat.reduceMul, Int.reduceEq, eq_self, reduceIte, L81, R81]
  refine ops_call (.pure (within_meets _ _ _)) ?_
  cases h : wthn r 0 1
  · simp only [go_sem, Nat.reduceLT, Nat.reduceAdd, Nat.reduceEqDiff, Nat.reduceLeDiff, Nat.reduceSub, Nat.reduceMul, Int.reduceEq, eq_self, reduceIte]
    refine ret_pure hx ?_
    simp [go_sem, Nat.reduceLT, Nat.reduceAdd, Nat.reduceEqDiff, Nat.reduceLeDiff, Nat.reduceSub, Nat.reduceMul, Int.reduceEq, eq_self, reduceIte, L81, R81, okId, h]
  · simp only [go_sem, Nat.reduceLT, Nat.reduceAdd, Nat.reduceEqDiff, Nat.reduceLeDiff, Nat.reduceSub, Nat.reduceMul, Int.reduceEq, eq_self, reduceIte]
    refine ops_call (.pure (within_meets _ _ _)) ?_
    simp only [go_sem, Nat.reduceLT, Nat.reduceAdd, Nat.reduceEqDiff, Nat.reduceLeDiff, Nat.reduceSub, Nat.reduceMul, Int.reduceEq, eq_self, reduceIte]
    refine ret_pure hx ?_
    simp [go_sem, Nat.reduceLT, Nat.reduceAdd, Nat.reduceEqDiff, Nat.reduceLeDiff, Nat.reduceSub, Nat.reduceMul, Int.reduceEq, eq_self, reduceIte, L81, R81, okId, h]
end Go.Proofs.Ytgchinklnmldiaa
namespace Go.Proofs.Ytgchinklnmldiaa
set_option linter.unusedSimpArgs false
set_option linter.unusedVariables false
open Go.RowKit
theorem cmp_meets (a b : Int) : Meets Try.prog 86 [.int .i64 a, .int .i64 b] [] (.int .i64 (cmpI a b)) [] := by
  refine Meets.of_walk Try.func86 Try.ntmps86 low86 res86 (by simp) fun x hx => ?_
  by_cases h : a < b
  · simp only [go_sem, Nat.reduceLT, Nat.reduceAdd, Nat.reduceEqDiff, Nat.reduceLeDiff, Nat.reduceSub, Nat.reduceMul, Int.reduceEq, eq_self, reduceIte, L86, R86, h, decide_true]
    refine ret_pure hx ?_
    simp [go_sem, Nat.reduceLT, Nat.reduceAdd, Nat.reduceEqDiff, Nat.reduceLeDiff, Nat.reduceSub, Nat.reduceMul, Int.reduceEq, eq_self, reduceIte, L86, R86, cmpI, h]
  · by_cases h2 : b < a
    · simp only [go_sem, Nat.reduceLT, Nat.reduceAdd, Nat.reduceEqDiff, Nat.reduceLeDiff, Nat.reduceSub, Nat.reduceMul, Int.reduceEq, eq_self, reduceIte, L86, R86, h, h2, decide_true, decide_false]
      refine ret_pure hx ?_
      simp [go_sem, Nat.reduceLT, Nat.reduceAdd, Nat.reduceEqDiff, Nat.reduceLeDiff, Nat.reduceSub, Nat.reduceMul, Int.reduceEq, eq_self, reduceIte, L86, R86, cmpI, h, h2]
    · simp only [go_sem, Nat.reduceLT, Nat.reduceAdd, Nat.reduceEqDiff, Nat.reduceLeDiff, Nat.reduceSub, Nat.reduceMul, Int.reduceEq, eq_self, reduceIte, L86, R86, h, h2, decide_false]
      refine ret_pure hx ?_
      simp [go_sem, Nat.reduceLT, Nat.reduceAdd, Nat.reduceEqDiff, Nat.reduceLeDiff, Nat.reduceSub, Nat.reduceMul, Int.reduceEq, eq_self, reduceIte, L86, R86, cmpI, h, h2]
def cId (x : Id) : List PV := [.int .i64 x.r, .int .i64 x.n]
theorem order_meets (a b : Id) : Meets Try.prog 70 [.agg (cId a), .agg (cId b)] [] (.int .i64 (ordI a b)) [] := by
  refine Meets.of_walk Try.func70 Try.ntmps70 low70 res70 (by simp) fun x hx => ?_
  simp only [go_sem, Nat.reduceLT, Nat.reduceAdd, Nat.reduceEqDiff, Nat.reduceLeDiff, Nat.reduceSub, Nat.reduceMul, Int.reduceEq, eq_self, reduceIte, L70, R70, cId]
  refine ops_callv rfl (by kernel_rfl) (.pure (cmp_meets _ _)) ?_
  by_cases h : cmpI a.r b.r = 0
  · simp only [go_sem, Nat.reduceLT, Nat.reduceAdd, Nat.reduceEqDiff, Nat.reduceLeDiff, Nat.reduceSub, Nat.reduceMul, Int.reduceEq, eq_self, reduceIte, h, decide_true, decide_false]
    refine ops_callv rfl (by kernel_rfl) (.pure (cmp_meets _ _)) ?_
    simp only [go_sem, Nat.reduceLT, Nat.reduceAdd, Nat.reduceEqDiff, Nat.reduceLeDiff, Nat.reduceSub, Nat.reduceMul, Int.reduceEq, eq_self, reduceIte]
    refine ret_pure hx ?_
    simp [go_sem, Nat.reduceLT, Nat.reduceAdd, Nat.reduceEqDiff, Nat.reduceLeDiff, Nat.reduceSub, Nat.reduceMul, Int.reduceEq, eq_self, reduceIte, L70, R70, ordI, h]
  · simp only [go_sem, Nat.reduceLT, Nat.reduceAdd, Nat.reduceEqDiff, Nat.reduceLeDiff, Nat.reduceSub, Nat.reduceMul, Int.reduceEq, eq_self, reduceIte, h, decide_true, decide_false]
    refine ret_pure hx ?_
    simp [go_sem, Nat.reduceLT, Nat.reduceAdd, Nat.reduceEqDiff, Nat.reduceLeDiff, Nat.reduceSub, Nat.reduceMul, Int.reduceEq, eq_self, reduceIte, L70, R70, ordI, h]
theorem less_meets (a b : Id) : Meets Try.prog 75 [.agg (cId a), .agg (cId b)] [] (.bool (lessB a b)) [] := by
  refine Meets.of_walk Try.func75 Try.ntmps75 low75 res75 (by simp) fun x hx => ?_
  simp only [go_sem, Nat.reduceLT, Nat.reduceAdd, Nat.reduceEqDiff, Nat.reduceLeDiff, Nat.reduceSub, Nat.reduceMul, Int.reduceEq, eq_self, reduceIte, L75, R75, cId]
  refine ops_call (.pure (order_meets a b)) ?_
  have h : lessB a b = decide (ordI a b < 0) := by rw [Bool.eq_iff_iff, decide_eq_true_iff, ordI_lt]
  simp only [go_sem, Nat.reduceLT, Nat.reduceAdd, Nat.reduceEqDiff, Nat.reduceLeDiff, Nat.reduceSub, Nat.reduceMul, Int.reduceEq, eq_self, reduceIte]
  refine ret_pure hx ?_
  simp only [go_sem, Nat.reduceLT, Nat.reduceAdd, Nat.reduceEqDiff, Nat.reduceLeDiff, Nat.reduceSub, Nat.reduceMul, Int.reduceEq, eq_self, reduceIte, L75, R75, h]
theorem colors_meets (n : Int) : Meets Try.prog 60 [.int .i64 n] [] (.bool (wthn n 1 7)) [] := by
  refine Meets.of_walk Try.func60 Try.ntmps60 low60 res60 (by simp) fun x hx => ?_
  simp only [go_sem, Nat.reduceLT, Nat.reduceAdd, Nat.reduceEqDiff, Nat.reduceLeDiff, Nat.reduceSub, Nat.reduceMul, Int.reduceEq, eq_self, reduceIte, L60, R60]
  refine ops_call (.pure (within_meets _ _ _)) ?_
  simp only [go_sem, Nat.reduceLT, Nat.reduceAdd, Nat.reduceEqDiff, Nat.reduceLeDiff, Nat.reduceSub, Nat.reduceMul, Int.reduceEq, eq_self, reduceIte]
  refine ret_pure hx ?_
  simp only [go_sem, Nat.reduceLT, Nat.reduceAdd, Nat.reduceEqDiff, Nat.reduceLeDiff, Nat.reduceSub, Nat.reduceMul, Int.reduceEq, eq_self, reduceIte, L60, R60]
end Go.Proofs.Ytgchinklnmldiaa
namespace Go.Proofs.Ytgchinklnmldiaa
set_option linter.unusedSimpArgs false
set_option linter.unusedVariables false
open Go.RowKit
def cE (e : Entry) : List PV := [.int .i64 e.id.r, .int .i64 e.id.n, .int .i64 e.c, .str e.t, .list (e.ls.map cId)]
theorem check_meets (e : Entry) : Meets Try.prog 63 [.agg (cE e)] [] (.int .i64 (checkEntry e)) [] := by
  refine Meets.of_walk Try.func63 Try.ntmps63 low63 res63 (by simp) fun x hx => ?_
  simp only [go_sem, Nat.reduceLT, Nat.reduceAdd, Nat.reduceEqDiff, Nat.reduceLeDiff, Nat.reduceSub, Nat.reduceMul, Int.reduceEq, eq_self, reduceIte, L63, R63, cE]
  refine ops_call (.pure (id_meets _ _)) ?_
  cases h1 : okId e.id
  · simp only [go_sem, Nat.reduceLT, Nat.reduceAdd, Nat.reduceEqDiff, Nat.reduceLeDiff, Nat.reduceSub, Nat.reduceMul, Int.reduceEq, eq_self, reduceIte]
    refine ret_pure hx ?_
    simp [go_sem, Nat.reduceLT, Nat.reduceAdd, Nat.reduceEqDiff, Nat.reduceLeDiff, Nat.reduceSub, Nat.reduceMul, Int.reduceEq, eq_self, reduceIte, L63, R63, checkEntry, h1]
  simp only [go_sem, Nat.reduceLT, Nat.reduceAdd, Nat.reduceEqDiff, Nat.reduceLeDiff, Nat.reduceSub, Nat.reduceMul, Int.reduceEq, eq_self, reduceIte]
  refine ops_call (.pure (colors_meets _)) ?_
  cases h2 : wthn e.c 1 7
  · simp only [go_sem, Nat.reduceLT, Nat.reduceAdd, Nat.reduceEqDiff, Nat.reduceLeDiff, Nat.reduceSub, Nat.reduceMul, Int.reduceEq, eq_self, reduceIte]
    refine ret_pure hx ?_
    simp [go_sem, Nat.reduceLT, Nat.reduceAdd, Nat.reduceEqDiff, Nat.reduceLeDiff, Nat.reduceSub, Nat.reduceMul, Int.reduceEq, eq_self, reduceIte, L63, R63, checkEntry, h1, h2]
  by_cases h3 : 12 < e.t.size
  · have h3' : decide ((12 : Int) < e.t.size) = true := by simp; omega
    simp only [go_sem, Nat.reduceLT, Nat.reduceAdd, Nat.reduceEqDiff, Nat.reduceLeDiff, Nat.reduceSub, Nat.reduceMul, Int.reduceEq, eq_self, reduceIte, h3']
    refine ret_pure hx ?_
    simp [go_sem, Nat.reduceLT, Nat.reduceAdd, Nat.reduceEqDiff, Nat.reduceLeDiff, Nat.reduceSub, Nat.reduceMul, Int.reduceEq, eq_self, reduceIte, L63, R63, checkEntry, h1, h2, h3]
  have h3' : decide ((12 : Int) < e.t.size) = false := by simp; omega
  by_cases h4 : 6 < e.ls.length
  · have h4' : decide ((6 : Int) < (e.ls.length : Nat)) = true := by simp; omega
    simp only [go_sem, Nat.reduceLT, Nat.reduceAdd, Nat.reduceEqDiff, Nat.reduceLeDiff, Nat.reduceSub, Nat.reduceMul, Int.reduceEq, eq_self, reduceIte, h3', h4']
    refine ret_pure hx ?_
    simp [go_sem, Nat.reduceLT, Nat.reduceAdd, Nat.reduceEqDiff, Nat.reduceLeDiff, Nat.reduceSub, Nat.reduceMul, Int.reduceEq, eq_self, reduceIte, L63, R63, checkEntry, h1, h2, h3, h4]
  have h4' : decide ((6 : Int) < (e.ls.length : Nat)) = false := by simp; omega
  have hc : checkEntry e = firstNZ (linkErr e.id e.ls) e.ls.length := by simp [checkEntry, h1, h2, h3, h4]
  simp only [go_sem, Nat.reduceLT, Nat.reduceAdd, Nat.reduceEqDiff, Nat.reduceLeDiff, Nat.reduceSub, Nat.reduceMul, Int.reduceEq, eq_self, reduceIte, h3', h4', hc]
  refine loop_inv [1, 28, 29, 30] 1 (fun n st => ∃ k : Nat, k + n = e.ls.length ∧ firstNZ (linkErr e.id e.ls) k = 0 ∧
    st = ⟨mkE .top [(1, .ptr 0 0), (28, .list (e.ls.map cId)), (29, .int .i64 e.ls.length), (30, .int .i64 k)], [.box (cE e)]⟩) e.ls.length (by simp [hx]) (by simp) ?_ ?_
  · refine ⟨0, by omega, rfl, ?_⟩
    simp [trim_mk, go_sem, Nat.reduceLT, Nat.reduceAdd, Nat.reduceEqDiff, Nat.reduceLeDiff, Nat.reduceSub, Nat.reduceMul, Int.reduceEq, eq_self, reduceIte, subHeap, renObj, pos, List.range_succ, cE]
  · rintro n st ⟨k, hk, hz, rfl⟩
    simp only [go_sem, Nat.reduceLT, Nat.reduceAdd, Nat.reduceEqDiff, Nat.reduceLeDiff, Nat.reduceSub, Nat.reduceMul, Int.reduceEq, eq_self, reduceIte, cE]
    by_cases hlt : k < e.ls.length
    · have hg : e.ls[k]? = some (nth e.ls k) := nth_get? _ _ hlt
      simp only [go_sem, Nat.reduceLT, Nat.reduceAdd, Nat.reduceEqDiff, Nat.reduceLeDiff, Nat.reduceSub, Nat.reduceMul, Int.reduceEq, eq_self, reduceIte, hlt, hg, cId]
      refine ops_call (.pure (id_meets _ _)) ?_
      cases h5 : okId (nth e.ls k)
      · have h5' : okId ⟨(nth e.ls k).r, (nth e.ls k).n⟩ = false := h5
        simp only [go_sem, Nat.reduceLT, Nat.reduceAdd, Nat.reduceEqDiff, Nat.reduceLeDiff, Nat.reduceSub, Nat.reduceMul, Int.reduceEq, eq_self, reduceIte, h5']
        refine ret_pure hx ?_
        have : linkErr e.id e.ls k = 3 := by simp [linkErr, h5]
        simp only [go_sem, Nat.reduceLT, Nat.reduceAdd, Nat.reduceEqDiff, Nat.reduceLeDiff, Nat.reduceSub, Nat.reduceMul, Int.reduceEq, eq_self, reduceIte, hc, firstNZ_hit hz (by rw [this]; decide) hlt, this]
      have h5' : okId ⟨(nth e.ls k).r, (nth e.ls k).n⟩ = true := h5
      have w1 : IntKind.i64.wrap ((k : Int) + 1) = ((k + 1 : Nat) : Int) := by rw [IntWalk.i64_in _ (by omega)]; omega
      have okw : (k = 0 ∨ ordI (nth e.ls (k - 1)) (nth e.ls k) < 0) → lessB (nth e.ls (k - 1)) (nth e.ls k) = true ∨ k = 0 := fun h => by
        rcases h with h | h
        · exact .inr h
        · exact .inl (ordI_lt.1 h)
      by_cases hb : 0 < k ∧ 0 ≤ ordI (nth e.ls (k - 1)) (nth e.ls k)
      · obtain ⟨h0, h6⟩ := hb
        have hg1 : e.ls[k - 1]? = some (nth e.ls (k - 1)) := nth_get? _ _ (by omega)
        have e1 : IntKind.i64.wrap ((k : Int) - 1) = ((k - 1 : Nat) : Int) := by rw [IntWalk.i64_in _ (by omega)]; omega
        have d0 : decide ((0 : Int) < (k : Int)) = true := by simp; omega
        have hlt1 : k - 1 < e.ls.length := by omega
        simp only [go_sem, Nat.reduceLT, Nat.reduceAdd, Nat.reduceEqDiff, Nat.reduceLeDiff, Nat.reduceSub, Nat.reduceMul, Int.reduceEq, eq_self, reduceIte, h5', d0, hlt1, hg1, e1, cId]
        refine ops_call (.pure (order_meets (nth e.ls (k - 1)) (nth e.ls k))) ?_
        simp only [go_sem, Nat.reduceLT, Nat.reduceAdd, Nat.reduceEqDiff, Nat.reduceLeDiff, Nat.reduceSub, Nat.reduceMul, Int.reduceEq, eq_self, reduceIte, h6]
        refine ret_pure hx ?_
        have hl : lessB (nth e.ls (k - 1)) (nth e.ls k) = false := by rw [← Bool.not_eq_true, ← ordI_lt]; omega
        have : linkErr e.id e.ls k = 4 := by simp [linkErr, h5, h0, hl]
        simp only [go_sem, Nat.reduceLT, Nat.reduceAdd, Nat.reduceEqDiff, Nat.reduceLeDiff, Nat.reduceSub, Nat.reduceMul, Int.reduceEq, eq_self, reduceIte, hc, firstNZ_hit hz (by rw [this]; decide) hlt, this]
      · have hok : k = 0 ∨ lessB (nth e.ls (k - 1)) (nth e.ls k) = true := by
          rcases Nat.eq_zero_or_pos k with h | h
          · exact .inl h
          · exact .inr (ordI_lt.1 (by omega))
        have fin : ∀ H : List AObj, 1 ≤ H.length → H.take 1 = [.box (cE e)] → True := fun _ _ _ => trivial
        by_cases h0 : 0 < k
        · have hg1 : e.ls[k - 1]? = some (nth e.ls (k - 1)) := nth_get? _ _ (by omega)
          have e1 : IntKind.i64.wrap ((k : Int) - 1) = ((k - 1 : Nat) : Int) := by rw [IntWalk.i64_in _ (by omega)]; omega
          have d0 : decide ((0 : Int) < (k : Int)) = true := by simp; omega
          have hlt1 : k - 1 < e.ls.length := by omega
          have h6 : ¬ 0 ≤ ordI (nth e.ls (k - 1)) (nth e.ls k) := fun h => hb ⟨h0, h⟩
          have hl : lessB (nth e.ls (k - 1)) (nth e.ls k) = true := ordI_lt.1 (by omega)
          simp only [go_sem, Nat.reduceLT, Nat.reduceAdd, Nat.reduceEqDiff, Nat.reduceLeDiff, Nat.reduceSub, Nat.reduceMul, Int.reduceEq, eq_self, reduceIte, h5', d0, hlt1, hg1, e1, cId]
          refine ops_call (.pure (order_meets (nth e.ls (k - 1)) (nth e.ls k))) ?_
          by_cases h7 : (nth e.ls k).r = e.id.r <;> by_cases h8 : e.id.n ≤ (nth e.ls k).n <;> simp only [go_sem, Nat.reduceLT, Nat.reduceAdd, Nat.reduceEqDiff, Nat.reduceLeDiff, Nat.reduceSub, Nat.reduceMul, Int.reduceEq, eq_self, reduceIte, h6, h7, h8]
          · refine ret_pure hx ?_
            have : linkErr e.id e.ls k = 4 := by simp [linkErr, h5, hl, h7, h8]
            simp only [go_sem, Nat.reduceLT, Nat.reduceAdd, Nat.reduceEqDiff, Nat.reduceLeDiff, Nat.reduceSub, Nat.reduceMul, Int.reduceEq, eq_self, reduceIte, hc, firstNZ_hit hz (by rw [this]; decide) hlt, this]
          all_goals
            have : linkErr e.id e.ls k = 0 := by simp [linkErr, h5, hl, h7, h8]
            refine ⟨by simp, n - 1, by omega, k + 1, by omega, firstNZ_succ hz this, ?_⟩
            simp [trim_mk, go_sem, Nat.reduceLT, Nat.reduceAdd, Nat.reduceEqDiff, Nat.reduceLeDiff, Nat.reduceSub, Nat.reduceMul, Int.reduceEq, eq_self, reduceIte, subHeap, renObj, pos, List.range_succ, cE, w1]
        · have d0 : decide ((0 : Int) < (k : Int)) = false := by simp; omega
          by_cases h7 : (nth e.ls k).r = e.id.r <;> by_cases h8 : e.id.n ≤ (nth e.ls k).n <;> simp only [go_sem, Nat.reduceLT, Nat.reduceAdd, Nat.reduceEqDiff, Nat.reduceLeDiff, Nat.reduceSub, Nat.reduceMul, Int.reduceEq, eq_self, reduceIte, h5', d0, h7, h8]
          · refine ret_pure hx ?_
            have : linkErr e.id e.ls k = 4 := by simp [linkErr, h5, h0, h7, h8]
            simp only [go_sem, Nat.reduceLT, Nat.reduceAdd, Nat.reduceEqDiff, Nat.reduceLeDiff, Nat.reduceSub, Nat.reduceMul, Int.reduceEq, eq_self, reduceIte, hc, firstNZ_hit hz (by rw [this]; decide) hlt, this]
          all_goals
            have : linkErr e.id e.ls k = 0 := by simp [linkErr, h5, h0, h7, h8]
            refine ⟨by simp, n - 1, by omega, k + 1, by omega, firstNZ_succ hz this, ?_⟩
            simp [trim_mk, go_sem, Nat.reduceLT, Nat.reduceAdd, Nat.reduceEqDiff, Nat.reduceLeDiff, Nat.reduceSub, Nat.reduceMul, Int.reduceEq, eq_self, reduceIte, subHeap, renObj, pos, List.range_succ, cE, w1]
    · simp only [go_sem, Nat.reduceLT, Nat.reduceAdd, Nat.reduceEqDiff, Nat.reduceLeDiff, Nat.reduceSub, Nat.reduceMul, Int.reduceEq, eq_self, reduceIte, hlt]
      refine ret_pure hx ?_
      simp only [go_sem, Nat.reduceLT, Nat.reduceAdd, Nat.reduceEqDiff, Nat.reduceLeDiff, Nat.reduceSub, Nat.reduceMul, Int.reduceEq, eq_self, reduceIte]
      first | rw [hc, show e.ls.length = k by omega, hz] | rw [show e.ls.length = k by omega, hz]
end Go.Proofs.Ytgchinklnmldiaa
/- What the law texts say of entries, in words of their own: contracts. -/
namespace Go.Proofs.Ytgchinklnmldiaa
set_option linter.unusedSimpArgs false
set_option linter.unusedVariables false
open Go.RowKit
theorem between_meets (n a b : Int) : Meets Try.prog 33 [.int .i64 n, .int .i64 a, .int .i64 b] [] (.bool (wthn n a b)) [] := by
  refine Meets.of_walk Try.func33 Try.ntmps33 low33 res33 (by simp) fun x hx => ?_
  by_cases h : a ≤ n
  all_goals
    simp only [go_sem, Nat.reduceLT, Nat.reduceAdd, Nat.reduceEqDiff, Nat.reduceLeDiff, Nat.reduceSub, Nat.reduceMul, Int.reduceEq, eq_self, reduceIte, L33, R33, h, decide_true, decide_false]
    refine ret_pure hx ?_
    simp only [go_sem, Nat.reduceLT, Nat.reduceAdd, Nat.reduceEqDiff, Nat.reduceLeDiff, Nat.reduceSub, Nat.reduceMul, Int.reduceEq, eq_self, reduceIte, L33, R33, wthn, h, decide_false, true_and, false_and]
theorem isId_meets (a : Id) : Meets Try.prog 76 [.agg (cId a)] [] (.bool (okId a)) [] := by
  refine Meets.of_walk Try.func76 Try.ntmps76 low76 res76 (by simp) fun x hx => ?_
  simp only [go_sem, Nat.reduceLT, Nat.reduceAdd, Nat.reduceEqDiff, Nat.reduceLeDiff, Nat.reduceSub, Nat.reduceMul, Int.reduceEq, eq_self, reduceIte, L76, R76, cId]
  refine ops_call (.pure (between_meets _ _ _)) ?_
  cases h : wthn a.r 0 1
  · simp only [go_sem, Nat.reduceLT, Nat.reduceAdd, Nat.reduceEqDiff, Nat.reduceLeDiff, Nat.reduceSub, Nat.reduceMul, Int.reduceEq, eq_self, reduceIte]
    refine ret_pure hx ?_
    simp [go_sem, Nat.reduceLT, Nat.reduceAdd, Nat.reduceEqDiff, Nat.reduceLeDiff, Nat.reduceSub, Nat.reduceMul, Int.reduceEq, eq_self, reduceIte, L76, R76, okId, h]
  · simp only [go_sem, Nat.reduceLT, Nat.reduceAdd, Nat.reduceEqDiff, Nat.reduceLeDiff, Nat.reduceSub, Nat.reduceMul, Int.reduceEq, eq_self, reduceIte]
    refine ops_call (.pure (between_meets _ _ _)) ?_
    simp only [go_sem, Nat.reduceLT, Nat.reduceAdd, Nat.reduceEqDiff, Nat.reduceLeDiff, Nat.reduceSub, Nat.reduceMul, Int.reduceEq, eq_self, reduceIte]
    refine ret_pure hx ?_
    simp [go_sem, Nat.reduceLT, Nat.reduceAdd, Nat.reduceEqDiff, Nat.reduceLeDiff, Nat.reduceSub, Nat.reduceMul, Int.reduceEq, eq_self, reduceIte, L76, R76, okId, h]
theorem lawId_meets (r n : Int) : Meets Try.prog 41 [.int .i64 r, .int .i64 n] [] (.agg [.int .i64 r, .int .i64 n]) [] := by
  refine Meets.of_walk Try.func41 Try.ntmps41 low41 res41 (by simp) fun x hx => ?_
  simp only [go_sem, Nat.reduceLT, Nat.reduceAdd, Nat.reduceEqDiff, Nat.reduceLeDiff, Nat.reduceSub, Nat.reduceMul, Int.reduceEq, eq_self, reduceIte, L41, R41]
  refine ret_pure hx ?_
  simp [go_sem, Nat.reduceLT, Nat.reduceAdd, Nat.reduceEqDiff, Nat.reduceLeDiff, Nat.reduceSub, Nat.reduceMul, Int.reduceEq, eq_self, reduceIte, L41, R41]
theorem isAhead_meets (a b : Id) : Meets Try.prog 77 [.agg (cId a), .agg (cId b)] [] (.bool (lessB a b)) [] := by
  refine Meets.of_walk Try.func77 Try.ntmps77 low77 res77 (by simp) fun x hx => ?_
  by_cases h1 : a.r < b.r
  · simp only [go_sem, Nat.reduceLT, Nat.reduceAdd, Nat.reduceEqDiff, Nat.reduceLeDiff, Nat.reduceSub, Nat.reduceMul, Int.reduceEq, eq_self, reduceIte, L77, R77, cId, h1, decide_true]
    refine ret_pure hx ?_
    simp [go_sem, Nat.reduceLT, Nat.reduceAdd, Nat.reduceEqDiff, Nat.reduceLeDiff, Nat.reduceSub, Nat.reduceMul, Int.reduceEq, eq_self, reduceIte, L77, R77, lessB, h1]
  · by_cases h2 : a.r = b.r
    · simp only [go_sem, Nat.reduceLT, Nat.reduceAdd, Nat.reduceEqDiff, Nat.reduceLeDiff, Nat.reduceSub, Nat.reduceMul, Int.reduceEq, eq_self, reduceIte, L77, R77, cId, h1, h2, decide_true, decide_false, Int.lt_irrefl]
      refine ret_pure hx ?_
      simp [go_sem, Nat.reduceLT, Nat.reduceAdd, Nat.reduceEqDiff, Nat.reduceLeDiff, Nat.reduceSub, Nat.reduceMul, Int.reduceEq, eq_self, reduceIte, L77, R77, lessB, h2]
    · simp only [go_sem, Nat.reduceLT, Nat.reduceAdd, Nat.reduceEqDiff, Nat.reduceLeDiff, Nat.reduceSub, Nat.reduceMul, Int.reduceEq, eq_self, reduceIte, L77, R77, cId, h1, h2, decide_false]
      refine ret_pure hx ?_
      simp [go_sem, Nat.reduceLT, Nat.reduceAdd, Nat.reduceEqDiff, Nat.reduceLeDiff, Nat.reduceSub, Nat.reduceMul, Int.reduceEq, eq_self, reduceIte, L77, R77, lessB, h1, h2]
end Go.Proofs.Ytgchinklnmldiaa
/- Ids and entries that are the same. -/
namespace Go.Proofs.Ytgchinklnmldiaa
set_option linter.unusedSimpArgs false
set_option linter.unusedVariables false
open Go.RowKit
theorem ids_ext' {x y : List Id} (hl : x.length = y.length) (h : ∀ k, k < x.length → nth x k = nth y k) : x = y := by
  refine List.ext_getElem hl fun k h1 h2 => ?_
  have := h k h1
  rwa [nth_eq _ _ h1, nth_eq _ _ h2] at this
theorem i64_up {k : Nat} (h : k < 9223372036854775807) : IntKind.i64.wrap ((k : Int) + 1) = ((k + 1 : Nat) : Int) := by
  rw [IntWalk.i64_in _ (by omega)]; omega
theorem beqId (a b : Id) : (decide (a.r = b.r) && decide (a.n = b.n)) = decide (a = b) := by
  rw [Bool.eq_iff_iff]; simp [Id.eq_iff]
theorem sameIds_meets (a b : List Id) (hm : a.length ≤ 9223372036854775807) : Meets Try.prog 17 [.list (a.map cId), .list (b.map cId)] [] (.bool (decide (a = b))) [] := by
  refine Meets.of_walk Try.func17 Try.ntmps17 low17 res17 (by simp) fun x hx => ?_
  by_cases hl : a.length = b.length
  · have hl' : ((a.length : Int) = (b.length : Int)) = True := by simp [hl]
    simp only [go_sem, Nat.reduceLT, Nat.reduceAdd, Nat.reduceEqDiff, Nat.reduceLeDiff, Nat.reduceSub, Nat.reduceMul, Int.reduceEq, eq_self, reduceIte, L17, R17, hl']
    refine loop_inv [0, 1, 5] 0 (fun n st => ∃ k : Nat, k + n = a.length ∧ (∀ j, j < k → nth a j = nth b j) ∧
      st = ⟨mkE .top [(0, .list (a.map cId)), (1, .list (b.map cId)), (5, .int .i64 k)], []⟩) a.length (by simp [hx]) (by simp) ?_ ?_
    · refine ⟨0, by omega, fun j h => by omega, ?_⟩
      simp [trim_mk, go_sem, Nat.reduceLT, Nat.reduceAdd, Nat.reduceEqDiff, Nat.reduceLeDiff, Nat.reduceSub, Nat.reduceMul, Int.reduceEq, eq_self, reduceIte, subHeap, renObj, pos, List.range_succ]
    · rintro n st ⟨k, hk, hz, rfl⟩
      simp only [go_sem, Nat.reduceLT, Nat.reduceAdd, Nat.reduceEqDiff, Nat.reduceLeDiff, Nat.reduceSub, Nat.reduceMul, Int.reduceEq, eq_self, reduceIte]
      by_cases hlt : k < a.length
      · have hg : a[k]? = some (nth a k) := nth_get? _ _ hlt
        have hlt2 : k < b.length := by omega
        have hg2 : b[k]? = some (nth b k) := nth_get? _ _ hlt2
        have hw := i64_up (k := k) (by omega)
        by_cases he : nth a k = nth b k
        · simp only [go_sem, Nat.reduceLT, Nat.reduceAdd, Nat.reduceEqDiff, Nat.reduceLeDiff, Nat.reduceSub, Nat.reduceMul, Int.reduceEq, eq_self, reduceIte, hlt, hlt2, hg, hg2, cId, he, hw]
          refine ⟨by simp, n - 1, by omega, k + 1, by omega, fun j hj => ?_, ?_⟩
          · by_cases e : j = k
            · rw [e]; exact he
            · exact hz j (by omega)
          · simp [trim_mk, go_sem, Nat.reduceLT, Nat.reduceAdd, Nat.reduceEqDiff, Nat.reduceLeDiff, Nat.reduceSub, Nat.reduceMul, Int.reduceEq, eq_self, reduceIte, subHeap, renObj, pos]
        · simp only [go_sem, Nat.reduceLT, Nat.reduceAdd, Nat.reduceEqDiff, Nat.reduceLeDiff, Nat.reduceSub, Nat.reduceMul, Int.reduceEq, eq_self, reduceIte, hlt, hlt2, hg, hg2, cId, beqId, he]
          refine ret_pure hx ?_
          have : ¬ a = b := fun e => he (by rw [e])
          simp [go_sem, Nat.reduceLT, Nat.reduceAdd, Nat.reduceEqDiff, Nat.reduceLeDiff, Nat.reduceSub, Nat.reduceMul, Int.reduceEq, eq_self, reduceIte, L17, R17, this]
      · simp only [go_sem, Nat.reduceLT, Nat.reduceAdd, Nat.reduceEqDiff, Nat.reduceLeDiff, Nat.reduceSub, Nat.reduceMul, Int.reduceEq, eq_self, reduceIte, hlt, decide_false]
        refine ret_pure hx ?_
        have : a = b := ids_ext' hl fun j hj => hz j (by omega)
        simp [go_sem, Nat.reduceLT, Nat.reduceAdd, Nat.reduceEqDiff, Nat.reduceLeDiff, Nat.reduceSub, Nat.reduceMul, Int.reduceEq, eq_self, reduceIte, L17, R17, this]
  · have hl' : ((a.length : Int) = (b.length : Int)) = False := by simp; omega
    simp only [go_sem, Nat.reduceLT, Nat.reduceAdd, Nat.reduceEqDiff, Nat.reduceLeDiff, Nat.reduceSub, Nat.reduceMul, Int.reduceEq, eq_self, reduceIte, L17, R17, hl']
    refine ret_pure hx ?_
    have : ¬ a = b := fun e => hl (by rw [e])
    simp [go_sem, Nat.reduceLT, Nat.reduceAdd, Nat.reduceEqDiff, Nat.reduceLeDiff, Nat.reduceSub, Nat.reduceMul, Int.reduceEq, eq_self, reduceIte, L17, R17, this]
end Go.Proofs.Ytgchinklnmldiaa
/- Slices asked by a function: contracts of slices.IndexFunc, ContainsFunc, Index, Contains at entries, ids. -/
namespace Go.Proofs.Ytgchinklnmldiaa
set_option linter.unusedSimpArgs false
set_option linter.unusedVariables false
open Go.RowKit
/-- the first place at which p holds, or -1 -/
def idxF {α : Type} (p : α → Bool) : List α → Nat → Int
  | [], _ => -1
  | x :: l, k => if p x = true then (k : Int) else idxF p l (k + 1)
theorem idxF_drop {α : Type} [Inhabited α] (p : α → Bool) (l : List α) (k : Nat) (h : k < l.length) : idxF p (l.drop k) k = if p (nth l k) = true then (k : Int) else idxF p (l.drop (k + 1)) (k + 1) := by
  rw [List.drop_eq_getElem_cons h, idxF, nth_eq _ _ h]
instance : Inhabited Entry := ⟨⟨default, 0, ⟨#[]⟩, []⟩⟩

theorem idxF_ge {α : Type} (p : α → Bool) : ∀ (l : List α) (k : Nat), idxF p l k = -1 ∧ l.any p = false ∨ (k : Int) ≤ idxF p l k ∧ l.any p = true
  | [], k => .inl ⟨rfl, rfl⟩
  | x :: l, k => by
    simp only [idxF, List.any_cons]
    cases hx : p x
    · rcases idxF_ge p l (k + 1) with ⟨h1, h2⟩ | ⟨h1, h2⟩
      · exact .inl ⟨by simpa using h1, by simp [h2]⟩
      · exact .inr ⟨by simp; omega, by simp [h2]⟩
    · exact .inr ⟨by simp, by simp⟩
theorem idxF_any {α : Type} (p : α → Bool) (l : List α) : decide (0 ≤ idxF p l 0) = l.any p := by
  rcases idxF_ge p l 0 with ⟨h1, h2⟩ | ⟨h1, h2⟩
  · rw [h1, h2]; rfl
  · rw [h2]; simp; omega
theorem indexE_meets (l : List Entry) (g : Nat) (caps : List PV) (Hs : List AObj) (p : Entry → Bool) (hg : hasBody Try.prog g = true) (hl : l.length ≤ 9223372036854775806) (hc : ClosedH Hs caps)
    (hp : ∀ e ∈ l, Meets Try.prog g (.agg (cE e) :: caps) Hs (.bool (p e)) Hs) :
    Meets Try.prog 55 [.list (l.map cE), .clo g caps] Hs (.int .i64 (idxF p l 0)) Hs := by
  refine Meets.of_walk Try.func55 Try.ntmps55 low55 res55 (by simp) fun x hx => ?_
  simp only [go_sem, Nat.reduceLT, Nat.reduceAdd, Nat.reduceEqDiff, Nat.reduceLeDiff, Nat.reduceSub, Nat.reduceMul, Int.reduceEq, eq_self, reduceIte, L55, R55]
  refine loop_keep [0, 1, 7, 8] (fun n st => ∃ k : Nat, k + n = l.length ∧ idxF p (l.drop k) k = idxF p l 0 ∧
    st = ⟨mkE .top [(0, .list (l.map cE)), (1, .clo g caps), (7, .int .i64 l.length), (8, .int .i64 k)], Hs⟩) l.length ?_ ?_
  · refine ⟨0, by omega, by simp, ?_⟩
    simp [keep_mk, go_sem, Nat.reduceLT, Nat.reduceAdd, Nat.reduceEqDiff, Nat.reduceLeDiff, Nat.reduceSub, Nat.reduceMul, Int.reduceEq, eq_self, reduceIte]
  · rintro n st ⟨k, hk, hi, rfl⟩
    by_cases hlt : k < l.length
    · have hgt : l[k]? = some (nth l k) := nth_get? _ _ hlt
      have wk := i64_up (k := k) (by omega)
      rw [idxF_drop p l k hlt] at hi
      simp only [go_sem, Nat.reduceLT, Nat.reduceAdd, Nat.reduceEqDiff, Nat.reduceLeDiff, Nat.reduceSub, Nat.reduceMul, Int.reduceEq, eq_self, reduceIte, hlt, hgt, cE, cId]
      refine ops_callv rfl hg (.whole (hp (nth l k) (by rw [nth_eq _ _ hlt]; exact List.getElem_mem hlt)) rfl ?_ hc.sub hc.back) ?_
      · simp only [go_sem, Nat.reduceLT, Nat.reduceAdd, Nat.reduceEqDiff, Nat.reduceLeDiff, Nat.reduceSub, Nat.reduceMul, Int.reduceEq, eq_self, reduceIte, cE, cId]
        rw [hc.caps]
      cases hpk : p (nth l k)
      · rw [if_neg (by simp [hpk])] at hi
        simp only [go_sem, Nat.reduceLT, Nat.reduceAdd, Nat.reduceEqDiff, Nat.reduceLeDiff, Nat.reduceSub, Nat.reduceMul, Int.reduceEq, eq_self, reduceIte, wk]
        exact ⟨n - 1, by omega, k + 1, by omega, hi, by simp [keep_mk, go_sem, Nat.reduceLT, Nat.reduceAdd, Nat.reduceEqDiff, Nat.reduceLeDiff, Nat.reduceSub, Nat.reduceMul, Int.reduceEq, eq_self, reduceIte]⟩
      · rw [if_pos hpk] at hi
        simp only [go_sem, Nat.reduceLT, Nat.reduceAdd, Nat.reduceEqDiff, Nat.reduceLeDiff, Nat.reduceSub, Nat.reduceMul, Int.reduceEq, eq_self, reduceIte]
        refine ret_scal hx rfl hc.kept ?_
        simp [go_sem, Nat.reduceLT, Nat.reduceAdd, Nat.reduceEqDiff, Nat.reduceLeDiff, Nat.reduceSub, Nat.reduceMul, Int.reduceEq, eq_self, reduceIte, L55, R55, hi]
    · have : l.drop k = [] := List.drop_eq_nil_of_le (by omega)
      rw [this] at hi
      simp only [go_sem, Nat.reduceLT, Nat.reduceAdd, Nat.reduceEqDiff, Nat.reduceLeDiff, Nat.reduceSub, Nat.reduceMul, Int.reduceEq, eq_self, reduceIte, hlt]
      refine ret_scal hx rfl hc.kept ?_
      simp [go_sem, Nat.reduceLT, Nat.reduceAdd, Nat.reduceEqDiff, Nat.reduceLeDiff, Nat.reduceSub, Nat.reduceMul, Int.reduceEq, eq_self, reduceIte, L55, R55, ← hi, idxF]
theorem indexI_meets (l : List Id) (g : Nat) (caps : List PV) (Hs : List AObj) (p : Id → Bool) (hg : hasBody Try.prog g = true) (hl : l.length ≤ 9223372036854775806) (hc : ClosedH Hs caps)
    (hp : ∀ e ∈ l, Meets Try.prog g (.agg (cId e) :: caps) Hs (.bool (p e)) Hs) :
    Meets Try.prog 51 [.list (l.map cId), .clo g caps] Hs (.int .i64 (idxF p l 0)) Hs := by
  refine Meets.of_walk Try.func51 Try.ntmps51 low51 res51 (by simp) fun x hx => ?_
  simp only [go_sem, Nat.reduceLT, Nat.reduceAdd, Nat.reduceEqDiff, Nat.reduceLeDiff, Nat.reduceSub, Nat.reduceMul, Int.reduceEq, eq_self, reduceIte, L51, R51]
  refine loop_keep [0, 1, 7, 8] (fun n st => ∃ k : Nat, k + n = l.length ∧ idxF p (l.drop k) k = idxF p l 0 ∧
    st = ⟨mkE .top [(0, .list (l.map cId)), (1, .clo g caps), (7, .int .i64 l.length), (8, .int .i64 k)], Hs⟩) l.length ?_ ?_
  · refine ⟨0, by omega, by simp, ?_⟩
    simp [keep_mk, go_sem, Nat.reduceLT, Nat.reduceAdd, Nat.reduceEqDiff, Nat.reduceLeDiff, Nat.reduceSub, Nat.reduceMul, Int.reduceEq, eq_self, reduceIte]
  · rintro n st ⟨k, hk, hi, rfl⟩
    by_cases hlt : k < l.length
    · have hgt : l[k]? = some (nth l k) := nth_get? _ _ hlt
      have wk := i64_up (k := k) (by omega)
      rw [idxF_drop p l k hlt] at hi
      simp only [go_sem, Nat.reduceLT, Nat.reduceAdd, Nat.reduceEqDiff, Nat.reduceLeDiff, Nat.reduceSub, Nat.reduceMul, Int.reduceEq, eq_self, reduceIte, hlt, hgt, cId, cId]
      refine ops_callv rfl hg (.whole (hp (nth l k) (by rw [nth_eq _ _ hlt]; exact List.getElem_mem hlt)) rfl ?_ hc.sub hc.back) ?_
      · simp only [go_sem, Nat.reduceLT, Nat.reduceAdd, Nat.reduceEqDiff, Nat.reduceLeDiff, Nat.reduceSub, Nat.reduceMul, Int.reduceEq, eq_self, reduceIte, cId, cId]
        rw [hc.caps]
      cases hpk : p (nth l k)
      · rw [if_neg (by simp [hpk])] at hi
        simp only [go_sem, Nat.reduceLT, Nat.reduceAdd, Nat.reduceEqDiff, Nat.reduceLeDiff, Nat.reduceSub, Nat.reduceMul, Int.reduceEq, eq_self, reduceIte, wk]
        exact ⟨n - 1, by omega, k + 1, by omega, hi, by simp [keep_mk, go_sem, Nat.reduceLT, Nat.reduceAdd, Nat.reduceEqDiff, Nat.reduceLeDiff, Nat.reduceSub, Nat.reduceMul, Int.reduceEq, eq_self, reduceIte]⟩
      · rw [if_pos hpk] at hi
        simp only [go_sem, Nat.reduceLT, Nat.reduceAdd, Nat.reduceEqDiff, Nat.reduceLeDiff, Nat.reduceSub, Nat.reduceMul, Int.reduceEq, eq_self, reduceIte]
        refine ret_scal hx rfl hc.kept ?_
        simp [go_sem, Nat.reduceLT, Nat.reduceAdd, Nat.reduceEqDiff, Nat.reduceLeDiff, Nat.reduceSub, Nat.reduceMul, Int.reduceEq, eq_self, reduceIte, L51, R51, hi]
    · have : l.drop k = [] := List.drop_eq_nil_of_le (by omega)
      rw [this] at hi
      simp only [go_sem, Nat.reduceLT, Nat.reduceAdd, Nat.reduceEqDiff, Nat.reduceLeDiff, Nat.reduceSub, Nat.reduceMul, Int.reduceEq, eq_self, reduceIte, hlt]
      refine ret_scal hx rfl hc.kept ?_
      simp [go_sem, Nat.reduceLT, Nat.reduceAdd, Nat.reduceEqDiff, Nat.reduceLeDiff, Nat.reduceSub, Nat.reduceMul, Int.reduceEq, eq_self, reduceIte, L51, R51, ← hi, idxF]
theorem contFE_meets (l : List Entry) (g : Nat) (caps : List PV) (Hs : List AObj) (p : Entry → Bool) (hg : hasBody Try.prog g = true) (hl : l.length ≤ 9223372036854775806) (hc : ClosedH Hs caps)
    (hp : ∀ e ∈ l, Meets Try.prog g (.agg (cE e) :: caps) Hs (.bool (p e)) Hs) :
    Meets Try.prog 79 [.list (l.map cE), .clo g caps] Hs (.bool (l.any p)) Hs := by
  refine Meets.of_walk Try.func79 Try.ntmps79 low79 res79 (by simp) fun x hx => ?_
  simp only [go_sem, Nat.reduceLT, Nat.reduceAdd, Nat.reduceEqDiff, Nat.reduceLeDiff, Nat.reduceSub, Nat.reduceMul, Int.reduceEq, eq_self, reduceIte, L79, R79]
  refine ops_call (.whole (indexE_meets l g caps Hs p hg hl hc hp) rfl ?_ hc.sub hc.back) ?_
  · simp only [go_sem, Nat.reduceLT, Nat.reduceAdd, Nat.reduceEqDiff, Nat.reduceLeDiff, Nat.reduceSub, Nat.reduceMul, Int.reduceEq, eq_self, reduceIte]
    rw [hc.leaf]
  simp only [go_sem, Nat.reduceLT, Nat.reduceAdd, Nat.reduceEqDiff, Nat.reduceLeDiff, Nat.reduceSub, Nat.reduceMul, Int.reduceEq, eq_self, reduceIte]
  refine ret_scal hx rfl hc.kept ?_
  simp [go_sem, Nat.reduceLT, Nat.reduceAdd, Nat.reduceEqDiff, Nat.reduceLeDiff, Nat.reduceSub, Nat.reduceMul, Int.reduceEq, eq_self, reduceIte, L79, R79, idxF_any]
theorem contFI_meets (l : List Id) (g : Nat) (caps : List PV) (Hs : List AObj) (p : Id → Bool) (hg : hasBody Try.prog g = true) (hl : l.length ≤ 9223372036854775806) (hc : ClosedH Hs caps)
    (hp : ∀ e ∈ l, Meets Try.prog g (.agg (cId e) :: caps) Hs (.bool (p e)) Hs) :
    Meets Try.prog 27 [.list (l.map cId), .clo g caps] Hs (.bool (l.any p)) Hs := by
  refine Meets.of_walk Try.func27 Try.ntmps27 low27 res27 (by simp) fun x hx => ?_
  simp only [go_sem, Nat.reduceLT, Nat.reduceAdd, Nat.reduceEqDiff, Nat.reduceLeDiff, Nat.reduceSub, Nat.reduceMul, Int.reduceEq, eq_self, reduceIte, L27, R27]
  refine ops_call (.whole (indexI_meets l g caps Hs p hg hl hc hp) rfl ?_ hc.sub hc.back) ?_
  · simp only [go_sem, Nat.reduceLT, Nat.reduceAdd, Nat.reduceEqDiff, Nat.reduceLeDiff, Nat.reduceSub, Nat.reduceMul, Int.reduceEq, eq_self, reduceIte]
    rw [hc.leaf]
  simp only [go_sem, Nat.reduceLT, Nat.reduceAdd, Nat.reduceEqDiff, Nat.reduceLeDiff, Nat.reduceSub, Nat.reduceMul, Int.reduceEq, eq_self, reduceIte]
  refine ret_scal hx rfl hc.kept ?_
  simp [go_sem, Nat.reduceLT, Nat.reduceAdd, Nat.reduceEqDiff, Nat.reduceLeDiff, Nat.reduceSub, Nat.reduceMul, Int.reduceEq, eq_self, reduceIte, L27, R27, idxF_any]
end Go.Proofs.Ytgchinklnmldiaa
/- Entries that are the same; what is wrong with an entry, in the law text's words. -/
namespace Go.Proofs.Ytgchinklnmldiaa
set_option linter.unusedSimpArgs false
set_option linter.unusedVariables false
open Go.RowKit
def sameE (a b : Entry) : Bool := decide (a.id = b.id) && decide (a.c = b.c) && decide (a.t = b.t) && decide (a.ls = b.ls)
end Go.Proofs.Ytgchinklnmldiaa
/- What is wrong with an entry, in the law text's words: a contract. -/
namespace Go.Proofs.Ytgchinklnmldiaa
set_option linter.unusedSimpArgs false
set_option linter.unusedVariables false
open Go.RowKit
theorem checkEntry_meets (e : Entry) : Meets Try.prog 57 [.agg (cE e)] [] (.int .i64 (checkEntry e)) [] := by
  refine Meets.len2 0 4 rfl (by simp [cE]; rfl) fun hm => ?_
  have hm' : e.ls.length ≤ 9223372036854775807 := by simp [maxLen] at hm; omega
  refine Meets.of_walk Try.func57 Try.ntmps57 low57 res57 (by simp) fun x hx => ?_
  simp only [go_sem, Nat.reduceLT, Nat.reduceAdd, Nat.reduceEqDiff, Nat.reduceLeDiff, Nat.reduceSub, Nat.reduceMul, Int.reduceEq, eq_self, reduceIte, L57, R57, cE]
  refine ops_call (.pure (isId_meets e.id)) ?_
  cases h1 : okId e.id
  · simp only [go_sem, Nat.reduceLT, Nat.reduceAdd, Nat.reduceEqDiff, Nat.reduceLeDiff, Nat.reduceSub, Nat.reduceMul, Int.reduceEq, eq_self, reduceIte]
    refine ret_pure hx ?_
    simp [go_sem, Nat.reduceLT, Nat.reduceAdd, Nat.reduceEqDiff, Nat.reduceLeDiff, Nat.reduceSub, Nat.reduceMul, Int.reduceEq, eq_self, reduceIte, L57, R57, checkEntry, h1]
  simp only [go_sem, Nat.reduceLT, Nat.reduceAdd, Nat.reduceEqDiff, Nat.reduceLeDiff, Nat.reduceSub, Nat.reduceMul, Int.reduceEq, eq_self, reduceIte]
  refine ops_call (.pure (between_meets _ _ _)) ?_
  cases h2 : wthn e.c 1 7
  · simp only [go_sem, Nat.reduceLT, Nat.reduceAdd, Nat.reduceEqDiff, Nat.reduceLeDiff, Nat.reduceSub, Nat.reduceMul, Int.reduceEq, eq_self, reduceIte]
    refine ret_pure hx ?_
    simp [go_sem, Nat.reduceLT, Nat.reduceAdd, Nat.reduceEqDiff, Nat.reduceLeDiff, Nat.reduceSub, Nat.reduceMul, Int.reduceEq, eq_self, reduceIte, L57, R57, checkEntry, h1, h2]
  by_cases h3 : 12 < e.t.size
  · have h3' : decide ((12 : Int) < e.t.size) = true := by simp; omega
    simp only [go_sem, Nat.reduceLT, Nat.reduceAdd, Nat.reduceEqDiff, Nat.reduceLeDiff, Nat.reduceSub, Nat.reduceMul, Int.reduceEq, eq_self, reduceIte, h3']
    refine ret_pure hx ?_
    simp [go_sem, Nat.reduceLT, Nat.reduceAdd, Nat.reduceEqDiff, Nat.reduceLeDiff, Nat.reduceSub, Nat.reduceMul, Int.reduceEq, eq_self, reduceIte, L57, R57, checkEntry, h1, h2, h3]
  have h3' : decide ((12 : Int) < e.t.size) = false := by simp; omega
  by_cases h4 : 6 < e.ls.length
  · have h4' : decide ((6 : Int) < (e.ls.length : Nat)) = true := by simp; omega
    simp only [go_sem, Nat.reduceLT, Nat.reduceAdd, Nat.reduceEqDiff, Nat.reduceLeDiff, Nat.reduceSub, Nat.reduceMul, Int.reduceEq, eq_self, reduceIte, h3', h4']
    refine ret_pure hx ?_
    simp [go_sem, Nat.reduceLT, Nat.reduceAdd, Nat.reduceEqDiff, Nat.reduceLeDiff, Nat.reduceSub, Nat.reduceMul, Int.reduceEq, eq_self, reduceIte, L57, R57, checkEntry, h1, h2, h3, h4]
  have h4' : decide ((6 : Int) < (e.ls.length : Nat)) = false := by simp; omega
  have hc : checkEntry e = firstNZ (linkErr e.id e.ls) e.ls.length := by simp [checkEntry, h1, h2, h3, h4]
  simp only [go_sem, Nat.reduceLT, Nat.reduceAdd, Nat.reduceEqDiff, Nat.reduceLeDiff, Nat.reduceSub, Nat.reduceMul, Int.reduceEq, eq_self, reduceIte, h3', h4', hc]
  refine loop_inv [1, 3] 1 (fun n st => ∃ k : Nat, k + n = e.ls.length ∧ firstNZ (linkErr e.id e.ls) k = 0 ∧
    st = ⟨mkE .top [(1, .ptr 0 0), (3, .int .i64 k)], [.box (cE e)]⟩) e.ls.length (by simp [hx]) (by simp) ?_ ?_
  · refine ⟨0, by omega, rfl, ?_⟩
    simp [trim_mk, go_sem, Nat.reduceLT, Nat.reduceAdd, Nat.reduceEqDiff, Nat.reduceLeDiff, Nat.reduceSub, Nat.reduceMul, Int.reduceEq, eq_self, reduceIte, subHeap, renObj, pos, List.range_succ, cE]
  · rintro n st ⟨k, hk, hz, rfl⟩
    simp only [go_sem, Nat.reduceLT, Nat.reduceAdd, Nat.reduceEqDiff, Nat.reduceLeDiff, Nat.reduceSub, Nat.reduceMul, Int.reduceEq, eq_self, reduceIte, cE]
    by_cases hlt : k < e.ls.length
    · have hg : e.ls[k]? = some (nth e.ls k) := nth_get? _ _ hlt
      have w1 := i64_up (k := k) (by omega)
      simp only [go_sem, Nat.reduceLT, Nat.reduceAdd, Nat.reduceEqDiff, Nat.reduceLeDiff, Nat.reduceSub, Nat.reduceMul, Int.reduceEq, eq_self, reduceIte, hlt, hg, cId]
      refine ops_call (.pure (isId_meets (nth e.ls k))) ?_
      cases h5 : okId (nth e.ls k)
      · simp only [go_sem, Nat.reduceLT, Nat.reduceAdd, Nat.reduceEqDiff, Nat.reduceLeDiff, Nat.reduceSub, Nat.reduceMul, Int.reduceEq, eq_self, reduceIte]
        refine ret_pure hx ?_
        have : linkErr e.id e.ls k = 3 := by simp [linkErr, h5]
        simp only [go_sem, Nat.reduceLT, Nat.reduceAdd, Nat.reduceEqDiff, Nat.reduceLeDiff, Nat.reduceSub, Nat.reduceMul, Int.reduceEq, eq_self, reduceIte, hc, firstNZ_hit hz (by rw [this]; decide) hlt, this]
      have fin : ∀ r : Int, linkErr e.id e.ls k = r → r ≠ 0 → firstNZ (linkErr e.id e.ls) e.ls.length = r := fun r h1 h2 => by rw [firstNZ_hit hz (by rw [h1]; exact h2) hlt, h1]
      by_cases h0 : 0 < k
      · have hg1 : e.ls[k - 1]? = some (nth e.ls (k - 1)) := nth_get? _ _ (by omega)
        have e1 : IntKind.i64.wrap ((k : Int) - 1) = ((k - 1 : Nat) : Int) := by rw [IntWalk.i64_in _ (by omega)]; omega
        have d0 : decide ((0 : Int) < (k : Int)) = true := by simp; omega
        have hlt1 : k - 1 < e.ls.length := by omega
        simp only [go_sem, Nat.reduceLT, Nat.reduceAdd, Nat.reduceEqDiff, Nat.reduceLeDiff, Nat.reduceSub, Nat.reduceMul, Int.reduceEq, eq_self, reduceIte, d0, hlt, hlt1, hg, hg1, e1, cId]
        refine ops_call (.pure (isAhead_meets (nth e.ls (k - 1)) (nth e.ls k))) ?_
        cases hl : lessB (nth e.ls (k - 1)) (nth e.ls k)
        · simp only [go_sem, Nat.reduceLT, Nat.reduceAdd, Nat.reduceEqDiff, Nat.reduceLeDiff, Nat.reduceSub, Nat.reduceMul, Int.reduceEq, eq_self, reduceIte, hlt, hg, cId]
          refine ret_pure hx ?_
          have : linkErr e.id e.ls k = 4 := by simp [linkErr, h5, h0, hl]
          simp only [go_sem, Nat.reduceLT, Nat.reduceAdd, Nat.reduceEqDiff, Nat.reduceLeDiff, Nat.reduceSub, Nat.reduceMul, Int.reduceEq, eq_self, reduceIte, fin _ this (by decide)]
        · by_cases h7 : (nth e.ls k).r = e.id.r <;> by_cases h8 : e.id.n ≤ (nth e.ls k).n <;> simp only [go_sem, Nat.reduceLT, Nat.reduceAdd, Nat.reduceEqDiff, Nat.reduceLeDiff, Nat.reduceSub, Nat.reduceMul, Int.reduceEq, eq_self, reduceIte, hlt, hg, cId, h7, h8]
          · refine ret_pure hx ?_
            have : linkErr e.id e.ls k = 4 := by simp [linkErr, h5, hl, h7, h8]
            simp only [go_sem, Nat.reduceLT, Nat.reduceAdd, Nat.reduceEqDiff, Nat.reduceLeDiff, Nat.reduceSub, Nat.reduceMul, Int.reduceEq, eq_self, reduceIte, fin _ this (by decide)]
          all_goals
            have : linkErr e.id e.ls k = 0 := by simp [linkErr, h5, hl, h7, h8]
            refine ⟨by simp, n - 1, by omega, k + 1, by omega, firstNZ_succ hz this, ?_⟩
            simp [trim_mk, go_sem, Nat.reduceLT, Nat.reduceAdd, Nat.reduceEqDiff, Nat.reduceLeDiff, Nat.reduceSub, Nat.reduceMul, Int.reduceEq, eq_self, reduceIte, subHeap, renObj, pos, List.range_succ, cE, w1]
      · have d0 : decide ((0 : Int) < (k : Int)) = false := by simp; omega
        by_cases h7 : (nth e.ls k).r = e.id.r <;> by_cases h8 : e.id.n ≤ (nth e.ls k).n <;> simp only [go_sem, Nat.reduceLT, Nat.reduceAdd, Nat.reduceEqDiff, Nat.reduceLeDiff, Nat.reduceSub, Nat.reduceMul, Int.reduceEq, eq_self, reduceIte, d0, hlt, hg, cId, h7, h8]
        · refine ret_pure hx ?_
          have : linkErr e.id e.ls k = 4 := by simp [linkErr, h5, h0, h7, h8]
          simp only [go_sem, Nat.reduceLT, Nat.reduceAdd, Nat.reduceEqDiff, Nat.reduceLeDiff, Nat.reduceSub, Nat.reduceMul, Int.reduceEq, eq_self, reduceIte, fin _ this (by decide)]
        all_goals
          have : linkErr e.id e.ls k = 0 := by simp [linkErr, h5, h0, h7, h8]
          refine ⟨by simp, n - 1, by omega, k + 1, by omega, firstNZ_succ hz this, ?_⟩
          simp [trim_mk, go_sem, Nat.reduceLT, Nat.reduceAdd, Nat.reduceEqDiff, Nat.reduceLeDiff, Nat.reduceSub, Nat.reduceMul, Int.reduceEq, eq_self, reduceIte, subHeap, renObj, pos, List.range_succ, cE, w1]
    · simp only [go_sem, Nat.reduceLT, Nat.reduceAdd, Nat.reduceEqDiff, Nat.reduceLeDiff, Nat.reduceSub, Nat.reduceMul, Int.reduceEq, eq_self, reduceIte, hlt]
      refine ret_pure hx ?_
      simp only [go_sem, Nat.reduceLT, Nat.reduceAdd, Nat.reduceEqDiff, Nat.reduceLeDiff, Nat.reduceSub, Nat.reduceMul, Int.reduceEq, eq_self, reduceIte]
      first | rw [hc, show e.ls.length = k by omega, hz] | rw [show e.ls.length = k by omega, hz]
end Go.Proofs.Ytgchinklnmldiaa
/- Logs: finding, counting, being ready, being right: contracts. -/
namespace Go.Proofs.Ytgchinklnmldiaa
set_option linter.unusedSimpArgs false
set_option linter.unusedVariables false
open Go.RowKit
def findE (l : List Entry) (x : Id) : Int := idxF (fun e => decide (e.id = x)) l 0
theorem cE_row (l : List Entry) : ∀ row ∈ l.map cE, row.length = 5 := by simp [cE]
theorem closed1 (cells : List PV) (h : cells.map (renCell false (pos [0]) (frzAt false [.box cells])) = cells) (h2 : cells.map (renCell false (pos [0]) (frzAt true [.box cells])) = cells) (h3 : cells.map (renCell false (backF 1 [0]) noFz) = cells) :
    ClosedH [.box cells] [.ptr 0 0] := by
  refine ⟨?_, ?_, ?_, ?_, ?_⟩
  · simp [renLeaf, pos, List.range_succ]
  · simp [ren, renCell, renLeaf, pos, List.range_succ]
  · simp only [List.length_cons, List.length_nil, List.range_succ, List.range_zero, List.nil_append, subHeap, List.map_cons, List.map_nil, List.getElem?_cons_zero, Option.getD_some, renObj, h]
  · simp only [List.length_cons, List.length_nil, List.range_succ, List.range_zero, List.nil_append, merge, List.map_cons, List.map_nil, mergeObj, callId, Nat.zero_add, Nat.sub_self, Nat.add_zero]
    simp [pos, renObj, h3]
  · simp only [List.length_cons, List.length_nil, List.range_succ, List.range_zero, List.nil_append, subHeap, List.map_cons, List.map_nil, List.getElem?_cons_zero, Option.getD_some, renObj, h2]
theorem find1_meets (x : Id) (e : Entry) : Meets Try.prog 56 [.agg (cE e), .ptr 0 0] [.box (cId x)] (.bool (decide (e.id = x))) [.box (cId x)] := by
  refine Meets.of_walk Try.func56 Try.ntmps56 low56 res56 (by simp) fun xx hx => ?_
  simp only [go_sem, Nat.reduceLT, Nat.reduceAdd, Nat.reduceEqDiff, Nat.reduceLeDiff, Nat.reduceSub, Nat.reduceMul, Int.reduceEq, eq_self, reduceIte, L56, R56, cE, cId, beqId]
  refine ret_keep [] (by simp) (by simp) (by simp [hx]) ?_ ?_
  · simp [go_sem, Nat.reduceLT, Nat.reduceAdd, Nat.reduceEqDiff, Nat.reduceLeDiff, Nat.reduceSub, Nat.reduceMul, Int.reduceEq, eq_self, reduceIte, L56, R56, hx]
  · simp [subHeap, renObj, hx, go_sem, Nat.reduceLT, Nat.reduceAdd, Nat.reduceEqDiff, Nat.reduceLeDiff, Nat.reduceSub, Nat.reduceMul, Int.reduceEq, eq_self, reduceIte]
theorem closedId (x : Id) : ClosedH [.box (cId x)] [.ptr 0 0] := closed1 _ (by simp [cId, renCell, renLeaf]) (by simp [cId, renCell, renLeaf]) (by simp [cId, renCell, renLeaf])
theorem find_meets (l : List Entry) (x : Id) (hl : l.length ≤ 9223372036854775806) : Meets Try.prog 30 [.list (l.map cE), .agg (cId x)] [] (.int .i64 (findE l x)) [] := by
  refine Meets.of_walk Try.func30 Try.ntmps30 low30 res30 (by simp) fun xx hx => ?_
  simp only [go_sem, Nat.reduceLT, Nat.reduceAdd, Nat.reduceEqDiff, Nat.reduceLeDiff, Nat.reduceSub, Nat.reduceMul, Int.reduceEq, eq_self, reduceIte, L30, R30, cId]
  refine ops_call (.heapE [0] (r' := .int .i64 (findE l x)) (H' := [.box (cId x)]) (indexE_meets l 56 [.ptr 0 0] [.box (cId x)] (fun e => decide (e.id = x)) (by kernel_rfl) hl (closedId x) (fun e _ => find1_meets x e)) (by simp) (by simp) (by simp [go_sem, Nat.reduceLT, Nat.reduceAdd, Nat.reduceEqDiff, Nat.reduceLeDiff, Nat.reduceSub, Nat.reduceMul, Int.reduceEq, eq_self, reduceIte, pos]) (by simp [subHeap, renObj, go_sem, Nat.reduceLT, Nat.reduceAdd, Nat.reduceEqDiff, Nat.reduceLeDiff, Nat.reduceSub, Nat.reduceMul, Int.reduceEq, eq_self, reduceIte, cId]) rfl (by simp [merge, mergeObj, callId, renObj, pos, go_sem, Nat.reduceLT, Nat.reduceAdd, Nat.reduceEqDiff, Nat.reduceLeDiff, Nat.reduceSub, Nat.reduceMul, Int.reduceEq, eq_self, reduceIte, List.range_succ, cId])) ?_
  simp only [go_sem, Nat.reduceLT, Nat.reduceAdd, Nat.reduceEqDiff, Nat.reduceLeDiff, Nat.reduceSub, Nat.reduceMul, Int.reduceEq, eq_self, reduceIte]
  refine ret_pure hx ?_
  simp [go_sem, Nat.reduceLT, Nat.reduceAdd, Nat.reduceEqDiff, Nat.reduceLeDiff, Nat.reduceSub, Nat.reduceMul, Int.reduceEq, eq_self, reduceIte, L30, R30]

def cntR (l : List Entry) (r : Int) : Nat := l.countP fun e => decide (e.id.r = r)
theorem cntR_take (l : List Entry) (k : Nat) (r : Int) (h : k < l.length) : cntR (l.take (k + 1)) r = cntR (l.take k) r + if (nth l k).id.r = r then 1 else 0 := by
  rw [List.take_succ_eq_append_getElem h, nth_eq _ _ h]
  simp only [cntR, List.countP_append, List.countP_cons, List.countP_nil, decide_eq_true_eq]
  omega
theorem cntR_le (l : List Entry) (r : Int) : cntR l r ≤ l.length := List.countP_le_length
def okReg (l : List Entry) : Prop := ∀ e ∈ l, e.id.r = 0 ∨ e.id.r = 1
theorem many_meets (l : List Entry) (h : okReg l) (hl : l.length ≤ 1000000000000000) : Meets Try.prog 26 [.list (l.map cE)] [] (.agg [.int .i64 (cntR l 0), .int .i64 (cntR l 1)]) [] := by
  refine Meets.of_walk Try.func26 Try.ntmps26 low26 res26 (by simp) fun x hx => ?_
  simp only [go_sem, Nat.reduceLT, Nat.reduceAdd, Nat.reduceEqDiff, Nat.reduceLeDiff, Nat.reduceSub, Nat.reduceMul, Int.reduceEq, eq_self, reduceIte, L26, R26]
  refine loop_inv [2, 3, 6, 7, 8] 2 (fun n st => ∃ k : Nat, k + n = l.length ∧
    st = ⟨mkE .top [(2, .ptr 0 0), (3, .ptr 1 0), (6, .list (l.map cE)), (7, .int .i64 l.length), (8, .int .i64 k)], [.box [.int .i64 0, .int .i64 0], .box [.int .i64 (cntR (l.take k) 0), .int .i64 (cntR (l.take k) 1)]]⟩) l.length (by simp [hx]) (by simp) ?_ ?_
  · refine ⟨0, by omega, ?_⟩
    simp [trim_mk, go_sem, Nat.reduceLT, Nat.reduceAdd, Nat.reduceEqDiff, Nat.reduceLeDiff, Nat.reduceSub, Nat.reduceMul, Int.reduceEq, eq_self, reduceIte, subHeap, renObj, pos, List.range_succ, cntR]
  · rintro n st ⟨k, hk, rfl⟩
    by_cases hlt : k < l.length
    · have hg : l[k]? = some (nth l k) := nth_get? _ _ hlt
      have wk := i64_up (k := k) (by omega)
      have hle : ∀ r, cntR (l.take k) r ≤ 1000000000000000 := fun r => by have := cntR_le (l.take k) r; rw [List.length_take] at this; omega
      have w0 := i64_up (k := cntR (l.take k) 0) (by have := hle 0; omega)
      have w1 := i64_up (k := cntR (l.take k) 1) (by have := hle 1; omega)
      have c0 := cntR_take l k 0 hlt
      have c1 := cntR_take l k 1 hlt
      rcases h (nth l k) (by rw [nth_eq _ _ hlt]; exact List.getElem_mem hlt) with hr | hr
      · rw [hr] at c0 c1
        simp only [go_sem, Nat.reduceLT, Nat.reduceAdd, Nat.reduceEqDiff, Nat.reduceLeDiff, Nat.reduceSub, Nat.reduceMul, Int.reduceEq, eq_self, reduceIte, hlt, hg, cE, hr, w0, w1, wk, Int.reduceLE, Int.reduceLT, Int.reduceToNat, Int.cast_ofNat_Int, Int.ofNat_zero, Int.toNat_zero, Int.le_refl]
        refine ⟨by simp, n - 1, by omega, k + 1, by omega, ?_⟩
        simp [trim_mk, go_sem, Nat.reduceLT, Nat.reduceAdd, Nat.reduceEqDiff, Nat.reduceLeDiff, Nat.reduceSub, Nat.reduceMul, Int.reduceEq, eq_self, reduceIte, subHeap, renObj, pos, List.range_succ, c0, c1]
      · rw [hr] at c0 c1
        simp only [go_sem, Nat.reduceLT, Nat.reduceAdd, Nat.reduceEqDiff, Nat.reduceLeDiff, Nat.reduceSub, Nat.reduceMul, Int.reduceEq, eq_self, reduceIte, hlt, hg, cE, hr, w0, w1, wk, Int.reduceLE, Int.reduceLT, Int.reduceToNat, Int.cast_ofNat_Int, Int.ofNat_zero, Int.toNat_zero, Int.le_refl]
        refine ⟨by simp, n - 1, by omega, k + 1, by omega, ?_⟩
        simp [trim_mk, go_sem, Nat.reduceLT, Nat.reduceAdd, Nat.reduceEqDiff, Nat.reduceLeDiff, Nat.reduceSub, Nat.reduceMul, Int.reduceEq, eq_self, reduceIte, subHeap, renObj, pos, List.range_succ, c0, c1]
    · have : l.take k = l := List.take_of_length_le (by omega)
      simp only [go_sem, Nat.reduceLT, Nat.reduceAdd, Nat.reduceEqDiff, Nat.reduceLeDiff, Nat.reduceSub, Nat.reduceMul, Int.reduceEq, eq_self, reduceIte, hlt]
      refine ret_pure hx ?_
      simp [go_sem, Nat.reduceLT, Nat.reduceAdd, Nat.reduceEqDiff, Nat.reduceLeDiff, Nat.reduceSub, Nat.reduceMul, Int.reduceEq, eq_self, reduceIte, L26, R26, this]
end Go.Proofs.Ytgchinklnmldiaa
/- Logs: being ready, being right: contracts. -/
namespace Go.Proofs.Ytgchinklnmldiaa
set_option linter.unusedSimpArgs false
set_option linter.unusedVariables false
open Go.RowKit
def readyB (l : List Entry) (e : Entry) : Bool := decide ((cntR l e.id.r : Int) + 1 = e.id.n) && !(e.ls.any fun x => decide (findE l x < 0))
theorem idxF_lt {α : Type} (p : α → Bool) : ∀ (l : List α) (k : Nat), -1 ≤ idxF p l k ∧ idxF p l k ≤ k + l.length
  | [], k => by simp [idxF] <;> omega
  | x :: l, k => by
    simp only [idxF]
    have := idxF_lt p l (k + 1)
    split
    · simp; omega
    · simp at *; omega
theorem ready1_meets (l : List Entry) (x : Id) (hl : l.length ≤ 9223372036854775806) : Meets Try.prog 82 [.agg (cId x), .ptr 0 0] [.box [.list (l.map cE)]] (.bool (decide (findE l x < 0))) [.box [.list (l.map cE)]] := by
  refine Meets.of_walk Try.func82 Try.ntmps82 low82 res82 (by simp) fun xx hx => ?_
  simp only [go_sem, Nat.reduceLT, Nat.reduceAdd, Nat.reduceEqDiff, Nat.reduceLeDiff, Nat.reduceSub, Nat.reduceMul, Int.reduceEq, eq_self, reduceIte, L82, R82, cId]
  refine ops_call (.pureE (find_meets l x hl) (by simp [go_sem, Nat.reduceLT, Nat.reduceAdd, Nat.reduceEqDiff, Nat.reduceLeDiff, Nat.reduceSub, Nat.reduceMul, Int.reduceEq, eq_self, reduceIte, cId])) ?_
  simp only [go_sem, Nat.reduceLT, Nat.reduceAdd, Nat.reduceEqDiff, Nat.reduceLeDiff, Nat.reduceSub, Nat.reduceMul, Int.reduceEq, eq_self, reduceIte]
  refine ret_keep [] (by simp) (by simp) (by simp [hx]) ?_ ?_
  · simp [go_sem, Nat.reduceLT, Nat.reduceAdd, Nat.reduceEqDiff, Nat.reduceLeDiff, Nat.reduceSub, Nat.reduceMul, Int.reduceEq, eq_self, reduceIte, L82, R82, hx]
  · simp [subHeap, renObj, hx, go_sem, Nat.reduceLT, Nat.reduceAdd, Nat.reduceEqDiff, Nat.reduceLeDiff, Nat.reduceSub, Nat.reduceMul, Int.reduceEq, eq_self, reduceIte]
theorem closedL (l : List Entry) : ClosedH [.box [.list (l.map cE)]] [.ptr 0 0] := closed1 _ (by simp [renCell, renLeaf]) (by simp [renCell, renLeaf]) (by simp [renCell, renLeaf])
theorem ready_meets (l : List Entry) (e : Entry) (h : okReg l) (hl : l.length ≤ 1000000000000000) (he : e.id.r = 0 ∨ e.id.r = 1) (hls : e.ls.length ≤ 9223372036854775806) :
    Meets Try.prog 64 [.list (l.map cE), .agg (cE e)] [] (.bool (readyB l e)) [] := by
  refine Meets.of_walk Try.func64 Try.ntmps64 low64 res64 (by simp) fun x hx => ?_
  have hw : IntKind.i64.wrap ((cntR l e.id.r : Int) + 1) = (cntR l e.id.r : Int) + 1 := by have := cntR_le l e.id.r; rw [IntWalk.i64_in _ (by omega)]
  simp only [go_sem, Nat.reduceLT, Nat.reduceAdd, Nat.reduceEqDiff, Nat.reduceLeDiff, Nat.reduceSub, Nat.reduceMul, Int.reduceEq, eq_self, reduceIte, L64, R64, cE]
  refine ops_call (.pure (many_meets l h hl)) ?_
  have hany := contFI_meets e.ls 82 [.ptr 0 0] [.box [.list (l.map cE)]] (fun x => decide (findE l x < 0)) (by kernel_rfl) hls (closedL l) (fun y _ => ready1_meets l y (by omega))
  rcases he with hr | hr
  all_goals
    rw [hr] at hw
    by_cases hc : (cntR l e.id.r : Int) + 1 = e.id.n
    · have hc' := hc
      rw [hr] at hc'
      have dc := decide_eq_true hc'
      simp only [go_sem, Nat.reduceLT, Nat.reduceAdd, Nat.reduceEqDiff, Nat.reduceLeDiff, Nat.reduceSub, Nat.reduceMul, Int.reduceEq, eq_self, reduceIte, hr, hw, dc, Int.reduceLE, Int.reduceLT, Int.reduceToNat, Int.cast_ofNat_Int, Int.ofNat_zero, Int.toNat_zero, Int.le_refl]
      refine ops_call (.heapE [0] (r' := .bool (e.ls.any fun x => decide (findE l x < 0))) (H' := [.box [.list (l.map cE)], .box (cE e)]) hany (by simp) (by simp) (by simp [go_sem, Nat.reduceLT, Nat.reduceAdd, Nat.reduceEqDiff, Nat.reduceLeDiff, Nat.reduceSub, Nat.reduceMul, Int.reduceEq, eq_self, reduceIte, pos]) (by simp [subHeap, renObj, go_sem, Nat.reduceLT, Nat.reduceAdd, Nat.reduceEqDiff, Nat.reduceLeDiff, Nat.reduceSub, Nat.reduceMul, Int.reduceEq, eq_self, reduceIte]) rfl (by simp [merge, mergeObj, callId, renObj, pos, go_sem, Nat.reduceLT, Nat.reduceAdd, Nat.reduceEqDiff, Nat.reduceLeDiff, Nat.reduceSub, Nat.reduceMul, Int.reduceEq, eq_self, reduceIte, List.range_succ, cE, hr])) ?_
      simp only [go_sem, Nat.reduceLT, Nat.reduceAdd, Nat.reduceEqDiff, Nat.reduceLeDiff, Nat.reduceSub, Nat.reduceMul, Int.reduceEq, eq_self, reduceIte]
      refine ret_pure hx ?_
      simp [go_sem, Nat.reduceLT, Nat.reduceAdd, Nat.reduceEqDiff, Nat.reduceLeDiff, Nat.reduceSub, Nat.reduceMul, Int.reduceEq, eq_self, reduceIte, L64, R64, readyB, hc]
    · have hc' := hc
      rw [hr] at hc'
      simp only [go_sem, Nat.reduceLT, Nat.reduceAdd, Nat.reduceEqDiff, Nat.reduceLeDiff, Nat.reduceSub, Nat.reduceMul, Int.reduceEq, eq_self, reduceIte, hr, hw, hc', Int.reduceLE, Int.reduceLT, Int.reduceToNat, Int.cast_ofNat_Int, Int.ofNat_zero, Int.toNat_zero, Int.le_refl]
      refine ret_pure hx ?_
      simp [go_sem, Nat.reduceLT, Nat.reduceAdd, Nat.reduceEqDiff, Nat.reduceLeDiff, Nat.reduceSub, Nat.reduceMul, Int.reduceEq, eq_self, reduceIte, L64, R64, readyB, hc]

/-- what is wrong with entry k of a log -/
def logErr (l : List Entry) (k : Nat) : Int :=
  if checkEntry (nth l k) ≠ 0 then checkEntry (nth l k) else if 0 ≤ findE (l.take k) (nth l k).id then 6
  else if (cntR (l.take k) (nth l k).id.r : Int) + 1 ≠ (nth l k).id.n then 4 else if readyB (l.take k) (nth l k) = false then 5 else 0
def checkLog (l : List Entry) : Int := if 40 < l.length then 2 else firstNZ (logErr l) l.length
theorem reg_of_check {e : Entry} (h : checkEntry e = 0) : e.id.r = 0 ∨ e.id.r = 1 := by
  have := (check_ok_bounds h).1
  simp only [okId, Bool.and_eq_true, wthn_iff] at this
  omega
theorem okReg_take {l : List Entry} {k : Nat} (h : firstNZ (logErr l) k = 0) (hk : k ≤ l.length) : okReg (l.take k) := by
  intro e he
  obtain ⟨j, hj, rfl⟩ := List.getElem_of_mem he
  rw [List.length_take] at hj
  have h0 := firstNZ_zero.1 h j (by omega)
  have hc : checkEntry (nth l j) = 0 := by
    unfold logErr at h0
    split at h0
    · exact h0
    · rename_i h; simpa using h
  rw [List.getElem_take, ← nth_eq l j (by omega)]
  exact reg_of_check hc
theorem dagCheck_meets (l : List Entry) (hm : l.length ≤ 9223372036854775806) : Meets Try.prog 44 [.list (l.map cE)] [] (.int .i64 (checkLog l)) [] := by
  refine Meets.of_walk Try.func44 Try.ntmps44 low44 res44 (by simp) fun x hx => ?_
  by_cases h40 : 40 < l.length
  · have d40 : decide ((40 : Int) < (l.length : Nat)) = true := by simp; omega
    simp only [go_sem, Nat.reduceLT, Nat.reduceAdd, Nat.reduceEqDiff, Nat.reduceLeDiff, Nat.reduceSub, Nat.reduceMul, Int.reduceEq, eq_self, reduceIte, L44, R44, d40]
    refine ret_pure hx ?_
    simp [go_sem, Nat.reduceLT, Nat.reduceAdd, Nat.reduceEqDiff, Nat.reduceLeDiff, Nat.reduceSub, Nat.reduceMul, Int.reduceEq, eq_self, reduceIte, L44, R44, checkLog, h40]
  have d40 : decide ((40 : Int) < (l.length : Nat)) = false := by simp; omega
  have hcl : checkLog l = firstNZ (logErr l) l.length := by simp [checkLog, h40]
  simp only [go_sem, Nat.reduceLT, Nat.reduceAdd, Nat.reduceEqDiff, Nat.reduceLeDiff, Nat.reduceSub, Nat.reduceMul, Int.reduceEq, eq_self, reduceIte, L44, R44, d40, hcl]
  refine loop_inv [0, 9, 10, 11] 0 (fun n st => ∃ k : Nat, k + n = l.length ∧ firstNZ (logErr l) k = 0 ∧
    st = ⟨mkE .top [(0, .list (l.map cE)), (9, .list (l.map cE)), (10, .int .i64 l.length), (11, .int .i64 k)], []⟩) l.length (by simp [hx]) (by simp) ?_ ?_
  · refine ⟨0, by omega, rfl, ?_⟩
    simp [trim_mk, go_sem, Nat.reduceLT, Nat.reduceAdd, Nat.reduceEqDiff, Nat.reduceLeDiff, Nat.reduceSub, Nat.reduceMul, Int.reduceEq, eq_self, reduceIte, subHeap, renObj, pos]
  · rintro n st ⟨k, hk, hz, rfl⟩
    by_cases hlt : k < l.length
    · have hg : l[k]? = some (nth l k) := nth_get? _ _ hlt
      have wk := i64_up (k := k) (by omega)
      have hle : k ≤ l.length := by omega
      have hrow : (∀ row ∈ List.map cE l, row.length = 5) = True := eq_true (cE_row l)
      have htk : List.take k (List.map cE l) = List.map cE (List.take k l) := List.map_take.symm
      have hlk : (l.take k).length ≤ 40 := by rw [List.length_take]; omega
      have hreg := okReg_take hz hle
      have fin : ∀ r : Int, logErr l k = r → r ≠ 0 → firstNZ (logErr l) l.length = r := fun r h1 h2 => by rw [firstNZ_hit hz (by rw [h1]; exact h2) hlt, h1]
      simp only [go_sem, Nat.reduceLT, Nat.reduceAdd, Nat.reduceEqDiff, Nat.reduceLeDiff, Nat.reduceSub, Nat.reduceMul, Int.reduceEq, eq_self, reduceIte, hlt, hg, cE]
      refine ops_call (.pureE (check_meets (nth l k)) (by simp [go_sem, Nat.reduceLT, Nat.reduceAdd, Nat.reduceEqDiff, Nat.reduceLeDiff, Nat.reduceSub, Nat.reduceMul, Int.reduceEq, eq_self, reduceIte, cE])) ?_
      by_cases h1 : checkEntry (nth l k) = 0
      · have hr := reg_of_check h1
        simp only [go_sem, Nat.reduceLT, Nat.reduceAdd, Nat.reduceEqDiff, Nat.reduceLeDiff, Nat.reduceSub, Nat.reduceMul, Int.reduceEq, eq_self, reduceIte, h1, hle, hrow, htk, Int.le_refl, Int.sub_zero, Int.toNat_zero, Int.natCast_nonneg, cE]
        refine ops_call (.pureE (find_meets (l.take k) (nth l k).id (by omega)) (by simp [go_sem, Nat.reduceLT, Nat.reduceAdd, Nat.reduceEqDiff, Nat.reduceLeDiff, Nat.reduceSub, Nat.reduceMul, Int.reduceEq, eq_self, reduceIte, cId])) ?_
        by_cases h2 : 0 ≤ findE (l.take k) (nth l k).id
        · simp only [go_sem, Nat.reduceLT, Nat.reduceAdd, Nat.reduceEqDiff, Nat.reduceLeDiff, Nat.reduceSub, Nat.reduceMul, Int.reduceEq, eq_self, reduceIte, h2]
          refine ret_pure hx ?_
          have : logErr l k = 6 := by simp [logErr, h1, h2]
          simp [go_sem, Nat.reduceLT, Nat.reduceAdd, Nat.reduceEqDiff, Nat.reduceLeDiff, Nat.reduceSub, Nat.reduceMul, Int.reduceEq, eq_self, reduceIte, L44, R44, fin _ this (by decide)]
        simp only [go_sem, Nat.reduceLT, Nat.reduceAdd, Nat.reduceEqDiff, Nat.reduceLeDiff, Nat.reduceSub, Nat.reduceMul, Int.reduceEq, eq_self, reduceIte, h2, hle, hrow, htk, Int.le_refl, Int.sub_zero, Int.toNat_zero, Int.natCast_nonneg, cE]
        refine ops_call (.pureE (many_meets (l.take k) hreg (by omega)) (by simp [go_sem, Nat.reduceLT, Nat.reduceAdd, Nat.reduceEqDiff, Nat.reduceLeDiff, Nat.reduceSub, Nat.reduceMul, Int.reduceEq, eq_self, reduceIte])) ?_
        have hw : ∀ r, IntKind.i64.wrap ((cntR (l.take k) r : Int) + 1) = (cntR (l.take k) r : Int) + 1 := fun r => by have := cntR_le (l.take k) r; rw [IntWalk.i64_in _ (by omega)]
        by_cases h3 : (cntR (l.take k) (nth l k).id.r : Int) + 1 = (nth l k).id.n
        · have h3e : logErr l k = if readyB (l.take k) (nth l k) = false then 5 else 0 := by simp [logErr, h1, h2, h3]
          rcases hr with hr | hr
          all_goals
            have h3' := h3
            rw [hr] at h3'
            have dc := decide_eq_true h3'
            simp only [go_sem, Nat.reduceLT, Nat.reduceAdd, Nat.reduceEqDiff, Nat.reduceLeDiff, Nat.reduceSub, Nat.reduceMul, Int.reduceEq, eq_self, reduceIte, hr, hw, dc, hle, hrow, htk, Int.sub_zero, Int.natCast_nonneg, cE, Int.reduceLE, Int.reduceLT, Int.reduceToNat, Int.cast_ofNat_Int, Int.ofNat_zero, Int.toNat_zero, Int.le_refl]
            refine ops_call (.pureE (ready_meets (l.take k) (nth l k) hreg (by omega) (by omega) (by have := (check_ok_bounds h1).2.2.2.1; omega)) (by simp [go_sem, Nat.reduceLT, Nat.reduceAdd, Nat.reduceEqDiff, Nat.reduceLeDiff, Nat.reduceSub, Nat.reduceMul, Int.reduceEq, eq_self, reduceIte, cE, hr])) ?_
            cases h4 : readyB (l.take k) (nth l k)
            · simp only [go_sem, Nat.reduceLT, Nat.reduceAdd, Nat.reduceEqDiff, Nat.reduceLeDiff, Nat.reduceSub, Nat.reduceMul, Int.reduceEq, eq_self, reduceIte]
              refine ret_pure hx ?_
              have : logErr l k = 5 := by rw [h3e, if_pos h4]
              simp [go_sem, Nat.reduceLT, Nat.reduceAdd, Nat.reduceEqDiff, Nat.reduceLeDiff, Nat.reduceSub, Nat.reduceMul, Int.reduceEq, eq_self, reduceIte, L44, R44, fin _ this (by decide)]
            · simp only [go_sem, Nat.reduceLT, Nat.reduceAdd, Nat.reduceEqDiff, Nat.reduceLeDiff, Nat.reduceSub, Nat.reduceMul, Int.reduceEq, eq_self, reduceIte, wk]
              refine ⟨by simp, n - 1, by omega, k + 1, by omega, firstNZ_succ hz (by rw [h3e, if_neg (by simp [h4])]), ?_⟩
              simp [trim_mk, go_sem, Nat.reduceLT, Nat.reduceAdd, Nat.reduceEqDiff, Nat.reduceLeDiff, Nat.reduceSub, Nat.reduceMul, Int.reduceEq, eq_self, reduceIte, subHeap, renObj, pos]
        · rcases hr with hr | hr
          all_goals
            have h3' := h3
            rw [hr] at h3'
            have dc := decide_eq_false h3'
            simp only [go_sem, Nat.reduceLT, Nat.reduceAdd, Nat.reduceEqDiff, Nat.reduceLeDiff, Nat.reduceSub, Nat.reduceMul, Int.reduceEq, eq_self, reduceIte, hr, hw, dc, Int.reduceLE, Int.reduceLT, Int.reduceToNat, Int.cast_ofNat_Int, Int.ofNat_zero, Int.toNat_zero, Int.le_refl]
            refine ret_pure hx ?_
            have : logErr l k = 4 := by simp [logErr, h1, h2, h3]
            simp [go_sem, Nat.reduceLT, Nat.reduceAdd, Nat.reduceEqDiff, Nat.reduceLeDiff, Nat.reduceSub, Nat.reduceMul, Int.reduceEq, eq_self, reduceIte, L44, R44, fin _ this (by decide)]
      · simp only [go_sem, Nat.reduceLT, Nat.reduceAdd, Nat.reduceEqDiff, Nat.reduceLeDiff, Nat.reduceSub, Nat.reduceMul, Int.reduceEq, eq_self, reduceIte, h1]
        refine ret_pure hx ?_
        have : logErr l k = checkEntry (nth l k) := by simp [logErr, h1]
        simp [go_sem, Nat.reduceLT, Nat.reduceAdd, Nat.reduceEqDiff, Nat.reduceLeDiff, Nat.reduceSub, Nat.reduceMul, Int.reduceEq, eq_self, reduceIte, L44, R44, fin _ this h1]
    · have hke : k = l.length := by omega
      subst hke
      simp only [go_sem, Nat.reduceLT, Nat.reduceAdd, Nat.reduceEqDiff, Nat.reduceLeDiff, Nat.reduceSub, Nat.reduceMul, Int.reduceEq, eq_self, reduceIte, Nat.lt_irrefl, hz]
      refine ret_pure hx ?_
      simp [go_sem, Nat.reduceLT, Nat.reduceAdd, Nat.reduceEqDiff, Nat.reduceLeDiff, Nat.reduceSub, Nat.reduceMul, Int.reduceEq, eq_self, reduceIte, L44, R44, hz]
end Go.Proofs.Ytgchinklnmldiaa
/- Array objects and the rows of cells where they lie: what holds in memory of an array, and what may be said when its cells were laid anew. -/
namespace Go.Proofs.Ytgchinklnmldiaa
open Go.RowKit

section
variable {x : Cx} {C : Conc} {H : List AObj} {w w' : World}

/-- an array's header, and the row of cells behind it -/
theorem HR.row (hr : HR x C H w) {id v T sz : Nat} {sto : Bool} {rows : List (List PV)} {u : Value} (hid : H[id]? = some (.arr v sto false T sz rows)) (hu : RepV (Stab x C H w) w C (.arr id v) u) :
    u = C.sv id ∧ (∀ row ∈ rows, row.length = sz) ∧ (u = .slice none 0 0 ∧ rows = [] ∨ ∃ (g cap : Nat) (cur : Array Value), u = .slice (some ⟨g, 0, none⟩) rows.length cap ∧ w.heap[g]? = some (.cells cur T (0, 0)) ∧ rows.length ≤ cap ∧ cap ≤ maxLen ∧ cur.size = cap * sz ∧
      ∀ (k : Nat) row (j : Nat) p, rows[k]? = some row → row[j]? = some p → ∃ y, cur[k * sz + j]? = some y ∧ y.oneCell' = true ∧ RepP (Stab x C H w) w p y) := by
  obtain ⟨o1, o2, o3, xs, o4, o5⟩ := hr.obj id _ hid
  obtain ⟨e, hi⟩ := hu.arr_inv o1
  refine ⟨e, o3, ?_⟩
  rcases o4.2 with ⟨g1, g2⟩ | ⟨g, cap, cur, g1, -, g2, g3, g4, g5, g6⟩
  · exact .inl ⟨e.trans g1, List.length_eq_zero_iff.1 g2⟩
  · refine .inr ⟨g, cap, cur, e.trans g1, g2, g3, g4, g5, fun k row j p a b => ?_⟩
    have hk : k < rows.length := (List.getElem?_eq_some_iff.1 a).1
    have hj : j < sz := by rw [← o3 row (List.mem_of_getElem? a)]; exact (List.getElem?_eq_some_iff.1 b).1
    have hkl : k * sz + j < rows.length * sz := by
      have : (k + 1) * sz ≤ rows.length * sz := Nat.mul_le_mul_right _ hk
      rw [Nat.add_mul] at this; omega
    have hcl : rows.length * sz ≤ cap * sz := Nat.mul_le_mul_right _ g3
    have hlt : k * sz + j < cur.size := by omega
    have hx : xs[k * sz + j]? = some cur[k * sz + j] := by rw [← g6, List.getElem?_take, if_pos hkl, Array.getElem?_toList, Array.getElem?_eq_getElem hlt]
    have := o5 k row j p _ a b hx
    simp only [Bool.false_eq_true, if_false] at this
    exact ⟨_, Array.getElem?_eq_getElem hlt, this⟩

/-- an array's cells were laid anew, where they lay or in a new block -/
theorem HR.rerow (hr : HR x C H w) {id v v' T sz g' cap' : Nat} {rows rows' : List (List PV)} {cur' : Array Value}
    (hid : H[id]? = some (.arr v true false T sz rows)) (hs : Step w w' fun b => (C.sv id).ownBlock = some b)
    (hg : (C.sv id).ownBlock = some g' ∨ w.heap.size ≤ g')
    (hv : (v' = v ∧ C.sv id = .slice (some ⟨g', 0, none⟩) rows'.length cap') ∨ v < v')
    (hc : w'.heap[g']? = some (.cells cur' T (0, 0))) (hn : rows'.length ≤ cap') (hm : cap' ≤ maxLen) (hz : cur'.size = cap' * sz) (hrow : ∀ row ∈ rows', row.length = sz)
    (hrep : ∀ (k : Nat) row (j : Nat) p u, rows'[k]? = some row → row[j]? = some p → cur'[k * sz + j]? = some u → u.oneCell' = true ∧ RepP (Stab x C H w) w p u) :
    ∃ C', HR x C' (H.set id (.arr v' true false T sz rows')) w' ∧ (∀ p u, RepV (Stab x C H w) w C p u → RepV (Stab x C' (H.set id (.arr v' true false T sz rows')) w') w' C' p u) ∧
      RepV (Stab x C' (H.set id (.arr v' true false T sz rows')) w') w' C' (.arr id v') (.slice (some ⟨g', 0, none⟩) rows'.length cap') := by
  obtain ⟨o1, o2, o3, xs, o4, o5⟩ := hr.obj id _ hid
  let C' : Conc := ⟨C.n, C.blk, fun i => if i = id then .slice (some ⟨g', 0, none⟩) rows'.length cap' else C.sv i, fun i => if i = id then v' else C.ver i⟩
  have e1 : C'.sv id = .slice (some ⟨g', 0, none⟩) rows'.length cap' := if_pos rfl
  have e2 : C'.ver id = v' := if_pos rfl
  have hlt : id < C.n := by rw [hr.n]; exact (List.getElem?_eq_some_iff.1 hid).1
  obtain ⟨k1, k2⟩ := hr.change (C' := C') hid (ob' := .arr v' true false T sz rows') hs rfl (fun _ => rfl)
    (fun i hi => ⟨if_neg hi, if_neg hi⟩)
    (by
      rcases hv with ⟨h1, h2⟩ | h1
      · exact .inl ⟨by rw [e2, h1, o1], by rw [e1, h2]⟩
      · exact .inr (by rw [e2, o1]; exact h1))
    (fun b o hb hf hb' => by
      rw [e1] at hb'
      have hgb : g' = b := by simpa [Value.ownBlock] using hb'
      rcases hg with hg | hg
      · have := hf (by rw [hg, hgb]); simp at this
      · omega)
    (fun b o hb hf => by have := hf hb; simp at this)
    (fun b hb => by
      have hb' : (C'.sv id).ownBlock = some b := hb
      rw [e1] at hb'
      have hgb : g' = b := by simpa [Value.ownBlock] using hb'
      rcases hg with hg | hg
      · exact .inl (by show (C.sv id).ownBlock = some b; rw [hg, hgb])
      · exact .inr (by omega))
    (fun hm' hmp => ⟨e2, o2, hrow, cur'.toList.take (rows'.length * sz),
      ⟨by
        have hcl : rows'.length * sz ≤ cap' * sz := Nat.mul_le_mul_right _ hn
        have hcs : cur'.toList.length = cur'.size := Array.length_toList
        rw [List.length_take, hcs]; omega,
       .inr ⟨g', cap', cur', e1, Nat.zero_le _, hc, hn, hm, hz, rfl⟩⟩,
      fun k row j p u a b c => by
        rw [List.getElem?_take] at c
        split at c
        · rw [Array.getElem?_toList] at c
          obtain ⟨q1, q2⟩ := hrep k row j p u a b c
          exact ⟨q1, hmp _ _ q2⟩
        · cases c⟩)
  refine ⟨C', k1, k2, ?_⟩
  have := RepV.arr (S := Stab x C' (H.set id (.arr v' true false T sz rows')) w') (w := w') (C := C') id hlt (by rw [e1]; rfl)
  rw [e1, e2] at this
  exact this

/-- an array is a list of data from now on -/
theorem HR.drop (hr : HR x C H w) {id v T sz g cap' : Nat} {rows rows' : List (List PV)} {cur' : Array Value} {fr : Nat × Nat}
    (hid : H[id]? = some (.arr v true false T sz rows)) (hs : Step w w' fun b => (C.sv id).ownBlock = some b) (hg : (C.sv id).ownBlock = some g)
    (hc : w'.heap[g]? = some (.cells cur' T fr)) (hn : rows'.length ≤ cap') (hm : cap' ≤ maxLen) (hz : cur'.size = cap' * sz) (hrow : ∀ row ∈ rows', row.length = sz)
    (hrep : ∀ (k : Nat) row (j : Nat) p u, rows'[k]? = some row → row[j]? = some p → cur'[k * sz + j]? = some u → RepP (Stab x C H w) w p u) :
    HR x C (H.set id .gone) w' ∧ (∀ p u, RepV (Stab x C H w) w C p u → RepV (Stab x C (H.set id .gone) w') w' C p u) ∧
      RepP (Stab x C (H.set id .gone) w') w' (.list rows') (.slice (some ⟨g, 0, none⟩) rows'.length cap') := by
  obtain ⟨o1, o2, o3, xs, o4, o5⟩ := hr.obj id _ hid
  have hlt : id < H.length := (List.getElem?_eq_some_iff.1 hid).1
  have hgb : g < w'.heap.size := (Array.getElem?_eq_some_iff.1 hc).1
  have hmp : ∀ p v, RepP (Stab x C H w) w p v → RepP (Stab x C (H.set id .gone) w') w' p v := by
    intro p v h
    refine h.mono (fun b o h => ⟨h.1, Nat.lt_of_lt_of_le h.2.1 hs.size, fun i ob1 hi => ?_⟩) fun b o h => cell_eq (hs.blk b h.2.1 fun hb => ?_)
    · by_cases e : i = id
      · subst e; rw [List.getElem?_set_self hlt] at hi; cases hi; trivial
      · rw [List.getElem?_set_ne (Ne.symm e)] at hi; exact h.2.2 i ob1 hi
    · have := h.2.2 id _ hid hb; simp at this
  obtain ⟨k1, k2⟩ := hr.change (C' := C) hid (ob' := .gone) hs rfl (fun _ => rfl) (fun _ _ => ⟨rfl, rfl⟩) (.inl ⟨rfl, rfl⟩)
    (fun b o hb hf => trivial) (fun b o hb hf => by have := hf hb; simp at this) (fun b hb => hb.elim) (fun _ _ => trivial)
  refine ⟨k1, k2, ?_⟩
  refine .list rows' _ cap' sz (fun k j => cur'[k * sz + j]!) hn hm o2 hrow (fun k row j p a b => ⟨g, 0, rfl, ?_, ?_⟩) fun k row j p a b => ?_
  · refine ⟨?_, hgb, fun i ob1 hi => ?_⟩
    · rcases hr.mine id _ g hid hg with h | h
      · exact .inr (.inl h)
      · exact .inr (.inr h)
    · by_cases e : i = id
      · subst e; rw [List.getElem?_set_self hlt] at hi; cases hi; trivial
      · rw [List.getElem?_set_ne (Ne.symm e)] at hi
        exact AObj.free_of_not (fun hb => e (hr.apart i id ob1 _ g hi hid hb hg)) _
  all_goals
    have hk : k < rows'.length := (List.getElem?_eq_some_iff.1 a).1
    have hj : j < sz := by rw [← hrow row (List.mem_of_getElem? a)]; exact (List.getElem?_eq_some_iff.1 b).1
    have hkl : k * sz + j < cur'.size := by
      have h1 : (k + 1) * sz ≤ rows'.length * sz := Nat.mul_le_mul_right _ hk
      have h2 : rows'.length * sz ≤ cap' * sz := Nat.mul_le_mul_right _ hn
      rw [Nat.add_mul] at h1; omega
  · simp [World.cell?, hc, hkl]
  · exact hmp _ _ (hrep k row j p _ a b (by simp [hkl]))
end
end Go.Proofs.Ytgchinklnmldiaa
