/- Joined texts of this claim: Lc E1 E2 E3 E4 E5 E6 E12 F1 M1 M2 S2 S3 Sw F2 D1 F3 D2 D3 Sh S1 G1 M3. -/
import Derived.Test.YtfdolehffjmdmaaGreatDoorKB
import Derived.Test.YtfdolehffjmdmaaGreatDoorProg
import Derived.KernelRfl
import Derived.IntWalk
import Derived.Shelf.GgSortFunc.InsertionK
import Derived.Shelf.RegionOpenPlain
import Derived.WalkKit
import Derived.Deep.LoopGhost
import Derived.Deep.Draws
import Derived.Lib.Walk
import Derived.Sort.WalkB12
import Derived.Lib.SliceRun
import Derived.Lib.SlicesCompact
import Derived.Shelf.SlSortCmp.WholeK
import Derived.Shelf.SlLaysF0
import Derived.Shelf.Lays
import Derived.Shelf.Strings.Split
import Derived.Shelf.SlSortCmp.Insertion
import Derived.Shelf.SlSortCmp.NoneTotal
set_option linter.unusedSimpArgs false
set_option linter.unusedVariables false
set_option linter.unusedSectionVars false
/- The lowered code of this seat's functions (printed by a program). -/
namespace Go.Proofs.YtfdolehffjmdmaaGreatDoor
def LOper.q (d : Nat) (o : LOp) : LOper := ⟨some d, o, none, true⟩
def LOper.z (d : Nat) (o : LOp) : LOper := ⟨some d, o, none, false⟩
def LOper.s (o : LOp) : LOper := ⟨none, o, none, true⟩
def LOper.g (d : Nat) (o : LOp) (t : Nat) (b : Bool) : LOper := ⟨some d, o, some (t, b), true⟩
def LOper.y (d : Nat) (o : LOp) (t : Nat) (b : Bool) : LOper := ⟨some d, o, some (t, b), false⟩
attribute [go_sem] LOper.q LOper.z LOper.s LOper.g LOper.y eq_self
set_option maxRecDepth 100000 in
def L5 : LC := (.seq (.reg none [.q 5 (.box (.tmp 0)), .q 10 (.mv (.val (.bool false)))]) (.seq (.seq (.reg none [.q 22 (.call 17 [] 0), .q 23 (.not (.tmp 22)), .q 24 (.mv (.tmp 23)), .g 25 (.call 22 [] 0) 24 false, .g 26 (.not (.tmp 25)) 24 false, .q 27 (.pick (.tmp 24) (.val (.bool true)) (.tmp 26))]) (.cond (.tmp 27) (.seq (.reg none [.q 10 (.mv (.val (.bool false)))]) .ret) .skip)) (.seq (.seq (.reg none [.q 28 (.mv (.tmp 2)), .q 29 (.call 13 [.tmp 28] 0), .q 30 (.not (.tmp 29)), .q 31 (.mv (.tmp 30)), .g 32 (.mv (.tmp 3)) 31 false, .g 33 (.call 13 [.tmp 32] 0) 31 false, .g 34 (.not (.tmp 33)) 31 false, .q 35 (.pick (.tmp 31) (.val (.bool true)) (.tmp 34))]) (.cond (.tmp 35) (.seq (.reg none [.q 10 (.mv (.val (.bool true)))]) .ret) .skip)) (.seq (.reg none [.q 37 (.load 3 true (.tmp 5)), .q 38 (.mv (.tmp 1)), .q 39 (.mv (.tmp 2)), .q 40 (.bin .add (.val (.str ⟨#[112, 117, 116, 32]⟩)) (.tmp 39)), .q 41 (.bin .add (.tmp 40) (.val (.str ⟨#[32]⟩))), .q 42 (.mv (.tmp 3)), .q 43 (.bin .add (.tmp 41) (.tmp 42)), .q 44 (.call 23 [.tmp 37, .tmp 38, .tmp 43] 0), .q 36 (.mv (.tmp 44)), .q 45 (.ext 0 (.tmp 36)), .q 46 (.ext 1 (.tmp 36)), .q 47 (.ext 2 (.tmp 36)), .q 11 (.alloc [.int .i64 0, .nilsl, .nilsl]), .q 12 (.alloc [.int .i64 0, .int .i64 0, .int .i64 0, .str ⟨#[]⟩, .nilsl]), .s (.store 3 (.tmp 11) (.tmp 45)), .s (.store 5 (.tmp 12) (.tmp 46)), .q 13 (.mv (.tmp 47))]) (.seq (.seq (.reg none [.q 48 (.mv (.tmp 13)), .q 49 (.bin .neq (.tmp 48) (.val (.int .i64 0)))]) (.cond (.tmp 49) (.seq (.reg none [.q 50 (.addr 1 (.tmp 11)), .q 51 (.load 1 false (.tmp 50)), .q 52 (.len false (.tmp 51)), .q 53 (.bin .eql (.tmp 52) (.val (.int .i64 0))), .q 10 (.mv (.tmp 53))]) .ret) .skip)) (.seq (.reg none [.q 55 (.load 3 true (.tmp 5)), .q 56 (.mv (.tmp 1)), .q 57 (.mv (.tmp 2)), .q 58 (.bin .add (.val (.str ⟨#[100, 114, 111, 112, 32]⟩)) (.tmp 57)), .q 59 (.call 23 [.tmp 55, .tmp 56, .tmp 58] 0), .q 54 (.mv (.tmp 59)), .q 60 (.ext 0 (.tmp 54)), .q 61 (.ext 1 (.tmp 54)), .q 62 (.ext 2 (.tmp 54)), .q 14 (.alloc [.int .i64 0, .nilsl, .nilsl]), .q 15 (.alloc [.int .i64 0, .int .i64 0, .int .i64 0, .str ⟨#[]⟩, .nilsl]), .s (.store 3 (.tmp 14) (.tmp 60)), .s (.store 5 (.tmp 15) (.tmp 61)), .q 13 (.mv (.tmp 62))]) (.seq (.seq (.reg none [.q 63 (.addr 1 (.tmp 11)), .q 64 (.load 1 false (.tmp 63)), .q 65 (.len false (.tmp 64)), .q 66 (.addr 1 (.tmp 5)), .q 67 (.load 1 false (.tmp 66)), .q 68 (.len false (.tmp 67)), .q 69 (.bin .leq (.tmp 65) (.tmp 68)), .q 70 (.mv (.tmp 69)), .g 71 (.addr 1 (.tmp 14)) 70 false, .g 72 (.load 1 false (.tmp 71)) 70 false, .g 73 (.len false (.tmp 72)) 70 false, .g 74 (.addr 1 (.tmp 5)) 70 false, .g 75 (.load 1 false (.tmp 74)) 70 false, .g 76 (.len false (.tmp 75)) 70 false, .g 77 (.bin .leq (.tmp 73) (.tmp 76)) 70 false, .q 78 (.pick (.tmp 70) (.val (.bool true)) (.tmp 77))]) (.cond (.tmp 78) (.seq (.reg none [.q 10 (.mv (.val (.bool false)))]) .ret) .skip)) (.seq (.reg none [.q 80 (.addr 1 (.tmp 11)), .q 81 (.load 1 false (.tmp 80)), .q 82 (.addr 1 (.tmp 5)), .q 83 (.load 1 false (.tmp 82)), .q 84 (.len false (.tmp 83)), .q 85 (.bin .add (.tmp 84) (.val (.int .i64 1))), .q 86 (.slc 5 (.tmp 81) none (some (.tmp 85))), .q 87 (.mv (.tmp 1)), .q 88 (.mv (.tmp 2)), .q 89 (.call 10 [.tmp 86, .tmp 87, .tmp 88] 0), .q 79 (.mv (.tmp 89)), .q 90 (.ext 0 (.tmp 79)), .q 91 (.ext 1 (.tmp 79)), .q 16 (.mv (.tmp 90)), .q 17 (.mv (.tmp 91))]) (.seq (.reg none [.q 93 (.addr 1 (.tmp 14)), .q 94 (.load 1 false (.tmp 93)), .q 95 (.addr 1 (.tmp 5)), .q 96 (.load 1 false (.tmp 95)), .q 97 (.len false (.tmp 96)), .q 98 (.bin .add (.tmp 97) (.val (.int .i64 1))), .q 99 (.slc 5 (.tmp 94) none (some (.tmp 98))), .q 100 (.mv (.tmp 1)), .q 101 (.mv (.tmp 2)), .q 102 (.call 10 [.tmp 99, .tmp 100, .tmp 101] 0), .q 92 (.mv (.tmp 102)), .q 103 (.ext 0 (.tmp 92)), .q 104 (.ext 1 (.tmp 92)), .q 18 (.mv (.tmp 103)), .q 19 (.mv (.tmp 104))]) (.seq (.seq (.reg none [.q 105 (.mv (.tmp 13)), .q 106 (.bin .neq (.tmp 105) (.val (.int .i64 0))), .q 107 (.mv (.tmp 106)), .g 108 (.mv (.tmp 17)) 107 false, .g 109 (.bin .neq (.tmp 108) (.val (.int .i64 0))) 107 false, .q 110 (.pick (.tmp 107) (.val (.bool true)) (.tmp 109)), .q 111 (.mv (.tmp 110)), .g 112 (.mv (.tmp 19)) 111 false, .g 113 (.bin .neq (.tmp 112) (.val (.int .i64 0))) 111 false, .q 114 (.pick (.tmp 111) (.val (.bool true)) (.tmp 113)), .q 115 (.mv (.tmp 114)), .g 116 (.mv (.tmp 16)) 115 false, .g 117 (.mv (.tmp 3)) 115 false, .g 118 (.mksA 9 1 [.str ⟨#[]⟩] 1 [(0, (.tmp 117))]) 115 false, .g 119 (.call 19 [.tmp 116, .tmp 118] 0) 115 false, .g 120 (.not (.tmp 119)) 115 false, .q 121 (.pick (.tmp 115) (.val (.bool true)) (.tmp 120)), .q 122 (.mv (.tmp 121)), .g 123 (.mv (.tmp 18)) 122 false, .g 124 (.len false (.tmp 123)) 122 false, .g 125 (.bin .gtr (.tmp 124) (.val (.int .i64 0))) 122 false, .q 126 (.pick (.tmp 122) (.val (.bool true)) (.tmp 125))]) (.cond (.tmp 126) (.seq (.reg none [.q 10 (.mv (.val (.bool false)))]) .ret) .skip)) (.seq (.reg none [.q 128 (.addr 1 (.tmp 5)), .q 129 (.load 1 false (.tmp 128)), .q 130 (.mv (.tmp 1)), .q 131 (.mv (.tmp 4)), .q 132 (.call 10 [.tmp 129, .tmp 130, .tmp 131] 0), .q 127 (.mv (.tmp 132)), .q 133 (.ext 0 (.tmp 127)), .q 134 (.ext 1 (.tmp 127)), .q 20 (.mv (.tmp 133)), .q 13 (.mv (.tmp 134))]) (.seq (.reg none [.q 136 (.addr 1 (.tmp 11)), .q 137 (.load 1 false (.tmp 136)), .q 138 (.addr 1 (.tmp 5)), .q 139 (.load 1 false (.tmp 138)), .q 140 (.len false (.tmp 139)), .q 141 (.bin .add (.tmp 140) (.val (.int .i64 1))), .q 142 (.slc 5 (.tmp 137) none (some (.tmp 141))), .q 143 (.mv (.tmp 1)), .q 144 (.mv (.tmp 4)), .q 145 (.call 10 [.tmp 142, .tmp 143, .tmp 144] 0), .q 135 (.mv (.tmp 145)), .q 146 (.ext 0 (.tmp 135)), .q 147 (.ext 1 (.tmp 135)), .q 21 (.mv (.tmp 146)), .q 17 (.mv (.tmp 147))]) (.seq (.reg none [.q 148 (.mv (.tmp 4)), .q 149 (.mv (.tmp 2)), .q 150 (.bin .eql (.tmp 148) (.tmp 149)), .q 151 (.mv (.tmp 150)), .g 152 (.mv (.tmp 13)) 151 false, .g 153 (.mv (.tmp 17)) 151 false, .g 154 (.bin .eql (.tmp 152) (.tmp 153)) 151 false, .g 155 (.mv (.tmp 154)) 151 false, .g 156 (.mv (.tmp 20)) 155 true, .g 157 (.mv (.tmp 21)) 155 true, .g 158 (.call 19 [.tmp 156, .tmp 157] 0) 155 true, .g 159 (.pick (.tmp 155) (.tmp 158) (.val (.bool false))) 151 false, .q 160 (.pick (.tmp 151) (.val (.bool true)) (.tmp 159)), .q 10 (.mv (.tmp 160))]) .ret)))))))))))))
def R5 : List LRes := [.tmp 10]
theorem low5 : Tryz.f5.body.bind (lowerCode Tryz.prog 161) = some L5 := by kernel_rfl
theorem res5 : lowerRes Tryz.prog Tryz.f5.results.toList = some R5 := by kernel_rfl
set_option maxRecDepth 100000 in
def L9 : LC := (.seq (.reg none [.q 4 (.mv (.val .nilsl)), .q 5 (.mv (.val (.int .i64 0)))]) (.seq (.reg none [.q 7 (.mv (.tmp 0)), .q 8 (.call 21 [.tmp 7] 0), .q 6 (.mv (.tmp 8))]) (.seq (.seq (.reg none [.q 9 (.mv (.tmp 6)), .q 10 (.bin .eql (.tmp 9) (.val (.int .i64 0))), .q 11 (.mv (.tmp 10)), .g 12 (.mv (.tmp 1)) 11 true, .g 13 (.call 38 [.tmp 12] 0) 11 true, .g 14 (.not (.tmp 13)) 11 true, .q 15 (.pick (.tmp 11) (.tmp 14) (.val (.bool false)))]) (.cond (.tmp 15) (.reg none [.q 6 (.mv (.val (.int .i64 3)))]) .skip)) (.seq (.seq (.reg none [.q 16 (.mv (.tmp 6)), .q 17 (.bin .neq (.tmp 16) (.val (.int .i64 0)))]) (.cond (.tmp 17) (.seq (.reg none [.q 18 (.mv (.tmp 6)), .q 4 (.mv (.val .nilsl)), .q 5 (.mv (.tmp 18))]) .ret) .skip)) (.seq (.reg none [.q 19 (.mv (.tmp 0)), .q 20 (.mv (.tmp 1)), .q 21 (.call 39 [.tmp 19, .tmp 20] 0), .q 4 (.mv (.tmp 21)), .q 5 (.mv (.val (.int .i64 0)))]) .ret)))))
def R9 : List LRes := [.tmp 4, .tmp 5]
theorem low9 : Tryz.f9.body.bind (lowerCode Tryz.prog 22) = some L9 := by kernel_rfl
theorem res9 : lowerRes Tryz.prog Tryz.f9.results.toList = some R9 := by kernel_rfl
set_option maxRecDepth 100000 in
def L10 : LC := (.seq (.reg none [.q 5 (.box (.tmp 2)), .q 6 (.mv (.val .nilsl)), .q 7 (.mv (.val (.int .i64 0)))]) (.seq (.reg none [.q 12 (.mv (.tmp 0)), .q 13 (.mv (.tmp 1)), .q 14 (.call 9 [.tmp 12, .tmp 13] 0), .q 11 (.mv (.tmp 14)), .q 15 (.ext 0 (.tmp 11)), .q 16 (.ext 1 (.tmp 11)), .q 8 (.mv (.tmp 15)), .q 9 (.mv (.tmp 16))]) (.seq (.seq (.reg none [.q 17 (.mv (.tmp 9)), .q 18 (.bin .eql (.tmp 17) (.val (.int .i64 0))), .q 19 (.mv (.tmp 18)), .g 20 (.load 1 false (.tmp 5)) 19 true, .g 21 (.call 40 [.tmp 20] 0) 19 true, .g 22 (.not (.tmp 21)) 19 true, .q 23 (.pick (.tmp 19) (.tmp 22) (.val (.bool false)))]) (.cond (.tmp 23) (.reg none [.q 9 (.mv (.val (.int .i64 1)))]) .skip)) (.seq (.seq (.reg none [.q 24 (.mv (.tmp 9)), .q 25 (.bin .neq (.tmp 24) (.val (.int .i64 0)))]) (.cond (.tmp 25) (.seq (.reg none [.q 26 (.mv (.tmp 9)), .q 6 (.mv (.val .nilsl)), .q 7 (.mv (.tmp 26))]) .ret) .skip)) (.seq (.reg none [.q 27 (.mv (.tmp 8)), .q 28 (.clo 42 [.tmp 5]), .q 29 (.call 41 [.tmp 27, .tmp 28] 0), .q 10 (.mv (.tmp 29))]) (.seq (.seq (.reg none [.q 30 (.mv (.tmp 10)), .q 31 (.bin .lss (.tmp 30) (.val (.int .i64 0)))]) (.cond (.tmp 31) (.seq (.reg none [.q 6 (.mv (.val .nilsl)), .q 7 (.mv (.val (.int .i64 0)))]) .ret) .skip)) (.seq (.reg none [.q 32 (.mv (.tmp 8)), .q 33 (.mv (.tmp 10)), .q 34 (.iaddrS 2 (.tmp 32) (.tmp 33)), .q 35 (.addr 1 (.tmp 34)), .q 36 (.load 1 false (.tmp 35)), .q 6 (.mv (.tmp 36)), .q 7 (.mv (.val (.int .i64 0)))]) .ret)))))))
def R10 : List LRes := [.tmp 6, .tmp 7]
theorem low10 : Tryz.f10.body.bind (lowerCode Tryz.prog 37) = some L10 := by kernel_rfl
theorem res10 : lowerRes Tryz.prog Tryz.f10.results.toList = some R10 := by kernel_rfl
set_option maxRecDepth 100000 in
def L11 : LC := (.seq (.reg none [.q 2 (.mv (.val (.int .i64 0))), .q 3 (.mv (.val (.str ⟨#[]⟩))), .q 4 (.mv (.val (.str ⟨#[]⟩))), .q 5 (.mv (.val (.int .i64 0)))]) (.seq (.reg none [.q 8 (.mv (.tmp 0)), .q 9 (.call 43 [.tmp 8, .val (.str ⟨#[32]⟩)] 0), .q 6 (.mv (.tmp 9))]) (.seq (.reg none [.q 10 (.mv (.tmp 6)), .q 11 (.slc 1 (.tmp 10) (some (.val (.int .i64 1))) none), .q 12 (.call 44 [.tmp 11, .val (.clo 45 [])] 0), .q 7 (.mv (.tmp 12))]) (.seq (.block 0 (.seq (.reg none [.q 14 (.mv (.tmp 7)), .q 13 (.mv (.tmp 14))]) (.cond (.tmp 13) .skip (.seq (.reg none [.q 16 (.mv (.tmp 6)), .q 17 (.len false (.tmp 16)), .q 18 (.bin .eql (.tmp 17) (.val (.int .i64 3))), .q 19 (.mv (.tmp 18)), .g 20 (.mv (.tmp 6)) 19 true, .g 21 (.iaddrS 1 (.tmp 20) (.val (.int .i64 0))) 19 true, .g 22 (.load 1 false (.tmp 21)) 19 true, .g 23 (.bin .eql (.tmp 22) (.val (.str ⟨#[112, 117, 116]⟩))) 19 true, .q 24 (.pick (.tmp 19) (.tmp 23) (.val (.bool false))), .q 15 (.mv (.tmp 24))]) (.cond (.tmp 15) (.seq (.reg (some []) [.q 25 (.mv (.tmp 6)), .z 26 (.iaddrS 1 (.tmp 25) (.val (.int .i64 1))), .z 27 (.load 1 false (.tmp 26)), .q 28 (.mv (.tmp 6)), .z 29 (.iaddrS 1 (.tmp 28) (.val (.int .i64 2))), .z 30 (.load 1 false (.tmp 29)), .q 2 (.mv (.val (.int .i64 1))), .q 3 (.mv (.tmp 27)), .q 4 (.mv (.tmp 30)), .q 5 (.mv (.val (.int .i64 0)))]) .ret) (.seq (.reg none [.q 32 (.mv (.tmp 6)), .q 33 (.len false (.tmp 32)), .q 34 (.bin .eql (.tmp 33) (.val (.int .i64 2))), .q 35 (.mv (.tmp 34)), .g 36 (.mv (.tmp 6)) 35 true, .g 37 (.iaddrS 1 (.tmp 36) (.val (.int .i64 0))) 35 true, .g 38 (.load 1 false (.tmp 37)) 35 true, .g 39 (.bin .eql (.tmp 38) (.val (.str ⟨#[100, 114, 111, 112]⟩))) 35 true, .q 40 (.pick (.tmp 35) (.tmp 39) (.val (.bool false))), .q 31 (.mv (.tmp 40))]) (.cond (.tmp 31) (.seq (.reg (some []) [.q 41 (.mv (.tmp 6)), .q 42 (.iaddrS 1 (.tmp 41) (.val (.int .i64 1))), .q 43 (.load 1 false (.tmp 42)), .q 2 (.mv (.val (.int .i64 2))), .q 3 (.mv (.tmp 43)), .q 4 (.mv (.val (.str ⟨#[]⟩))), .q 5 (.mv (.val (.int .i64 0)))]) .ret) .skip))))))) (.seq (.reg none [.q 2 (.mv (.val (.int .i64 0))), .q 3 (.mv (.val (.str ⟨#[]⟩))), .q 4 (.mv (.val (.str ⟨#[]⟩))), .q 5 (.mv (.val (.int .i64 1)))]) .ret)))))
def R11 : List LRes := [.tmp 2, .tmp 3, .tmp 4, .tmp 5]
theorem low11 : Tryz.f11.body.bind (lowerCode Tryz.prog 44) = some L11 := by kernel_rfl
theorem res11 : lowerRes Tryz.prog Tryz.f11.results.toList = some R11 := by kernel_rfl
set_option maxRecDepth 100000 in
def L13 : LC := (.seq (.reg none [.q 2 (.mv (.val (.bool false)))]) (.seq (.seq (.reg none [.q 3 (.mv (.val (.int .i64 0)))]) (.block 0 (.loop (.seq (.seq (.reg none [.q 4 (.mv (.tmp 3)), .q 5 (.mv (.tmp 0)), .q 6 (.len true (.tmp 5)), .q 7 (.bin .lss (.tmp 4) (.tmp 6))]) (.cond (.tmp 7) .skip (.exit 0))) (.seq (.block 1 (.seq (.reg none [.q 10 (.mv (.tmp 0)), .q 11 (.mv (.tmp 3)), .q 12 (.idxS (.tmp 10) (.tmp 11)), .q 13 (.conv .i64 (.tmp 12)), .q 14 (.call 49 [.tmp 13, .val (.int .i64 97), .val (.int .i64 122)] 0), .q 15 (.not (.tmp 14)), .q 16 (.mv (.tmp 15)), .g 17 (.mv (.tmp 0)) 16 true, .g 18 (.mv (.tmp 3)) 16 true, .g 19 (.idxS (.tmp 17) (.tmp 18)) 16 true, .g 20 (.conv .i64 (.tmp 19)) 16 true, .g 21 (.call 49 [.tmp 20, .val (.int .i64 48), .val (.int .i64 57)] 0) 16 true, .g 22 (.not (.tmp 21)) 16 true, .q 23 (.pick (.tmp 16) (.tmp 22) (.val (.bool false)))]) (.cond (.tmp 23) (.seq (.reg none [.q 2 (.mv (.val (.bool false)))]) .ret) .skip))) (.reg none [.q 8 (.mv (.tmp 3)), .q 9 (.bin .add (.tmp 8) (.val (.int .i64 1))), .q 3 (.mv (.tmp 9))])))))) (.seq (.reg none [.q 24 (.mv (.tmp 0)), .q 25 (.len true (.tmp 24)), .q 26 (.call 49 [.tmp 25, .val (.int .i64 1), .val (.int .i64 3)] 0), .q 2 (.mv (.tmp 26))]) .ret)))
def R13 : List LRes := [.tmp 2]
theorem low13 : Tryz.f13.body.bind (lowerCode Tryz.prog 27) = some L13 := by kernel_rfl
theorem res13 : lowerRes Tryz.prog Tryz.f13.results.toList = some R13 := by kernel_rfl
set_option maxRecDepth 100000 in
def L17 : LC := (.seq (.reg none [.q 0 (.mv (.val (.bool false)))]) (.seq (.reg none [.q 14 (.call 53 [] 0), .q 15 (.call 9 [.tmp 14, .val (.int .i64 3)] 0), .q 13 (.mv (.tmp 15)), .q 16 (.ext 0 (.tmp 13)), .q 17 (.ext 1 (.tmp 13)), .q 1 (.mv (.tmp 16)), .q 2 (.mv (.tmp 17))]) (.seq (.reg none [.q 19 (.call 53 [] 0), .q 20 (.call 10 [.tmp 19, .val (.int .i64 3), .val (.str ⟨#[97]⟩)] 0), .q 18 (.mv (.tmp 20)), .q 21 (.ext 0 (.tmp 18)), .q 22 (.ext 1 (.tmp 18)), .q 3 (.mv (.tmp 21)), .q 4 (.mv (.tmp 22))]) (.seq (.reg none [.q 24 (.call 11 [.val (.str ⟨#[112, 117, 116, 32, 97, 98, 32, 99, 49]⟩)] 0), .q 23 (.mv (.tmp 24)), .q 25 (.ext 0 (.tmp 23)), .q 26 (.ext 1 (.tmp 23)), .q 27 (.ext 2 (.tmp 23)), .q 28 (.ext 3 (.tmp 23)), .q 5 (.mv (.tmp 25)), .q 6 (.mv (.tmp 26)), .q 7 (.mv (.tmp 27)), .q 8 (.mv (.tmp 28))]) (.seq (.reg none [.q 30 (.call 11 [.val (.str ⟨#[112, 117, 116, 32, 97, 98]⟩)] 0), .q 29 (.mv (.tmp 30)), .q 31 (.ext 0 (.tmp 29)), .q 32 (.ext 1 (.tmp 29)), .q 33 (.ext 2 (.tmp 29)), .q 34 (.ext 3 (.tmp 29)), .q 9 (.mv (.tmp 31)), .q 10 (.mv (.tmp 32)), .q 11 (.mv (.tmp 33)), .q 12 (.mv (.tmp 34))]) (.seq (.reg none [.q 35 (.mv (.tmp 2)), .q 36 (.bin .eql (.tmp 35) (.val (.int .i64 0))), .q 37 (.mv (.tmp 36)), .g 38 (.mv (.tmp 4)) 37 true, .g 39 (.bin .eql (.tmp 38) (.val (.int .i64 0))) 37 true, .q 40 (.pick (.tmp 37) (.tmp 39) (.val (.bool false))), .q 41 (.mv (.tmp 40)), .g 42 (.mv (.tmp 8)) 41 true, .g 43 (.bin .eql (.tmp 42) (.val (.int .i64 0))) 41 true, .q 44 (.pick (.tmp 41) (.tmp 43) (.val (.bool false))), .q 45 (.mv (.tmp 44)), .g 46 (.mv (.tmp 12)) 45 true, .g 47 (.bin .eql (.tmp 46) (.val (.int .i64 1))) 45 true, .q 48 (.pick (.tmp 45) (.tmp 47) (.val (.bool false))), .q 49 (.mv (.tmp 48)), .g 50 (.mv (.tmp 1)) 49 true, .g 51 (.len false (.tmp 50)) 49 true, .g 52 (.bin .eql (.tmp 51) (.val (.int .i64 2))) 49 true, .q 53 (.pick (.tmp 49) (.tmp 52) (.val (.bool false))), .q 54 (.mv (.tmp 53)), .g 55 (.mv (.tmp 1)) 54 true, .g 56 (.iaddrS 2 (.tmp 55) (.val (.int .i64 1))) 54 true, .g 57 (.addr 0 (.tmp 56)) 54 true, .g 58 (.load 1 false (.tmp 57)) 54 true, .g 59 (.bin .eql (.tmp 58) (.val (.str ⟨#[98]⟩))) 54 true, .q 60 (.pick (.tmp 54) (.tmp 59) (.val (.bool false))), .q 61 (.mv (.tmp 60)), .g 62 (.mv (.tmp 3)) 61 true, .g 63 (.mksA 9 1 [.str ⟨#[]⟩] 1 [(0, (.val (.str ⟨#[121]⟩)))]) 61 true, .g 64 (.call 19 [.tmp 62, .tmp 63] 0) 61 true, .q 65 (.pick (.tmp 61) (.tmp 64) (.val (.bool false))), .q 66 (.mv (.tmp 65)), .g 67 (.mv (.tmp 5)) 66 true, .g 68 (.bin .eql (.tmp 67) (.val (.int .i64 1))) 66 true, .q 69 (.pick (.tmp 66) (.tmp 68) (.val (.bool false))), .q 70 (.mv (.tmp 69)), .g 71 (.mv (.tmp 6)) 70 true, .g 72 (.bin .eql (.tmp 71) (.val (.str ⟨#[97, 98]⟩))) 70 true, .q 73 (.pick (.tmp 70) (.tmp 72) (.val (.bool false))), .q 74 (.mv (.tmp 73)), .g 75 (.mv (.tmp 7)) 74 true, .g 76 (.bin .eql (.tmp 75) (.val (.str ⟨#[99, 49]⟩))) 74 true, .q 77 (.pick (.tmp 74) (.tmp 76) (.val (.bool false))), .q 0 (.mv (.tmp 77))]) .ret))))))
def R17 : List LRes := [.tmp 0]
theorem low17 : Tryz.f17.body.bind (lowerCode Tryz.prog 78) = some L17 := by kernel_rfl
theorem res17 : lowerRes Tryz.prog Tryz.f17.results.toList = some R17 := by kernel_rfl
set_option maxRecDepth 100000 in
def L19 : LC := (.seq (.reg none [.q 4 (.mv (.val (.bool false)))]) (.seq (.seq (.reg none [.q 6 (.mv (.tmp 0)), .q 7 (.len false (.tmp 6)), .q 8 (.mv (.tmp 1)), .q 9 (.len false (.tmp 8)), .q 10 (.bin .neq (.tmp 7) (.tmp 9))]) (.cond (.tmp 10) (.seq (.reg none [.q 4 (.mv (.val (.bool false)))]) .ret) .skip)) (.seq (.seq (.reg none [.q 5 (.mv (.val (.int .i64 0)))]) (.block 0 (.loop (.seq (.seq (.reg none [.q 11 (.mv (.tmp 5)), .q 12 (.mv (.tmp 0)), .q 13 (.len false (.tmp 12)), .q 14 (.bin .lss (.tmp 11) (.tmp 13))]) (.cond (.tmp 14) .skip (.exit 0))) (.seq (.block 1 (.seq (.reg (some []) [.q 17 (.mv (.tmp 0)), .q 18 (.mv (.tmp 5)), .z 19 (.iaddrS 1 (.tmp 17) (.tmp 18)), .z 20 (.load 1 false (.tmp 19)), .q 21 (.mv (.tmp 1)), .q 22 (.mv (.tmp 5)), .z 23 (.iaddrS 1 (.tmp 21) (.tmp 22)), .z 24 (.load 1 false (.tmp 23)), .q 25 (.bin .neq (.tmp 20) (.tmp 24))]) (.cond (.tmp 25) (.seq (.reg none [.q 4 (.mv (.val (.bool false)))]) .ret) .skip))) (.reg none [.q 15 (.mv (.tmp 5)), .q 16 (.bin .add (.tmp 15) (.val (.int .i64 1))), .q 5 (.mv (.tmp 16))])))))) (.seq (.reg none [.q 4 (.mv (.val (.bool true)))]) .ret))))
def R19 : List LRes := [.tmp 4]
theorem low19 : Tryz.f19.body.bind (lowerCode Tryz.prog 26) = some L19 := by kernel_rfl
theorem res19 : lowerRes Tryz.prog Tryz.f19.results.toList = some R19 := by kernel_rfl
set_option maxRecDepth 100000 in
def L21 : LC := (.seq (.reg none [.q 2 (.mv (.val (.int .i64 0)))]) (.seq (.seq (.reg none [.q 6 (.mv (.tmp 0)), .q 7 (.len false (.tmp 6)), .q 8 (.bin .gtr (.tmp 7) (.val (.int .i64 40)))]) (.cond (.tmp 8) (.seq (.reg none [.q 2 (.mv (.val (.int .i64 2)))]) .ret) .skip)) (.seq (.seq (.reg none [.q 9 (.mv (.tmp 0)), .q 10 (.len false (.tmp 9)), .q 11 (.mv (.val (.int .i64 0)))]) (.block 0 (.loop (.seq (.reg none [.q 12 (.bin .lss (.tmp 11) (.tmp 10))]) (.seq (.cond (.tmp 12) .skip (.exit 0)) (.seq (.block 1 (.seq (.reg none [.q 13 (.mv (.tmp 11)), .q 14 (.iaddrS 5 (.tmp 9) (.tmp 11)), .q 15 (.load 5 true (.tmp 14)), .q 4 (.alloc [.int .i64 0, .int .i64 0, .int .i64 0, .str ⟨#[]⟩, .nilsl]), .q 3 (.mv (.tmp 13)), .s (.store 5 (.tmp 4) (.tmp 15))]) (.seq (.seq (.reg none [.q 16 (.load 5 true (.tmp 4)), .q 17 (.call 59 [.tmp 16] 0), .q 5 (.mv (.tmp 17))]) (.seq (.reg none [.q 18 (.mv (.tmp 5)), .q 19 (.bin .neq (.tmp 18) (.val (.int .i64 0)))]) (.cond (.tmp 19) (.seq (.reg none [.q 20 (.mv (.tmp 5)), .q 2 (.mv (.tmp 20))]) .ret) .skip))) (.block 2 (.seq (.reg (some []) [.q 22 (.mv (.tmp 0)), .q 23 (.mv (.tmp 3)), .z 24 (.slc 5 (.tmp 22) none (some (.tmp 23))), .z 25 (.addr 0 (.tmp 4)), .z 26 (.load 2 true (.tmp 25)), .q 27 (.call 60 [.tmp 24, .tmp 26] 0), .q 28 (.bin .geq (.tmp 27) (.val (.int .i64 0))), .q 21 (.mv (.tmp 28))]) (.cond (.tmp 21) (.seq (.reg none [.q 2 (.mv (.val (.int .i64 6)))]) .ret) (.seq (.reg (some []) [.q 30 (.mv (.tmp 0)), .q 31 (.mv (.tmp 3)), .z 32 (.slc 5 (.tmp 30) none (some (.tmp 31))), .z 33 (.call 61 [.tmp 32] 0), .z 34 (.addr 0 (.tmp 4)), .z 35 (.addr 0 (.tmp 34)), .z 36 (.load 1 false (.tmp 35)), .q 37 (.idxA 1 2 false (.tmp 33) (.tmp 36)), .q 38 (.bin .add (.tmp 37) (.val (.int .i64 1))), .z 39 (.addr 0 (.tmp 4)), .z 40 (.addr 1 (.tmp 39)), .z 41 (.load 1 false (.tmp 40)), .q 42 (.bin .neq (.tmp 38) (.tmp 41)), .q 29 (.mv (.tmp 42))]) (.cond (.tmp 29) (.seq (.reg none [.q 2 (.mv (.val (.int .i64 4)))]) .ret) (.seq (.reg (some []) [.q 44 (.mv (.tmp 0)), .q 45 (.mv (.tmp 3)), .z 46 (.slc 5 (.tmp 44) none (some (.tmp 45))), .z 47 (.load 5 true (.tmp 4)), .q 48 (.call 62 [.tmp 46, .tmp 47] 0), .q 49 (.not (.tmp 48)), .q 43 (.mv (.tmp 49))]) (.cond (.tmp 43) (.seq (.reg none [.q 2 (.mv (.val (.int .i64 5)))]) .ret) .skip)))))))))) (.reg none [.q 50 (.bin .add (.tmp 11) (.val (.int .i64 1))), .q 11 (.mv (.tmp 50))]))))))) (.seq (.reg none [.q 2 (.mv (.val (.int .i64 0)))]) .ret))))
def R21 : List LRes := [.tmp 2]
theorem low21 : Tryz.f21.body.bind (lowerCode Tryz.prog 51) = some L21 := by kernel_rfl
theorem res21 : lowerRes Tryz.prog Tryz.f21.results.toList = some R21 := by kernel_rfl
set_option maxRecDepth 100000 in
def L22 : LC := (.seq (.reg none [.q 0 (.mv (.val (.bool false)))]) (.seq (.reg none [.q 14 (.call 63 [.val (.int .i64 1)] 0), .q 13 (.mv (.tmp 14)), .q 15 (.ext 0 (.tmp 13)), .q 16 (.ext 1 (.tmp 13)), .q 1 (.alloc [.int .i64 0, .nilsl, .nilsl]), .s (.store 3 (.tmp 1) (.tmp 15)), .q 2 (.mv (.tmp 16))]) (.seq (.reg (some [(0, 8), (1, 8), (2, 8), (3, 8), (4, 8)]) [.z 18 (.load 3 true (.tmp 1)), .z 19 (.call 53 [] 0), .z 20 (.iaddrS 5 (.tmp 19) (.val (.int .i64 2))), .z 21 (.load 5 true (.tmp 20)), .z 22 (.call 64 [.tmp 18, .tmp 21] 0), .q 17 (.mv (.tmp 22)), .q 23 (.ext 0 (.tmp 17)), .q 24 (.ext 1 (.tmp 17)), .z 3 (.alloc [.int .i64 0, .nilsl, .nilsl]), .s (.store 3 (.tmp 3) (.tmp 23)), .q 4 (.mv (.tmp 24))]) (.seq (.reg (some [(0, 8), (1, 8), (2, 8), (3, 8), (4, 8)]) [.z 26 (.load 3 true (.tmp 3)), .z 27 (.call 53 [] 0), .z 28 (.iaddrS 5 (.tmp 27) (.val (.int .i64 0))), .z 29 (.load 5 true (.tmp 28)), .z 30 (.call 64 [.tmp 26, .tmp 29] 0), .q 25 (.mv (.tmp 30)), .q 31 (.ext 0 (.tmp 25)), .q 32 (.ext 1 (.tmp 25)), .z 5 (.alloc [.int .i64 0, .nilsl, .nilsl]), .s (.store 3 (.tmp 5) (.tmp 31)), .q 6 (.mv (.tmp 32))]) (.seq (.reg none [.q 34 (.load 3 true (.tmp 5)), .q 35 (.call 23 [.tmp 34, .val (.int .i64 4), .val (.str ⟨#[116]⟩)] 0), .q 33 (.mv (.tmp 35)), .q 36 (.ext 0 (.tmp 33)), .q 37 (.ext 1 (.tmp 33)), .q 38 (.ext 2 (.tmp 33)), .q 7 (.alloc [.int .i64 0, .nilsl, .nilsl]), .q 8 (.alloc [.int .i64 0, .int .i64 0, .int .i64 0, .str ⟨#[]⟩, .nilsl]), .s (.store 3 (.tmp 7) (.tmp 36)), .s (.store 5 (.tmp 8) (.tmp 37)), .q 9 (.mv (.tmp 38))]) (.seq (.reg none [.q 40 (.load 3 true (.tmp 7)), .q 41 (.call 23 [.tmp 40, .val (.int .i64 1), .val (.str ⟨#[117]⟩)] 0), .q 39 (.mv (.tmp 41)), .q 42 (.ext 0 (.tmp 39)), .q 43 (.ext 1 (.tmp 39)), .q 44 (.ext 2 (.tmp 39)), .q 10 (.alloc [.int .i64 0, .nilsl, .nilsl]), .q 11 (.alloc [.int .i64 0, .int .i64 0, .int .i64 0, .str ⟨#[]⟩, .nilsl]), .s (.store 3 (.tmp 10) (.tmp 42)), .s (.store 5 (.tmp 11) (.tmp 43)), .q 12 (.mv (.tmp 44))]) (.seq (.reg (some []) [.q 45 (.mv (.tmp 2)), .q 46 (.bin .eql (.tmp 45) (.val (.int .i64 0))), .q 47 (.mv (.tmp 46)), .g 48 (.mv (.tmp 4)) 47 true, .g 49 (.bin .eql (.tmp 48) (.val (.int .i64 0))) 47 true, .q 50 (.pick (.tmp 47) (.tmp 49) (.val (.bool false))), .q 51 (.mv (.tmp 50)), .g 52 (.mv (.tmp 6)) 51 true, .g 53 (.bin .eql (.tmp 52) (.val (.int .i64 0))) 51 true, .q 54 (.pick (.tmp 51) (.tmp 53) (.val (.bool false))), .q 55 (.mv (.tmp 54)), .g 56 (.mv (.tmp 9)) 55 true, .g 57 (.bin .eql (.tmp 56) (.val (.int .i64 0))) 55 true, .q 58 (.pick (.tmp 55) (.tmp 57) (.val (.bool false))), .q 59 (.mv (.tmp 58)), .g 60 (.mv (.tmp 12)) 59 true, .g 61 (.bin .eql (.tmp 60) (.val (.int .i64 0))) 59 true, .q 62 (.pick (.tmp 59) (.tmp 61) (.val (.bool false))), .q 63 (.mv (.tmp 62)), .g 64 (.load 3 true (.tmp 10)) 63 true, .g 65 (.call 65 [.tmp 64] 0) 63 true, .g 66 (.bin .eql (.tmp 65) (.val (.int .i64 0))) 63 true, .q 67 (.pick (.tmp 63) (.tmp 66) (.val (.bool false))), .q 68 (.mv (.tmp 67)), .g 69 (.addr 1 (.tmp 3)) 68 true, .g 70 (.load 1 false (.tmp 69)) 68 true, .g 71 (.len false (.tmp 70)) 68 true, .g 72 (.bin .eql (.tmp 71) (.val (.int .i64 0))) 68 true, .q 73 (.pick (.tmp 68) (.tmp 72) (.val (.bool false))), .q 74 (.mv (.tmp 73)), .g 75 (.addr 2 (.tmp 3)) 74 true, .g 76 (.load 1 false (.tmp 75)) 74 true, .g 77 (.len false (.tmp 76)) 74 true, .g 78 (.bin .eql (.tmp 77) (.val (.int .i64 1))) 74 true, .q 79 (.pick (.tmp 74) (.tmp 78) (.val (.bool false))), .q 80 (.mv (.tmp 79)), .g 81 (.addr 1 (.tmp 5)) 80 true, .g 82 (.load 1 false (.tmp 81)) 80 true, .g 83 (.len false (.tmp 82)) 80 true, .g 84 (.bin .eql (.tmp 83) (.val (.int .i64 2))) 80 true, .q 85 (.pick (.tmp 80) (.tmp 84) (.val (.bool false))), .q 86 (.mv (.tmp 85)), .g 87 (.addr 2 (.tmp 5)) 86 true, .g 88 (.load 1 false (.tmp 87)) 86 true, .g 89 (.len false (.tmp 88)) 86 true, .g 90 (.bin .eql (.tmp 89) (.val (.int .i64 0))) 86 true, .q 91 (.pick (.tmp 86) (.tmp 90) (.val (.bool false))), .q 92 (.mv (.tmp 91)), .g 93 (.addr 4 (.tmp 8)) 92 true, .g 94 (.load 1 false (.tmp 93)) 92 true, .g 95 (.len false (.tmp 94)) 92 true, .g 96 (.bin .eql (.tmp 95) (.val (.int .i64 0))) 92 true, .q 97 (.pick (.tmp 92) (.tmp 96) (.val (.bool false))), .q 98 (.mv (.tmp 97)), .y 99 (.addr 4 (.tmp 11)) 98 true, .y 100 (.load 1 false (.tmp 99)) 98 true, .y 101 (.call 55 [.val (.int .i64 0), .val (.int .i64 2)] 0) 98 true, .g 102 (.mks 2 [.int .i64 0, .int .i64 0] 1 [(0, (.tmp 101))]) 98 true, .g 103 (.call 58 [.tmp 100, .tmp 102] 0) 98 true, .q 104 (.pick (.tmp 98) (.tmp 103) (.val (.bool false))), .q 105 (.mv (.tmp 104)), .y 106 (.addr 0 (.tmp 11)) 105 true, .y 107 (.load 2 true (.tmp 106)) 105 true, .y 108 (.call 55 [.val (.int .i64 1), .val (.int .i64 2)] 0) 105 true, .g 109 (.eqag false [.i, .i] (.tmp 107) (.tmp 108)) 105 true, .q 110 (.pick (.tmp 105) (.tmp 109) (.val (.bool false))), .q 0 (.mv (.tmp 110))]) .ret)))))))
def R22 : List LRes := [.tmp 0]
theorem low22 : Tryz.f22.body.bind (lowerCode Tryz.prog 111) = some L22 := by kernel_rfl
theorem res22 : lowerRes Tryz.prog Tryz.f22.results.toList = some R22 := by kernel_rfl
set_option maxRecDepth 100000 in
def L23 : LC := (.seq (.reg none [.q 3 (.box (.tmp 0)), .q 6 (.alloc [.int .i64 0, .nilsl, .nilsl]), .q 7 (.alloc [.int .i64 0, .int .i64 0, .int .i64 0, .str ⟨#[]⟩, .nilsl]), .q 8 (.mv (.val (.int .i64 0)))]) (.seq (.seq (.reg none [.q 10 (.load 3 true (.tmp 3)), .q 11 (.call 65 [.tmp 10] 0), .q 9 (.mv (.tmp 11))]) (.seq (.reg none [.q 12 (.mv (.tmp 9)), .q 13 (.bin .neq (.tmp 12) (.val (.int .i64 0)))]) (.cond (.tmp 13) (.seq (.reg none [.q 14 (.build [.int .i64 0, .nilsl, .nilsl] []), .q 15 (.build [.int .i64 0, .int .i64 0, .int .i64 0, .str ⟨#[]⟩, .nilsl] []), .q 16 (.mv (.tmp 9)), .s (.store 3 (.tmp 6) (.tmp 14)), .s (.store 5 (.tmp 7) (.tmp 15)), .q 8 (.mv (.tmp 16))]) .ret) .skip))) (.seq (.reg none [.q 17 (.load 3 true (.tmp 3)), .q 18 (.mv (.tmp 1)), .q 19 (.mv (.tmp 2)), .q 20 (.call 66 [.tmp 17, .tmp 18, .tmp 19] 0), .q 21 (.ext 0 (.tmp 20)), .q 22 (.ext 1 (.tmp 20)), .q 23 (.ext 2 (.tmp 20)), .s (.store 3 (.tmp 6) (.tmp 21)), .s (.store 5 (.tmp 7) (.tmp 22)), .q 8 (.mv (.tmp 23))]) .ret)))
def R23 : List LRes := [(.cell 6 3 true), (.cell 7 5 true), .tmp 8]
theorem low23 : Tryz.f23.body.bind (lowerCode Tryz.prog 24) = some L23 := by kernel_rfl
theorem res23 : lowerRes Tryz.prog Tryz.f23.results.toList = some R23 := by kernel_rfl
set_option maxRecDepth 100000 in
def L38 : LC := (.seq (.reg none [.q 2 (.mv (.val (.bool false)))]) (.seq (.reg none [.q 3 (.mv (.tmp 0)), .q 4 (.call 83 [.tmp 3, .val (.int .i64 1), .val (.int .i64 7)] 0), .q 2 (.mv (.tmp 4))]) .ret))
def R38 : List LRes := [.tmp 2]
theorem low38 : Tryz.f38.body.bind (lowerCode Tryz.prog 5) = some L38 := by kernel_rfl
theorem res38 : lowerRes Tryz.prog Tryz.f38.results.toList = some R38 := by kernel_rfl
set_option maxRecDepth 100000 in
def L39 : LC := (.seq (.reg none [.q 4 (.mv (.val .nilsl))]) (.seq (.reg none [.q 12 (.mv (.tmp 0)), .q 13 (.call 84 [.tmp 12] 0), .q 5 (.alloc [.nilp]), .s (.store 1 (.tmp 5) (.tmp 13))]) (.seq (.reg none [.q 14 (.mv (.tmp 0)), .q 15 (.mv (.tmp 1)), .q 16 (.call 85 [.tmp 14, .tmp 15] 0), .q 6 (.alloc [.nilsl]), .s (.store 1 (.tmp 6) (.tmp 16))]) (.seq (.reg none [.q 17 (.load 1 false (.tmp 6)), .q 18 (.call 87 [.tmp 17] 0), .q 19 (.clo 88 [.tmp 6, .tmp 5]), .q 20 (.call 86 [.tmp 18, .tmp 19] 1), .q 7 (.mv (.tmp 20))]) (.seq (.reg none [.q 21 (.mv (.tmp 7)), .q 22 (.call 92 [.tmp 21, .val (.clo 93 [])] 1)]) (.seq (.reg none [.q 8 (.mv (.val .nilsl))]) (.seq (.seq (.reg none [.q 23 (.mv (.tmp 7)), .q 24 (.len false (.tmp 23)), .q 25 (.mv (.val (.int .i64 0)))]) (.block 0 (.loop (.seq (.reg none [.q 26 (.bin .lss (.tmp 25) (.tmp 24))]) (.seq (.cond (.tmp 26) .skip (.exit 0)) (.seq (.block 1 (.seq (.reg none [.q 27 (.iaddrS 5 (.tmp 23) (.tmp 25)), .q 28 (.load 5 true (.tmp 27)), .q 10 (.alloc [.int .i64 0, .int .i64 0, .str ⟨#[]⟩, .str ⟨#[]⟩, (.bool false)]), .s (.store 5 (.tmp 10) (.tmp 28))]) (.seq (.reg none [.q 29 (.mv (.tmp 8)), .q 30 (.len false (.tmp 29)), .q 31 (.bin .sub (.tmp 30) (.val (.int .i64 1))), .q 11 (.mv (.tmp 31))]) (.block 2 (.seq (.reg (some []) [.q 33 (.mv (.tmp 11)), .q 34 (.bin .lss (.tmp 33) (.val (.int .i64 0))), .q 35 (.mv (.tmp 34)), .g 36 (.mv (.tmp 8)) 35 false, .g 37 (.mv (.tmp 11)) 35 false, .y 38 (.iaddrS 2 (.tmp 36) (.tmp 37)) 35 false, .y 39 (.addr 0 (.tmp 38)) 35 false, .y 40 (.load 1 false (.tmp 39)) 35 false, .y 41 (.addr 2 (.tmp 10)) 35 false, .y 42 (.load 1 false (.tmp 41)) 35 false, .g 43 (.bin .neq (.tmp 40) (.tmp 42)) 35 false, .q 44 (.pick (.tmp 35) (.val (.bool true)) (.tmp 43)), .q 32 (.mv (.tmp 44))]) (.cond (.tmp 32) (.reg none [.q 45 (.mv (.tmp 8)), .q 46 (.addr 2 (.tmp 10)), .q 47 (.load 1 false (.tmp 46)), .q 48 (.addr 3 (.tmp 10)), .q 49 (.load 1 false (.tmp 48)), .q 50 (.mksA 9 1 [.str ⟨#[]⟩] 1 [(0, (.tmp 49))]), .q 51 (.build [.str ⟨#[]⟩, .nilsl] [(0, (1, (.tmp 47))), (1, (1, (.tmp 50)))]), .q 52 (.mks 2 [.str ⟨#[]⟩, .nilsl] 1 [(0, (.tmp 51))]), .q 53 (.append 81 2 40 (.tmp 45) (.tmp 52)), .q 8 (.mv (.tmp 53))]) (.seq (.reg (some []) [.q 55 (.mv (.tmp 8)), .q 56 (.mv (.tmp 11)), .z 57 (.iaddrS 2 (.tmp 55) (.tmp 56)), .z 58 (.addr 1 (.tmp 57)), .z 59 (.load 1 false (.tmp 58)), .z 60 (.addr 3 (.tmp 10)), .z 61 (.load 1 false (.tmp 60)), .q 62 (.call 95 [.tmp 59, .tmp 61] 0), .q 63 (.not (.tmp 62)), .q 54 (.mv (.tmp 63))]) (.cond (.tmp 54) (.reg (some [(4, 9), (5, 9), (6, 9)]) [.q 64 (.mv (.tmp 8)), .q 65 (.mv (.tmp 11)), .q 66 (.mv (.tmp 8)), .q 67 (.mv (.tmp 11)), .z 68 (.iaddrS 2 (.tmp 66) (.tmp 67)), .z 69 (.addr 1 (.tmp 68)), .z 70 (.load 1 false (.tmp 69)), .z 71 (.addr 3 (.tmp 10)), .z 72 (.load 1 false (.tmp 71)), .z 73 (.mksA 9 1 [.str ⟨#[]⟩] 1 [(0, (.tmp 72))]), .q 74 (.append 9 1 16 (.tmp 70) (.tmp 73)), .q 75 (.iaddrS 2 (.tmp 64) (.tmp 65)), .q 76 (.addr 1 (.tmp 75)), .s (.store 1 (.tmp 76) (.tmp 74))]) .skip)))))))) (.reg none [.q 77 (.bin .add (.tmp 25) (.val (.int .i64 1))), .q 25 (.mv (.tmp 77))]))))))) (.seq (.reg none [.q 78 (.mv (.tmp 8)), .q 4 (.mv (.tmp 78))]) .ret))))))))
def R39 : List LRes := [.tmp 4]
theorem low39 : Tryz.f39.body.bind (lowerCode Tryz.prog 79) = some L39 := by kernel_rfl
theorem res39 : lowerRes Tryz.prog Tryz.f39.results.toList = some R39 := by kernel_rfl
set_option maxRecDepth 100000 in
def L40 : LC := (.seq (.reg none [.q 2 (.mv (.val (.bool false)))]) (.seq (.seq (.reg none [.q 5 (.mv (.tmp 0)), .q 6 (.len true (.tmp 5)), .q 7 (.mv (.val (.int .i64 0)))]) (.block 0 (.loop (.seq (.reg none [.q 8 (.bin .lss (.tmp 7) (.tmp 6))]) (.seq (.cond (.tmp 8) .skip (.exit 0)) (.seq (.block 1 (.seq (.reg none [.q 9 (.mv (.tmp 7)), .q 3 (.mv (.tmp 9))]) (.seq (.reg none [.q 10 (.mv (.tmp 0)), .q 11 (.mv (.tmp 3)), .q 12 (.idxS (.tmp 10) (.tmp 11)), .q 4 (.mv (.tmp 12))]) (.seq (.reg none [.q 13 (.mv (.tmp 4)), .q 14 (.bin .geq (.tmp 13) (.val (.int .u8 97))), .q 15 (.mv (.tmp 14)), .g 16 (.mv (.tmp 4)) 15 true, .g 17 (.bin .leq (.tmp 16) (.val (.int .u8 122))) 15 true, .q 18 (.pick (.tmp 15) (.tmp 17) (.val (.bool false))), .q 19 (.not (.tmp 18)), .q 20 (.mv (.tmp 19)), .g 21 (.mv (.tmp 4)) 20 true, .g 22 (.bin .geq (.tmp 21) (.val (.int .u8 48))) 20 true, .g 23 (.mv (.tmp 22)) 20 true, .g 24 (.mv (.tmp 4)) 23 true, .g 25 (.bin .leq (.tmp 24) (.val (.int .u8 57))) 23 true, .g 26 (.pick (.tmp 23) (.tmp 25) (.val (.bool false))) 20 true, .g 27 (.not (.tmp 26)) 20 true, .q 28 (.pick (.tmp 20) (.tmp 27) (.val (.bool false)))]) (.cond (.tmp 28) (.seq (.reg none [.q 2 (.mv (.val (.bool false)))]) .ret) .skip))))) (.reg none [.q 29 (.bin .add (.tmp 7) (.val (.int .i64 1))), .q 7 (.mv (.tmp 29))]))))))) (.seq (.reg none [.q 30 (.mv (.tmp 0)), .q 31 (.len true (.tmp 30)), .q 32 (.bin .geq (.tmp 31) (.val (.int .i64 1))), .q 33 (.mv (.tmp 32)), .g 34 (.mv (.tmp 0)) 33 true, .g 35 (.len true (.tmp 34)) 33 true, .g 36 (.bin .leq (.tmp 35) (.val (.int .i64 3))) 33 true, .q 37 (.pick (.tmp 33) (.tmp 36) (.val (.bool false))), .q 2 (.mv (.tmp 37))]) .ret)))
def R40 : List LRes := [.tmp 2]
theorem low40 : Tryz.f40.body.bind (lowerCode Tryz.prog 38) = some L40 := by kernel_rfl
theorem res40 : lowerRes Tryz.prog Tryz.f40.results.toList = some R40 := by kernel_rfl
set_option maxRecDepth 100000 in
def L41 : LC := (.seq (.reg none [.q 4 (.mv (.val (.int .i64 0)))]) (.seq (.seq (.reg none [.q 6 (.mv (.tmp 0)), .q 7 (.len false (.tmp 6)), .q 8 (.mv (.val (.int .i64 0)))]) (.block 0 (.loop (.seq (.reg none [.q 9 (.bin .lss (.tmp 8) (.tmp 7))]) (.seq (.cond (.tmp 9) .skip (.exit 0)) (.seq (.block 1 (.seq (.reg none [.q 10 (.mv (.tmp 8)), .q 5 (.mv (.tmp 10))]) (.seq (.reg none [.q 11 (.mv (.tmp 1)), .q 12 (.mv (.tmp 0)), .q 13 (.mv (.tmp 5)), .q 14 (.iaddrS 2 (.tmp 12) (.tmp 13)), .q 15 (.load 2 true (.tmp 14)), .q 16 (.callv (.tmp 11) [.tmp 15])]) (.cond (.tmp 16) (.seq (.reg none [.q 17 (.mv (.tmp 5)), .q 4 (.mv (.tmp 17))]) .ret) .skip)))) (.reg none [.q 18 (.bin .add (.tmp 8) (.val (.int .i64 1))), .q 8 (.mv (.tmp 18))]))))))) (.seq (.reg none [.q 4 (.mv (.val (.int .i64 (-1))))]) .ret)))
def R41 : List LRes := [.tmp 4]
theorem low41 : Tryz.f41.body.bind (lowerCode Tryz.prog 19) = some L41 := by kernel_rfl
theorem res41 : lowerRes Tryz.prog Tryz.f41.results.toList = some R41 := by kernel_rfl
set_option maxRecDepth 100000 in
def L42 : LC := (.seq (.reg none [.q 2 (.box (.tmp 0)), .q 3 (.mv (.val (.bool false)))]) (.seq (.reg none [.q 4 (.addr 0 (.tmp 2)), .q 5 (.load 1 false (.tmp 4)), .q 6 (.load 1 false (.tmp 1)), .q 7 (.bin .eql (.tmp 5) (.tmp 6)), .q 3 (.mv (.tmp 7))]) .ret))
def R42 : List LRes := [.tmp 3]
theorem low42 : Tryz.f42.body.bind (lowerCode Tryz.prog 8) = some L42 := by kernel_rfl
theorem res42 : lowerRes Tryz.prog Tryz.f42.results.toList = some R42 := by kernel_rfl
set_option maxRecDepth 100000 in
def L44 : LC := (.seq (.reg none [.q 4 (.mv (.val (.bool false)))]) (.seq (.reg none [.q 5 (.mv (.tmp 0)), .q 6 (.mv (.tmp 1)), .q 7 (.call 97 [.tmp 5, .tmp 6] 0), .q 8 (.bin .geq (.tmp 7) (.val (.int .i64 0))), .q 4 (.mv (.tmp 8))]) .ret))
def R44 : List LRes := [.tmp 4]
theorem low44 : Tryz.f44.body.bind (lowerCode Tryz.prog 9) = some L44 := by kernel_rfl
theorem res44 : lowerRes Tryz.prog Tryz.f44.results.toList = some R44 := by kernel_rfl
set_option maxRecDepth 100000 in
def L45 : LC := (.seq (.reg none [.q 2 (.mv (.val (.bool false)))]) (.seq (.reg none [.q 3 (.mv (.tmp 0)), .q 4 (.call 40 [.tmp 3] 0), .q 5 (.not (.tmp 4)), .q 2 (.mv (.tmp 5))]) .ret))
def R45 : List LRes := [.tmp 2]
theorem low45 : Tryz.f45.body.bind (lowerCode Tryz.prog 6) = some L45 := by kernel_rfl
theorem res45 : lowerRes Tryz.prog Tryz.f45.results.toList = some R45 := by kernel_rfl
set_option maxRecDepth 100000 in
def L49 : LC := (.seq (.reg none [.q 6 (.mv (.val (.bool false)))]) (.seq (.reg none [.q 7 (.mv (.tmp 0)), .q 8 (.mv (.tmp 1)), .q 9 (.bin .geq (.tmp 7) (.tmp 8)), .q 10 (.mv (.tmp 9)), .g 11 (.mv (.tmp 0)) 10 true, .g 12 (.mv (.tmp 2)) 10 true, .g 13 (.bin .leq (.tmp 11) (.tmp 12)) 10 true, .q 14 (.pick (.tmp 10) (.tmp 13) (.val (.bool false))), .q 6 (.mv (.tmp 14))]) .ret))
def R49 : List LRes := [.tmp 6]
theorem low49 : Tryz.f49.body.bind (lowerCode Tryz.prog 15) = some L49 := by kernel_rfl
theorem res49 : lowerRes Tryz.prog Tryz.f49.results.toList = some R49 := by kernel_rfl
set_option maxRecDepth 100000 in
def L53 : LC := (.seq (.reg none [.q 0 (.mv (.val .nilsl))]) (.seq (.reg none [.q 1 (.call 55 [.val (.int .i64 0), .val (.int .i64 1)] 0), .q 2 (.build [.int .i64 0, .int .i64 0, .int .i64 0, .str ⟨#[]⟩, .nilsl] [(0, (2, (.tmp 1))), (2, (1, (.val (.int .i64 1)))), (3, (1, (.val (.str ⟨#[112, 117, 116, 32, 97, 32, 120]⟩))))]), .q 3 (.call 55 [.val (.int .i64 1), .val (.int .i64 1)] 0), .q 4 (.build [.int .i64 0, .int .i64 0, .int .i64 0, .str ⟨#[]⟩, .nilsl] [(0, (2, (.tmp 3))), (2, (1, (.val (.int .i64 3)))), (3, (1, (.val (.str ⟨#[112, 117, 116, 32, 97, 32, 121]⟩))))]), .q 5 (.call 55 [.val (.int .i64 0), .val (.int .i64 2)] 0), .q 6 (.call 55 [.val (.int .i64 0), .val (.int .i64 1)] 0), .q 7 (.mks 2 [.int .i64 0, .int .i64 0] 1 [(0, (.tmp 6))]), .q 8 (.build [.int .i64 0, .int .i64 0, .int .i64 0, .str ⟨#[]⟩, .nilsl] [(0, (2, (.tmp 5))), (2, (1, (.val (.int .i64 3)))), (3, (1, (.val (.str ⟨#[100, 114, 111, 112, 32, 97]⟩)))), (4, (1, (.tmp 7)))]), .q 9 (.call 55 [.val (.int .i64 1), .val (.int .i64 2)] 0), .q 10 (.call 55 [.val (.int .i64 0), .val (.int .i64 2)] 0), .q 11 (.call 55 [.val (.int .i64 1), .val (.int .i64 1)] 0), .q 12 (.mks 2 [.int .i64 0, .int .i64 0] 2 [(0, (.tmp 10)), (1, (.tmp 11))]), .q 13 (.build [.int .i64 0, .int .i64 0, .int .i64 0, .str ⟨#[]⟩, .nilsl] [(0, (2, (.tmp 9))), (2, (1, (.val (.int .i64 2)))), (3, (1, (.val (.str ⟨#[112, 117, 116, 32, 98, 32, 122]⟩)))), (4, (1, (.tmp 12)))]), .q 14 (.mks 5 [.int .i64 0, .int .i64 0, .int .i64 0, .str ⟨#[]⟩, .nilsl] 4 [(0, (.tmp 2)), (1, (.tmp 4)), (2, (.tmp 8)), (3, (.tmp 13))]), .q 0 (.mv (.tmp 14))]) .ret))
def R53 : List LRes := [.tmp 0]
theorem low53 : Tryz.f53.body.bind (lowerCode Tryz.prog 15) = some L53 := by kernel_rfl
theorem res53 : lowerRes Tryz.prog Tryz.f53.results.toList = some R53 := by kernel_rfl
set_option maxRecDepth 100000 in
def L55 : LC := (.seq (.reg none [.q 4 (.alloc [.int .i64 0, .int .i64 0])]) (.seq (.reg none [.q 5 (.mv (.tmp 0)), .q 6 (.mv (.tmp 1)), .q 7 (.build [.int .i64 0, .int .i64 0] [(0, (1, (.tmp 5))), (1, (1, (.tmp 6)))]), .s (.store 2 (.tmp 4) (.tmp 7))]) .ret))
def R55 : List LRes := [(.cell 4 2 true)]
theorem low55 : Tryz.f55.body.bind (lowerCode Tryz.prog 8) = some L55 := by kernel_rfl
theorem res55 : lowerRes Tryz.prog Tryz.f55.results.toList = some R55 := by kernel_rfl
set_option maxRecDepth 100000 in
def L58 : LC := (.seq (.reg none [.q 4 (.mv (.val (.bool false)))]) (.seq (.seq (.reg none [.q 6 (.mv (.tmp 0)), .q 7 (.len false (.tmp 6)), .q 8 (.mv (.tmp 1)), .q 9 (.len false (.tmp 8)), .q 10 (.bin .neq (.tmp 7) (.tmp 9))]) (.cond (.tmp 10) (.seq (.reg none [.q 4 (.mv (.val (.bool false)))]) .ret) .skip)) (.seq (.seq (.reg none [.q 5 (.mv (.val (.int .i64 0)))]) (.block 0 (.loop (.seq (.seq (.reg none [.q 11 (.mv (.tmp 5)), .q 12 (.mv (.tmp 0)), .q 13 (.len false (.tmp 12)), .q 14 (.bin .lss (.tmp 11) (.tmp 13))]) (.cond (.tmp 14) .skip (.exit 0))) (.seq (.block 1 (.seq (.reg (some []) [.q 17 (.mv (.tmp 0)), .q 18 (.mv (.tmp 5)), .z 19 (.iaddrS 2 (.tmp 17) (.tmp 18)), .z 20 (.load 2 true (.tmp 19)), .q 21 (.mv (.tmp 1)), .q 22 (.mv (.tmp 5)), .z 23 (.iaddrS 2 (.tmp 21) (.tmp 22)), .z 24 (.load 2 true (.tmp 23)), .q 25 (.eqag true [.i, .i] (.tmp 20) (.tmp 24))]) (.cond (.tmp 25) (.seq (.reg none [.q 4 (.mv (.val (.bool false)))]) .ret) .skip))) (.reg none [.q 15 (.mv (.tmp 5)), .q 16 (.bin .add (.tmp 15) (.val (.int .i64 1))), .q 5 (.mv (.tmp 16))])))))) (.seq (.reg none [.q 4 (.mv (.val (.bool true)))]) .ret))))
def R58 : List LRes := [.tmp 4]
theorem low58 : Tryz.f58.body.bind (lowerCode Tryz.prog 26) = some L58 := by kernel_rfl
theorem res58 : lowerRes Tryz.prog Tryz.f58.results.toList = some R58 := by kernel_rfl
set_option maxRecDepth 100000 in
def L59 : LC := (.seq (.reg none [.q 1 (.box (.tmp 0)), .q 2 (.mv (.val (.int .i64 0)))]) (.seq (.block 0 (.seq (.reg none [.q 6 (.addr 0 (.tmp 1)), .q 7 (.load 2 true (.tmp 6)), .q 8 (.call 103 [.tmp 7] 0), .q 9 (.not (.tmp 8)), .q 10 (.mv (.tmp 9)), .g 11 (.addr 2 (.tmp 1)) 10 false, .g 12 (.load 1 false (.tmp 11)) 10 false, .g 13 (.call 38 [.tmp 12] 0) 10 false, .g 14 (.not (.tmp 13)) 10 false, .q 15 (.pick (.tmp 10) (.val (.bool true)) (.tmp 14)), .q 5 (.mv (.tmp 15))]) (.cond (.tmp 5) (.seq (.reg none [.q 2 (.mv (.val (.int .i64 3)))]) .ret) (.seq (.reg none [.q 17 (.addr 3 (.tmp 1)), .q 18 (.load 1 false (.tmp 17)), .q 19 (.len true (.tmp 18)), .q 20 (.bin .gtr (.tmp 19) (.val (.int .i64 12))), .q 21 (.mv (.tmp 20)), .g 22 (.addr 4 (.tmp 1)) 21 false, .g 23 (.load 1 false (.tmp 22)) 21 false, .g 24 (.len false (.tmp 23)) 21 false, .g 25 (.bin .gtr (.tmp 24) (.val (.int .i64 6))) 21 false, .q 26 (.pick (.tmp 21) (.val (.bool true)) (.tmp 25)), .q 16 (.mv (.tmp 26))]) (.cond (.tmp 16) (.seq (.reg none [.q 2 (.mv (.val (.int .i64 2)))]) .ret) .skip))))) (.seq (.seq (.reg none [.q 27 (.addr 4 (.tmp 1)), .q 28 (.load 1 false (.tmp 27)), .q 29 (.len false (.tmp 28)), .q 30 (.mv (.val (.int .i64 0)))]) (.block 1 (.loop (.seq (.reg none [.q 31 (.bin .lss (.tmp 30) (.tmp 29))]) (.seq (.cond (.tmp 31) .skip (.exit 1)) (.seq (.block 2 (.seq (.reg none [.q 32 (.mv (.tmp 30)), .q 33 (.iaddrS 2 (.tmp 28) (.tmp 30)), .q 34 (.load 2 true (.tmp 33)), .q 4 (.alloc [.int .i64 0, .int .i64 0]), .q 3 (.mv (.tmp 32)), .s (.store 2 (.tmp 4) (.tmp 34))]) (.block 3 (.seq (.reg none [.q 36 (.load 2 true (.tmp 4)), .q 37 (.call 103 [.tmp 36] 0), .q 38 (.not (.tmp 37)), .q 35 (.mv (.tmp 38))]) (.cond (.tmp 35) (.seq (.reg none [.q 2 (.mv (.val (.int .i64 3)))]) .ret) (.seq (.seq (.reg (some []) [.q 40 (.mv (.tmp 3)), .q 41 (.bin .gtr (.tmp 40) (.val (.int .i64 0))), .q 42 (.mv (.tmp 41)), .y 43 (.addr 4 (.tmp 1)) 42 true, .y 44 (.load 1 false (.tmp 43)) 42 true, .g 45 (.mv (.tmp 3)) 42 true, .g 46 (.bin .sub (.tmp 45) (.val (.int .i64 1))) 42 true, .y 47 (.iaddrS 2 (.tmp 44) (.tmp 46)) 42 true, .y 48 (.load 2 true (.tmp 47)) 42 true, .y 49 (.load 2 true (.tmp 4)) 42 true, .g 50 (.call 104 [.tmp 48, .tmp 49] 0) 42 true, .g 51 (.bin .geq (.tmp 50) (.val (.int .i64 0))) 42 true, .q 52 (.pick (.tmp 42) (.tmp 51) (.val (.bool false))), .q 39 (.mv (.tmp 52))]) (.cond (.tmp 39) .skip (.reg none [.q 53 (.addr 0 (.tmp 4)), .q 54 (.load 1 false (.tmp 53)), .q 55 (.addr 0 (.tmp 1)), .q 56 (.addr 0 (.tmp 55)), .q 57 (.load 1 false (.tmp 56)), .q 58 (.bin .eql (.tmp 54) (.tmp 57)), .q 59 (.mv (.tmp 58)), .g 60 (.addr 1 (.tmp 4)) 59 true, .g 61 (.load 1 false (.tmp 60)) 59 true, .g 62 (.addr 0 (.tmp 1)) 59 true, .g 63 (.addr 1 (.tmp 62)) 59 true, .g 64 (.load 1 false (.tmp 63)) 59 true, .g 65 (.bin .geq (.tmp 61) (.tmp 64)) 59 true, .q 66 (.pick (.tmp 59) (.tmp 65) (.val (.bool false))), .q 39 (.mv (.tmp 66))]))) (.cond (.tmp 39) (.seq (.reg none [.q 2 (.mv (.val (.int .i64 4)))]) .ret) .skip))))))) (.reg none [.q 67 (.bin .add (.tmp 30) (.val (.int .i64 1))), .q 30 (.mv (.tmp 67))]))))))) (.seq (.reg none [.q 2 (.mv (.val (.int .i64 0)))]) .ret))))
def R59 : List LRes := [.tmp 2]
theorem low59 : Tryz.f59.body.bind (lowerCode Tryz.prog 68) = some L59 := by kernel_rfl
theorem res59 : lowerRes Tryz.prog Tryz.f59.results.toList = some R59 := by kernel_rfl
set_option maxRecDepth 100000 in
def L60 : LC := (.seq (.reg none [.q 3 (.box (.tmp 1)), .q 4 (.mv (.val (.int .i64 0)))]) (.seq (.reg none [.q 5 (.mv (.tmp 0)), .q 6 (.clo 106 [.tmp 3]), .q 7 (.call 105 [.tmp 5, .tmp 6] 0), .q 4 (.mv (.tmp 7))]) .ret))
def R60 : List LRes := [.tmp 4]
theorem low60 : Tryz.f60.body.bind (lowerCode Tryz.prog 8) = some L60 := by kernel_rfl
theorem res60 : lowerRes Tryz.prog Tryz.f60.results.toList = some R60 := by kernel_rfl
set_option maxRecDepth 100000 in
def L61 : LC := (.seq (.reg none [.q 2 (.alloc [.int .i64 0, .int .i64 0])]) (.seq (.reg none [.q 3 (.alloc [.int .i64 0, .int .i64 0])]) (.seq (.seq (.reg none [.q 6 (.mv (.tmp 0)), .q 7 (.len false (.tmp 6)), .q 8 (.mv (.val (.int .i64 0)))]) (.block 0 (.loop (.seq (.reg none [.q 9 (.bin .lss (.tmp 8) (.tmp 7))]) (.seq (.cond (.tmp 9) .skip (.exit 0)) (.seq (.block 1 (.seq (.reg none [.q 10 (.iaddrS 5 (.tmp 6) (.tmp 8)), .q 11 (.load 5 true (.tmp 10)), .q 5 (.alloc [.int .i64 0, .int .i64 0, .int .i64 0, .str ⟨#[]⟩, .nilsl]), .s (.store 5 (.tmp 5) (.tmp 11))]) (.reg none [.q 12 (.addr 0 (.tmp 5)), .q 13 (.addr 0 (.tmp 12)), .q 14 (.load 1 false (.tmp 13)), .q 15 (.iaddrA 1 2 (.tmp 3) (.tmp 14)), .q 16 (.load 1 false (.tmp 15)), .q 17 (.bin .add (.tmp 16) (.val (.int .i64 1))), .q 18 (.iaddrA 1 2 (.tmp 3) (.tmp 14)), .s (.store 1 (.tmp 18) (.tmp 17))]))) (.reg none [.q 19 (.bin .add (.tmp 8) (.val (.int .i64 1))), .q 8 (.mv (.tmp 19))]))))))) (.seq (.reg none [.q 20 (.load 2 true (.tmp 3)), .s (.store 2 (.tmp 2) (.tmp 20))]) .ret))))
def R61 : List LRes := [(.cell 2 2 true)]
theorem low61 : Tryz.f61.body.bind (lowerCode Tryz.prog 21) = some L61 := by kernel_rfl
theorem res61 : lowerRes Tryz.prog Tryz.f61.results.toList = some R61 := by kernel_rfl
set_option maxRecDepth 100000 in
def L62 : LC := (.seq (.reg none [.q 2 (.box (.tmp 0)), .q 3 (.box (.tmp 1)), .q 4 (.mv (.val (.bool false)))]) (.seq (.reg (some []) [.z 5 (.load 1 false (.tmp 2)), .z 6 (.call 61 [.tmp 5] 0), .z 7 (.addr 0 (.tmp 3)), .z 8 (.addr 0 (.tmp 7)), .z 9 (.load 1 false (.tmp 8)), .q 10 (.idxA 1 2 false (.tmp 6) (.tmp 9)), .q 11 (.bin .add (.tmp 10) (.val (.int .i64 1))), .z 12 (.addr 0 (.tmp 3)), .z 13 (.addr 1 (.tmp 12)), .z 14 (.load 1 false (.tmp 13)), .q 15 (.bin .eql (.tmp 11) (.tmp 14)), .q 16 (.mv (.tmp 15)), .g 17 (.addr 4 (.tmp 3)) 16 true, .g 18 (.load 1 false (.tmp 17)) 16 true, .g 19 (.clo 108 [.tmp 2]) 16 true, .g 20 (.call 107 [.tmp 18, .tmp 19] 0) 16 true, .g 21 (.not (.tmp 20)) 16 true, .q 22 (.pick (.tmp 16) (.tmp 21) (.val (.bool false))), .q 4 (.mv (.tmp 22))]) .ret))
def R62 : List LRes := [.tmp 4]
theorem low62 : Tryz.f62.body.bind (lowerCode Tryz.prog 23) = some L62 := by kernel_rfl
theorem res62 : lowerRes Tryz.prog Tryz.f62.results.toList = some R62 := by kernel_rfl
set_option maxRecDepth 100000 in
def L63 : LC := (.seq (.reg none [.q 2 (.alloc [.int .i64 0, .nilsl, .nilsl]), .q 3 (.mv (.val (.int .i64 0)))]) (.seq (.seq (.reg none [.q 4 (.mv (.tmp 0)), .q 5 (.bin .neq (.tmp 4) (.val (.int .i64 0))), .q 6 (.mv (.tmp 5)), .g 7 (.mv (.tmp 0)) 6 true, .g 8 (.bin .neq (.tmp 7) (.val (.int .i64 1))) 6 true, .q 9 (.pick (.tmp 6) (.tmp 8) (.val (.bool false)))]) (.cond (.tmp 9) (.seq (.reg none [.q 10 (.build [.int .i64 0, .nilsl, .nilsl] []), .s (.store 3 (.tmp 2) (.tmp 10)), .q 3 (.mv (.val (.int .i64 3)))]) .ret) .skip)) (.seq (.reg none [.q 11 (.mv (.tmp 0)), .q 12 (.build [.int .i64 0, .nilsl, .nilsl] [(0, (1, (.tmp 11)))]), .s (.store 3 (.tmp 2) (.tmp 12)), .q 3 (.mv (.val (.int .i64 0)))]) .ret)))
def R63 : List LRes := [(.cell 2 3 true), .tmp 3]
theorem low63 : Tryz.f63.body.bind (lowerCode Tryz.prog 13) = some L63 := by kernel_rfl
theorem res63 : lowerRes Tryz.prog Tryz.f63.results.toList = some R63 := by kernel_rfl
set_option maxRecDepth 100000 in
def L64 : LC := (.seq (.reg none [.q 2 (.box (.tmp 0)), .q 3 (.box (.tmp 1)), .q 4 (.alloc [.int .i64 0, .nilsl, .nilsl]), .q 5 (.mv (.val (.int .i64 0)))]) (.seq (.reg none [.q 7 (.load 3 true (.tmp 2)), .q 8 (.call 65 [.tmp 7] 0), .q 6 (.mv (.tmp 8))]) (.seq (.seq (.reg none [.q 9 (.mv (.tmp 6)), .q 10 (.bin .eql (.tmp 9) (.val (.int .i64 0)))]) (.cond (.tmp 10) (.reg none [.q 11 (.load 5 true (.tmp 3)), .q 12 (.call 59 [.tmp 11] 0), .q 6 (.mv (.tmp 12))]) .skip)) (.seq (.seq (.reg none [.q 13 (.mv (.tmp 6)), .q 14 (.bin .neq (.tmp 13) (.val (.int .i64 0)))]) (.cond (.tmp 14) (.seq (.reg none [.q 15 (.build [.int .i64 0, .nilsl, .nilsl] []), .q 16 (.mv (.tmp 6)), .s (.store 3 (.tmp 4) (.tmp 15)), .q 5 (.mv (.tmp 16))]) .ret) .skip)) (.seq (.reg none [.q 17 (.load 3 true (.tmp 2)), .q 18 (.load 5 true (.tmp 3)), .q 19 (.call 109 [.tmp 17, .tmp 18] 0), .q 20 (.ext 0 (.tmp 19)), .q 21 (.ext 1 (.tmp 19)), .s (.store 3 (.tmp 4) (.tmp 20)), .q 5 (.mv (.tmp 21))]) .ret)))))
def R64 : List LRes := [(.cell 4 3 true), .tmp 5]
theorem low64 : Tryz.f64.body.bind (lowerCode Tryz.prog 22) = some L64 := by kernel_rfl
theorem res64 : lowerRes Tryz.prog Tryz.f64.results.toList = some R64 := by kernel_rfl
set_option maxRecDepth 100000 in
def L65 : LC := (.seq (.reg none [.q 1 (.box (.tmp 0)), .q 2 (.mv (.val (.int .i64 0)))]) (.seq (.seq (.reg none [.q 7 (.addr 0 (.tmp 1)), .q 8 (.load 1 false (.tmp 7)), .q 9 (.bin .neq (.tmp 8) (.val (.int .i64 0))), .q 10 (.mv (.tmp 9)), .g 11 (.addr 0 (.tmp 1)) 10 true, .g 12 (.load 1 false (.tmp 11)) 10 true, .g 13 (.bin .neq (.tmp 12) (.val (.int .i64 1))) 10 true, .q 14 (.pick (.tmp 10) (.tmp 13) (.val (.bool false)))]) (.cond (.tmp 14) (.seq (.reg none [.q 2 (.mv (.val (.int .i64 3)))]) .ret) .skip)) (.seq (.seq (.reg none [.q 15 (.addr 1 (.tmp 1)), .q 16 (.load 1 false (.tmp 15)), .q 17 (.call 21 [.tmp 16] 0), .q 3 (.mv (.tmp 17))]) (.seq (.reg none [.q 18 (.mv (.tmp 3)), .q 19 (.bin .neq (.tmp 18) (.val (.int .i64 0)))]) (.cond (.tmp 19) (.seq (.reg none [.q 20 (.mv (.tmp 3)), .q 2 (.mv (.tmp 20))]) .ret) .skip))) (.seq (.seq (.reg none [.q 21 (.addr 2 (.tmp 1)), .q 22 (.load 1 false (.tmp 21)), .q 23 (.len false (.tmp 22)), .q 24 (.bin .gtr (.tmp 23) (.val (.int .i64 20)))]) (.cond (.tmp 24) (.seq (.reg none [.q 2 (.mv (.val (.int .i64 2)))]) .ret) .skip)) (.seq (.seq (.reg none [.q 25 (.addr 2 (.tmp 1)), .q 26 (.load 1 false (.tmp 25)), .q 27 (.len false (.tmp 26)), .q 28 (.mv (.val (.int .i64 0)))]) (.block 0 (.loop (.seq (.reg none [.q 29 (.bin .lss (.tmp 28) (.tmp 27))]) (.seq (.cond (.tmp 29) .skip (.exit 0)) (.seq (.block 1 (.seq (.reg none [.q 30 (.mv (.tmp 28)), .q 31 (.iaddrS 5 (.tmp 26) (.tmp 28)), .q 32 (.load 5 true (.tmp 31)), .q 5 (.alloc [.int .i64 0, .int .i64 0, .int .i64 0, .str ⟨#[]⟩, .nilsl]), .q 4 (.mv (.tmp 30)), .s (.store 5 (.tmp 5) (.tmp 32))]) (.seq (.seq (.reg none [.q 33 (.load 5 true (.tmp 5)), .q 34 (.call 59 [.tmp 33] 0), .q 6 (.mv (.tmp 34))]) (.seq (.reg none [.q 35 (.mv (.tmp 6)), .q 36 (.bin .neq (.tmp 35) (.val (.int .i64 0)))]) (.cond (.tmp 36) (.seq (.reg none [.q 37 (.mv (.tmp 6)), .q 2 (.mv (.tmp 37))]) .ret) .skip))) (.seq (.reg (some []) [.q 38 (.mv (.tmp 4)), .q 39 (.bin .gtr (.tmp 38) (.val (.int .i64 0))), .q 40 (.mv (.tmp 39)), .y 41 (.addr 2 (.tmp 1)) 40 true, .y 42 (.load 1 false (.tmp 41)) 40 true, .g 43 (.mv (.tmp 4)) 40 true, .g 44 (.bin .sub (.tmp 43) (.val (.int .i64 1))) 40 true, .y 45 (.iaddrS 5 (.tmp 42) (.tmp 44)) 40 true, .y 46 (.addr 0 (.tmp 45)) 40 true, .y 47 (.load 2 true (.tmp 46)) 40 true, .y 48 (.addr 0 (.tmp 5)) 40 true, .y 49 (.load 2 true (.tmp 48)) 40 true, .g 50 (.call 110 [.tmp 47, .tmp 49] 0) 40 true, .g 51 (.not (.tmp 50)) 40 true, .q 52 (.pick (.tmp 40) (.tmp 51) (.val (.bool false))), .q 53 (.mv (.tmp 52)), .y 54 (.addr 0 (.tmp 5)) 53 false, .y 55 (.addr 0 (.tmp 54)) 53 false, .y 56 (.load 1 false (.tmp 55)) 53 false, .y 57 (.addr 0 (.tmp 1)) 53 false, .y 58 (.load 1 false (.tmp 57)) 53 false, .g 59 (.bin .eql (.tmp 56) (.tmp 58)) 53 false, .q 60 (.pick (.tmp 53) (.val (.bool true)) (.tmp 59)), .q 61 (.mv (.tmp 60)), .y 62 (.addr 1 (.tmp 1)) 61 false, .y 63 (.load 1 false (.tmp 62)) 61 false, .y 64 (.addr 0 (.tmp 5)) 61 false, .y 65 (.load 2 true (.tmp 64)) 61 false, .g 66 (.call 60 [.tmp 63, .tmp 65] 0) 61 false, .g 67 (.bin .geq (.tmp 66) (.val (.int .i64 0))) 61 false, .q 68 (.pick (.tmp 61) (.val (.bool true)) (.tmp 67)), .q 69 (.mv (.tmp 68)), .y 70 (.addr 1 (.tmp 1)) 69 false, .y 71 (.load 1 false (.tmp 70)) 69 false, .y 72 (.load 5 true (.tmp 5)) 69 false, .g 73 (.call 62 [.tmp 71, .tmp 72] 0) 69 false, .q 74 (.pick (.tmp 69) (.val (.bool true)) (.tmp 73))]) (.cond (.tmp 74) (.seq (.reg none [.q 2 (.mv (.val (.int .i64 4)))]) .ret) .skip))))) (.reg none [.q 75 (.bin .add (.tmp 28) (.val (.int .i64 1))), .q 28 (.mv (.tmp 75))]))))))) (.seq (.reg none [.q 2 (.mv (.val (.int .i64 0)))]) .ret))))))
def R65 : List LRes := [.tmp 2]
theorem low65 : Tryz.f65.body.bind (lowerCode Tryz.prog 76) = some L65 := by kernel_rfl
theorem res65 : lowerRes Tryz.prog Tryz.f65.results.toList = some R65 := by kernel_rfl
set_option maxRecDepth 100000 in
def L66 : LC := (.seq (.reg none [.q 3 (.box (.tmp 0)), .q 6 (.alloc [.int .i64 0, .nilsl, .nilsl]), .q 7 (.alloc [.int .i64 0, .int .i64 0, .int .i64 0, .str ⟨#[]⟩, .nilsl]), .q 8 (.mv (.val (.int .i64 0)))]) (.seq (.seq (.reg none [.q 12 (.mv (.tmp 1)), .q 13 (.call 38 [.tmp 12] 0), .q 14 (.not (.tmp 13))]) (.cond (.tmp 14) (.seq (.reg none [.q 15 (.build [.int .i64 0, .nilsl, .nilsl] []), .q 16 (.build [.int .i64 0, .int .i64 0, .int .i64 0, .str ⟨#[]⟩, .nilsl] []), .s (.store 3 (.tmp 6) (.tmp 15)), .s (.store 5 (.tmp 7) (.tmp 16)), .q 8 (.mv (.val (.int .i64 3)))]) .ret) .skip)) (.seq (.reg (some []) [.z 17 (.addr 1 (.tmp 3)), .z 18 (.load 1 false (.tmp 17)), .z 19 (.call 61 [.tmp 18] 0), .z 20 (.addr 0 (.tmp 3)), .z 21 (.load 1 false (.tmp 20)), .q 22 (.idxA 1 2 false (.tmp 19) (.tmp 21)), .q 23 (.bin .add (.tmp 22) (.val (.int .i64 1))), .q 9 (.mv (.tmp 23))]) (.seq (.reg (some [(0, 11), (1, 11), (6, 11), (7, 11), (9, 11)]) [.z 24 (.addr 0 (.tmp 3)), .z 25 (.load 1 false (.tmp 24)), .q 26 (.mv (.tmp 9)), .q 27 (.build [.int .i64 0, .int .i64 0] [(0, (1, (.tmp 25))), (1, (1, (.tmp 26)))]), .q 28 (.mv (.tmp 1)), .q 29 (.mv (.tmp 2)), .z 30 (.addr 1 (.tmp 3)), .z 31 (.load 1 false (.tmp 30)), .q 32 (.mv (.tmp 1)), .z 33 (.call 102 [.tmp 31, .tmp 32] 0), .q 34 (.build [.int .i64 0, .int .i64 0, .int .i64 0, .str ⟨#[]⟩, .nilsl] [(0, (2, (.tmp 27))), (2, (1, (.tmp 28))), (3, (1, (.tmp 29))), (4, (1, (.tmp 33)))]), .z 10 (.alloc [.int .i64 0, .int .i64 0, .int .i64 0, .str ⟨#[]⟩, .nilsl]), .s (.store 5 (.tmp 10) (.tmp 34))]) (.seq (.seq (.reg none [.q 35 (.mv (.tmp 2)), .q 36 (.len true (.tmp 35)), .q 37 (.bin .gtr (.tmp 36) (.val (.int .i64 12))), .q 38 (.mv (.tmp 37)), .g 39 (.mv (.tmp 9)) 38 false, .g 40 (.bin .gtr (.tmp 39) (.val (.int .i64 20))) 38 false, .q 41 (.pick (.tmp 38) (.val (.bool true)) (.tmp 40)), .q 42 (.mv (.tmp 41)), .g 43 (.addr 1 (.tmp 3)) 42 false, .g 44 (.load 1 false (.tmp 43)) 42 false, .g 45 (.len false (.tmp 44)) 42 false, .g 46 (.bin .eql (.tmp 45) (.val (.int .i64 40))) 42 false, .q 47 (.pick (.tmp 42) (.val (.bool true)) (.tmp 46)), .q 48 (.mv (.tmp 47)), .g 49 (.addr 4 (.tmp 10)) 48 false, .g 50 (.load 1 false (.tmp 49)) 48 false, .g 51 (.len false (.tmp 50)) 48 false, .g 52 (.bin .gtr (.tmp 51) (.val (.int .i64 6))) 48 false, .q 53 (.pick (.tmp 48) (.val (.bool true)) (.tmp 52))]) (.cond (.tmp 53) (.seq (.reg none [.q 54 (.build [.int .i64 0, .nilsl, .nilsl] []), .q 55 (.build [.int .i64 0, .int .i64 0, .int .i64 0, .str ⟨#[]⟩, .nilsl] []), .s (.store 3 (.tmp 6) (.tmp 54)), .s (.store 5 (.tmp 7) (.tmp 55)), .q 8 (.mv (.val (.int .i64 2)))]) .ret) .skip)) (.seq (.reg none [.q 56 (.load 3 true (.tmp 3)), .q 57 (.call 111 [.tmp 56] 0), .q 58 (.build [.int .i64 0, .nilsl, .nilsl] [(0, (3, (.tmp 57)))]), .q 59 (.box (.tmp 58)), .q 11 (.mv (.tmp 59))]) (.seq (.reg (some []) [.q 60 (.mv (.tmp 11)), .q 61 (.mv (.tmp 11)), .z 62 (.nilchk (.tmp 61)), .z 63 (.addr 0 (.tmp 62)), .z 64 (.addr 1 (.tmp 63)), .z 65 (.load 1 false (.tmp 64)), .z 66 (.load 5 true (.tmp 10)), .q 67 (.mks 5 [.int .i64 0, .int .i64 0, .int .i64 0, .str ⟨#[]⟩, .nilsl] 1 [(0, (.tmp 66))]), .q 68 (.append 46 5 64 (.tmp 65) (.tmp 67)), .q 69 (.nilchk (.tmp 60)), .q 70 (.addr 0 (.tmp 69)), .q 71 (.addr 1 (.tmp 70)), .s (.store 1 (.tmp 71) (.tmp 68))]) (.seq (.reg none [.q 72 (.mv (.tmp 11)), .q 73 (.call 112 [.tmp 72] 0)]) (.seq (.reg (some []) [.q 74 (.mv (.tmp 11)), .z 75 (.nilchk (.tmp 74)), .z 76 (.addr 0 (.tmp 75)), .z 77 (.load 3 true (.tmp 76)), .z 78 (.load 5 true (.tmp 10)), .z 79 (.call 113 [.tmp 78] 0), .s (.store 3 (.tmp 6) (.tmp 77)), .s (.store 5 (.tmp 7) (.tmp 79)), .q 8 (.mv (.val (.int .i64 0)))]) .ret)))))))))
def R66 : List LRes := [(.cell 6 3 true), (.cell 7 5 true), .tmp 8]
theorem low66 : Tryz.f66.body.bind (lowerCode Tryz.prog 80) = some L66 := by kernel_rfl
theorem res66 : lowerRes Tryz.prog Tryz.f66.results.toList = some R66 := by kernel_rfl
set_option maxRecDepth 100000 in
def L83 : LC := (.seq (.reg none [.q 6 (.mv (.val (.bool false)))]) (.seq (.reg none [.q 7 (.mv (.tmp 0)), .q 8 (.mv (.tmp 1)), .q 9 (.bin .geq (.tmp 7) (.tmp 8)), .q 10 (.mv (.tmp 9)), .g 11 (.mv (.tmp 0)) 10 true, .g 12 (.mv (.tmp 2)) 10 true, .g 13 (.bin .leq (.tmp 11) (.tmp 12)) 10 true, .q 14 (.pick (.tmp 10) (.tmp 13) (.val (.bool false))), .q 6 (.mv (.tmp 14))]) .ret))
def R83 : List LRes := [.tmp 6]
theorem low83 : Tryz.f83.body.bind (lowerCode Tryz.prog 15) = some L83 := by kernel_rfl
theorem res83 : lowerRes Tryz.prog Tryz.f83.results.toList = some R83 := by kernel_rfl
set_option maxRecDepth 100000 in
def L84 : LC := (.seq (.reg none [.q 2 (.mv (.val .nilp))]) (.seq (.reg none [.q 9 (.mv (.tmp 0)), .q 10 (.build [.nilsl, .nilsl] [(0, (1, (.tmp 9)))]), .q 11 (.box (.tmp 10)), .q 3 (.mv (.tmp 11))]) (.seq (.seq (.reg none [.q 12 (.mv (.tmp 0)), .q 13 (.len false (.tmp 12)), .q 14 (.mv (.val (.int .i64 0)))]) (.block 0 (.loop (.seq (.reg none [.q 15 (.bin .lss (.tmp 14) (.tmp 13))]) (.seq (.cond (.tmp 15) .skip (.exit 0)) (.seq (.block 1 (.seq (.reg none [.q 16 (.iaddrS 5 (.tmp 12) (.tmp 14)), .q 17 (.load 5 true (.tmp 16)), .q 5 (.alloc [.int .i64 0, .int .i64 0, .int .i64 0, .str ⟨#[]⟩, .nilsl]), .s (.store 5 (.tmp 5) (.tmp 17))]) (.seq (.reg none [.q 6 (.mv (.val .nilsl))]) (.seq (.seq (.reg none [.q 18 (.addr 4 (.tmp 5)), .q 19 (.load 1 false (.tmp 18)), .q 20 (.len false (.tmp 19)), .q 21 (.mv (.val (.int .i64 0)))]) (.block 2 (.loop (.seq (.reg none [.q 22 (.bin .lss (.tmp 21) (.tmp 20))]) (.seq (.cond (.tmp 22) .skip (.exit 2)) (.seq (.block 3 (.seq (.reg none [.q 23 (.iaddrS 2 (.tmp 19) (.tmp 21)), .q 24 (.load 2 true (.tmp 23)), .q 8 (.alloc [.int .i64 0, .int .i64 0]), .s (.store 2 (.tmp 8) (.tmp 24))]) (.reg (some [(3, 5)]) [.q 25 (.mv (.tmp 6)), .z 26 (.load 2 true (.tmp 8)), .q 27 (.mks 2 [.int .i64 0, .int .i64 0] 1 [(0, (.tmp 26))]), .z 28 (.append 43 2 16 (.tmp 25) (.tmp 27)), .q 29 (.mv (.tmp 3)), .z 30 (.load 2 true (.tmp 8)), .q 31 (.call 101 [.tmp 29, .tmp 30] 0), .q 32 (.append 43 2 16 (.tmp 28) (.tmp 31)), .q 6 (.mv (.tmp 32))]))) (.reg none [.q 33 (.bin .add (.tmp 21) (.val (.int .i64 1))), .q 21 (.mv (.tmp 33))]))))))) (.seq (.reg none [.q 34 (.mv (.tmp 6)), .q 35 (.call 127 [.tmp 34, .val (.clo 104 [])] 1)]) (.reg (some [(2, 6), (3, 6), (4, 6)]) [.q 36 (.mv (.tmp 3)), .q 37 (.mv (.tmp 3)), .z 38 (.nilchk (.tmp 37)), .z 39 (.addr 1 (.tmp 38)), .z 40 (.load 1 false (.tmp 39)), .q 41 (.mv (.tmp 6)), .z 42 (.call 128 [.tmp 41] 1), .q 43 (.mks 1 [.nilsl] 1 [(0, (.tmp 42))]), .q 44 (.append 44 1 24 (.tmp 40) (.tmp 43)), .q 45 (.nilchk (.tmp 36)), .q 46 (.addr 1 (.tmp 45)), .s (.store 1 (.tmp 46) (.tmp 44))])))))) (.reg none [.q 47 (.bin .add (.tmp 14) (.val (.int .i64 1))), .q 14 (.mv (.tmp 47))]))))))) (.seq (.reg none [.q 48 (.mv (.tmp 3)), .q 2 (.mv (.tmp 48))]) .ret))))
def R84 : List LRes := [.tmp 2]
theorem low84 : Tryz.f84.body.bind (lowerCode Tryz.prog 49) = some L84 := by kernel_rfl
theorem res84 : lowerRes Tryz.prog Tryz.f84.results.toList = some R84 := by kernel_rfl
set_option maxRecDepth 100000 in
def L85 : LC := (.seq (.reg none [.q 4 (.mv (.val .nilsl))]) (.seq (.reg none [.q 5 (.mv (.val .nilsl))]) (.seq (.seq (.reg none [.q 12 (.mv (.tmp 0)), .q 13 (.mv (.tmp 1)), .q 14 (.call 129 [.tmp 12, .tmp 13] 0), .q 15 (.len false (.tmp 14)), .q 16 (.mv (.val (.int .i64 0)))]) (.block 0 (.loop (.seq (.reg none [.q 17 (.bin .lss (.tmp 16) (.tmp 15))]) (.seq (.cond (.tmp 17) .skip (.exit 0)) (.seq (.block 1 (.seq (.reg none [.q 18 (.iaddrS 5 (.tmp 14) (.tmp 16)), .q 19 (.load 5 true (.tmp 18)), .q 7 (.alloc [.int .i64 0, .int .i64 0, .int .i64 0, .str ⟨#[]⟩, .nilsl]), .s (.store 5 (.tmp 7) (.tmp 19))]) (.seq (.reg none [.q 21 (.addr 3 (.tmp 7)), .q 22 (.load 1 false (.tmp 21)), .q 23 (.call 11 [.tmp 22] 0), .q 20 (.mv (.tmp 23)), .q 24 (.ext 0 (.tmp 20)), .q 25 (.ext 1 (.tmp 20)), .q 26 (.ext 2 (.tmp 20)), .q 27 (.ext 3 (.tmp 20)), .q 8 (.mv (.tmp 24)), .q 9 (.mv (.tmp 25)), .q 10 (.mv (.tmp 26)), .q 11 (.mv (.tmp 27))]) (.seq (.reg none [.q 28 (.mv (.tmp 11)), .q 29 (.bin .eql (.tmp 28) (.val (.int .i64 0)))]) (.cond (.tmp 29) (.reg none [.q 30 (.mv (.tmp 5)), .q 31 (.addr 0 (.tmp 7)), .q 32 (.load 2 true (.tmp 31)), .q 33 (.mv (.tmp 9)), .q 34 (.mv (.tmp 10)), .q 35 (.mv (.tmp 8)), .q 36 (.bin .eql (.tmp 35) (.val (.int .i64 1))), .q 37 (.build [.int .i64 0, .int .i64 0, .str ⟨#[]⟩, .str ⟨#[]⟩, (.bool false)] [(0, (2, (.tmp 32))), (2, (1, (.tmp 33))), (3, (1, (.tmp 34))), (4, (1, (.tmp 36)))]), .q 38 (.mks 5 [.int .i64 0, .int .i64 0, .str ⟨#[]⟩, .str ⟨#[]⟩, (.bool false)] 1 [(0, (.tmp 37))]), .q 39 (.append 131 5 56 (.tmp 30) (.tmp 38)), .q 5 (.mv (.tmp 39))]) .skip))))) (.reg none [.q 40 (.bin .add (.tmp 16) (.val (.int .i64 1))), .q 16 (.mv (.tmp 40))]))))))) (.seq (.reg none [.q 41 (.mv (.tmp 5)), .q 4 (.mv (.tmp 41))]) .ret))))
def R85 : List LRes := [.tmp 4]
theorem low85 : Tryz.f85.body.bind (lowerCode Tryz.prog 42) = some L85 := by kernel_rfl
theorem res85 : lowerRes Tryz.prog Tryz.f85.results.toList = some R85 := by kernel_rfl
set_option maxRecDepth 100000 in
def L87 : LC := (.seq (.reg none [.q 2 (.mv (.val .nilsl))]) (.seq (.seq (.reg none [.q 3 (.mv (.tmp 0)), .q 4 (.isnil false (.tmp 3))]) (.cond (.tmp 4) (.seq (.reg none [.q 2 (.mv (.val .nilsl))]) .ret) .skip)) (.seq (.reg none [.q 5 (.mk0 131 5), .q 6 (.mv (.tmp 0)), .q 7 (.append 131 5 56 (.tmp 5) (.tmp 6)), .q 2 (.mv (.tmp 7))]) .ret)))
def R87 : List LRes := [.tmp 2]
theorem low87 : Tryz.f87.body.bind (lowerCode Tryz.prog 8) = some L87 := by kernel_rfl
theorem res87 : lowerRes Tryz.prog Tryz.f87.results.toList = some R87 := by kernel_rfl
set_option maxRecDepth 100000 in
def L88 : LC := (.seq (.reg none [.q 3 (.box (.tmp 0)), .q 4 (.mv (.val (.bool false)))]) (.seq (.reg none [.q 5 (.addr 4 (.tmp 3)), .q 6 (.load 1 false (.tmp 5)), .q 7 (.not (.tmp 6)), .q 8 (.mv (.tmp 7)), .g 9 (.load 1 false (.tmp 1)) 8 false, .g 10 (.clo 90 [.tmp 3, .tmp 2]) 8 false, .g 11 (.call 89 [.tmp 9, .tmp 10] 0) 8 false, .q 12 (.pick (.tmp 8) (.val (.bool true)) (.tmp 11)), .q 4 (.mv (.tmp 12))]) .ret))
def R88 : List LRes := [.tmp 4]
theorem low88 : Tryz.f88.body.bind (lowerCode Tryz.prog 13) = some L88 := by kernel_rfl
theorem res88 : lowerRes Tryz.prog Tryz.f88.results.toList = some R88 := by kernel_rfl
set_option maxRecDepth 100000 in
def L89 : LC := (.seq (.reg none [.q 4 (.mv (.val (.bool false)))]) (.seq (.reg none [.q 5 (.mv (.tmp 0)), .q 6 (.mv (.tmp 1)), .q 7 (.call 130 [.tmp 5, .tmp 6] 0), .q 8 (.bin .geq (.tmp 7) (.val (.int .i64 0))), .q 4 (.mv (.tmp 8))]) .ret))
def R89 : List LRes := [.tmp 4]
theorem low89 : Tryz.f89.body.bind (lowerCode Tryz.prog 9) = some L89 := by kernel_rfl
theorem res89 : lowerRes Tryz.prog Tryz.f89.results.toList = some R89 := by kernel_rfl
set_option maxRecDepth 100000 in
def L90 : LC := (.seq (.reg none [.q 3 (.box (.tmp 0)), .q 4 (.mv (.val (.bool false)))]) (.seq (.reg none [.q 5 (.addr 2 (.tmp 3)), .q 6 (.load 1 false (.tmp 5)), .q 7 (.addr 2 (.tmp 1)), .q 8 (.load 1 false (.tmp 7)), .q 9 (.bin .eql (.tmp 6) (.tmp 8)), .q 10 (.mv (.tmp 9)), .g 11 (.load 1 false (.tmp 2)) 10 true, .g 12 (.addr 0 (.tmp 1)) 10 true, .g 13 (.load 2 true (.tmp 12)) 10 true, .g 14 (.addr 0 (.tmp 3)) 10 true, .g 15 (.load 2 true (.tmp 14)) 10 true, .g 16 (.call 91 [.tmp 11, .tmp 13, .tmp 15] 0) 10 true, .q 17 (.pick (.tmp 10) (.tmp 16) (.val (.bool false))), .q 4 (.mv (.tmp 17))]) .ret))
def R90 : List LRes := [.tmp 4]
theorem low90 : Tryz.f90.body.bind (lowerCode Tryz.prog 18) = some L90 := by kernel_rfl
theorem res90 : lowerRes Tryz.prog Tryz.f90.results.toList = some R90 := by kernel_rfl
set_option maxRecDepth 100000 in
def L91 : LC := (.seq (.reg none [.q 4 (.box (.tmp 1)), .q 5 (.box (.tmp 2)), .q 6 (.mv (.val (.bool false)))]) (.seq (.reg (some []) [.q 7 (.mv (.tmp 0)), .z 8 (.load 2 true (.tmp 5)), .z 9 (.call 101 [.tmp 7, .tmp 8] 0), .z 10 (.load 2 true (.tmp 4)), .q 11 (.call 131 [.tmp 9, .tmp 10] 0), .q 6 (.mv (.tmp 11))]) .ret))
def R91 : List LRes := [.tmp 6]
theorem low91 : Tryz.f91.body.bind (lowerCode Tryz.prog 12) = some L91 := by kernel_rfl
theorem res91 : lowerRes Tryz.prog Tryz.f91.results.toList = some R91 := by kernel_rfl
set_option maxRecDepth 100000 in
def L95 : LC := (.seq (.reg none [.q 4 (.mv (.val (.bool false)))]) (.seq (.reg none [.q 5 (.mv (.tmp 0)), .q 6 (.mv (.tmp 1)), .q 7 (.call 135 [.tmp 5, .tmp 6] 0), .q 8 (.bin .geq (.tmp 7) (.val (.int .i64 0))), .q 4 (.mv (.tmp 8))]) .ret))
def R95 : List LRes := [.tmp 4]
theorem low95 : Tryz.f95.body.bind (lowerCode Tryz.prog 9) = some L95 := by kernel_rfl
theorem res95 : lowerRes Tryz.prog Tryz.f95.results.toList = some R95 := by kernel_rfl
set_option maxRecDepth 100000 in
def L97 : LC := (.seq (.reg none [.q 4 (.mv (.val (.int .i64 0)))]) (.seq (.seq (.reg none [.q 6 (.mv (.tmp 0)), .q 7 (.len false (.tmp 6)), .q 8 (.mv (.val (.int .i64 0)))]) (.block 0 (.loop (.seq (.reg none [.q 9 (.bin .lss (.tmp 8) (.tmp 7))]) (.seq (.cond (.tmp 9) .skip (.exit 0)) (.seq (.block 1 (.seq (.reg none [.q 10 (.mv (.tmp 8)), .q 5 (.mv (.tmp 10))]) (.seq (.reg none [.q 11 (.mv (.tmp 1)), .q 12 (.mv (.tmp 0)), .q 13 (.mv (.tmp 5)), .q 14 (.iaddrS 1 (.tmp 12) (.tmp 13)), .q 15 (.load 1 false (.tmp 14)), .q 16 (.callv (.tmp 11) [.tmp 15])]) (.cond (.tmp 16) (.seq (.reg none [.q 17 (.mv (.tmp 5)), .q 4 (.mv (.tmp 17))]) .ret) .skip)))) (.reg none [.q 18 (.bin .add (.tmp 8) (.val (.int .i64 1))), .q 8 (.mv (.tmp 18))]))))))) (.seq (.reg none [.q 4 (.mv (.val (.int .i64 (-1))))]) .ret)))
def R97 : List LRes := [.tmp 4]
theorem low97 : Tryz.f97.body.bind (lowerCode Tryz.prog 19) = some L97 := by kernel_rfl
theorem res97 : lowerRes Tryz.prog Tryz.f97.results.toList = some R97 := by kernel_rfl
set_option maxRecDepth 100000 in
def L101 : LC := (.seq (.reg none [.q 3 (.box (.tmp 1)), .q 4 (.mv (.val .nilsl))]) (.seq (.reg (some []) [.q 5 (.mv (.tmp 0)), .z 6 (.nilchk (.tmp 5)), .z 7 (.addr 1 (.tmp 6)), .z 8 (.load 1 false (.tmp 7)), .q 9 (.mv (.tmp 0)), .z 10 (.nilchk (.tmp 9)), .z 11 (.addr 0 (.tmp 10)), .z 12 (.load 1 false (.tmp 11)), .z 13 (.load 2 true (.tmp 3)), .z 14 (.call 60 [.tmp 12, .tmp 13] 0), .q 15 (.iaddrS 1 (.tmp 8) (.tmp 14)), .q 16 (.load 1 false (.tmp 15)), .q 4 (.mv (.tmp 16))]) .ret))
def R101 : List LRes := [.tmp 4]
theorem low101 : Tryz.f101.body.bind (lowerCode Tryz.prog 17) = some L101 := by kernel_rfl
theorem res101 : lowerRes Tryz.prog Tryz.f101.results.toList = some R101 := by kernel_rfl
set_option maxRecDepth 100000 in
def L102 : LC := (.seq (.reg none [.q 4 (.mv (.val .nilsl))]) (.seq (.reg none [.q 10 (.mv (.tmp 0)), .q 11 (.call 84 [.tmp 10] 0), .q 5 (.alloc [.nilp]), .s (.store 1 (.tmp 5) (.tmp 11))]) (.seq (.reg none [.q 12 (.mv (.tmp 0)), .q 13 (.mv (.tmp 1)), .q 14 (.call 129 [.tmp 12, .tmp 13] 0), .q 6 (.mv (.tmp 14))]) (.seq (.reg none [.q 7 (.mv (.val .nilsl))]) (.seq (.seq (.reg none [.q 15 (.mv (.tmp 6)), .q 16 (.len false (.tmp 15)), .q 17 (.mv (.val (.int .i64 0)))]) (.block 0 (.loop (.seq (.reg none [.q 18 (.bin .lss (.tmp 17) (.tmp 16))]) (.seq (.cond (.tmp 18) .skip (.exit 0)) (.seq (.block 1 (.seq (.reg none [.q 19 (.iaddrS 5 (.tmp 15) (.tmp 17)), .q 20 (.load 5 true (.tmp 19)), .q 9 (.alloc [.int .i64 0, .int .i64 0, .int .i64 0, .str ⟨#[]⟩, .nilsl]), .s (.store 5 (.tmp 9) (.tmp 20))]) (.seq (.reg none [.q 21 (.mv (.tmp 6)), .q 22 (.clo 139 [.tmp 5, .tmp 9]), .q 23 (.call 119 [.tmp 21, .tmp 22] 0), .q 24 (.not (.tmp 23))]) (.cond (.tmp 24) (.reg none [.q 25 (.mv (.tmp 7)), .q 26 (.addr 0 (.tmp 9)), .q 27 (.load 2 true (.tmp 26)), .q 28 (.mks 2 [.int .i64 0, .int .i64 0] 1 [(0, (.tmp 27))]), .q 29 (.append 43 2 16 (.tmp 25) (.tmp 28)), .q 7 (.mv (.tmp 29))]) .skip)))) (.reg none [.q 30 (.bin .add (.tmp 17) (.val (.int .i64 1))), .q 17 (.mv (.tmp 30))]))))))) (.seq (.reg none [.q 31 (.mv (.tmp 7)), .q 32 (.call 127 [.tmp 31, .val (.clo 104 [])] 1)]) (.seq (.reg none [.q 33 (.mv (.tmp 7)), .q 4 (.mv (.tmp 33))]) .ret)))))))
def R102 : List LRes := [.tmp 4]
theorem low102 : Tryz.f102.body.bind (lowerCode Tryz.prog 34) = some L102 := by kernel_rfl
theorem res102 : lowerRes Tryz.prog Tryz.f102.results.toList = some R102 := by kernel_rfl
set_option maxRecDepth 100000 in
def L103 : LC := (.seq (.reg none [.q 1 (.box (.tmp 0)), .q 2 (.mv (.val (.bool false)))]) (.seq (.reg none [.q 3 (.addr 0 (.tmp 1)), .q 4 (.load 1 false (.tmp 3)), .q 5 (.call 83 [.tmp 4, .val (.int .i64 0), .val (.int .i64 1)] 0), .q 6 (.mv (.tmp 5)), .g 7 (.addr 1 (.tmp 1)) 6 true, .g 8 (.load 1 false (.tmp 7)) 6 true, .g 9 (.call 83 [.tmp 8, .val (.int .i64 1), .val (.int .i64 20)] 0) 6 true, .q 10 (.pick (.tmp 6) (.tmp 9) (.val (.bool false))), .q 2 (.mv (.tmp 10))]) .ret))
def R103 : List LRes := [.tmp 2]
theorem low103 : Tryz.f103.body.bind (lowerCode Tryz.prog 11) = some L103 := by kernel_rfl
theorem res103 : lowerRes Tryz.prog Tryz.f103.results.toList = some R103 := by kernel_rfl
set_option maxRecDepth 100000 in
def L104 : LC := (.seq (.reg none [.q 2 (.box (.tmp 0)), .q 3 (.box (.tmp 1)), .q 4 (.mv (.val (.int .i64 0)))]) (.seq (.reg none [.q 5 (.mv (.val (.clo 140 [])))]) (.seq (.seq (.reg none [.q 7 (.mv (.tmp 5)), .q 8 (.addr 0 (.tmp 2)), .q 9 (.load 1 false (.tmp 8)), .q 10 (.addr 0 (.tmp 3)), .q 11 (.load 1 false (.tmp 10)), .q 12 (.callv (.tmp 7) [.tmp 9, .tmp 11]), .q 6 (.mv (.tmp 12))]) (.seq (.reg none [.q 13 (.mv (.tmp 6)), .q 14 (.bin .neq (.tmp 13) (.val (.int .i64 0)))]) (.cond (.tmp 14) (.seq (.reg none [.q 15 (.mv (.tmp 6)), .q 4 (.mv (.tmp 15))]) .ret) .skip))) (.seq (.reg none [.q 16 (.mv (.tmp 5)), .q 17 (.addr 1 (.tmp 2)), .q 18 (.load 1 false (.tmp 17)), .q 19 (.addr 1 (.tmp 3)), .q 20 (.load 1 false (.tmp 19)), .q 21 (.callv (.tmp 16) [.tmp 18, .tmp 20]), .q 4 (.mv (.tmp 21))]) .ret))))
def R104 : List LRes := [.tmp 4]
theorem low104 : Tryz.f104.body.bind (lowerCode Tryz.prog 22) = some L104 := by kernel_rfl
theorem res104 : lowerRes Tryz.prog Tryz.f104.results.toList = some R104 := by kernel_rfl
set_option maxRecDepth 100000 in
def L105 : LC := (.seq (.reg none [.q 4 (.mv (.val (.int .i64 0)))]) (.seq (.seq (.reg none [.q 6 (.mv (.tmp 0)), .q 7 (.len false (.tmp 6)), .q 8 (.mv (.val (.int .i64 0)))]) (.block 0 (.loop (.seq (.reg none [.q 9 (.bin .lss (.tmp 8) (.tmp 7))]) (.seq (.cond (.tmp 9) .skip (.exit 0)) (.seq (.block 1 (.seq (.reg none [.q 10 (.mv (.tmp 8)), .q 5 (.mv (.tmp 10))]) (.seq (.reg none [.q 11 (.mv (.tmp 1)), .q 12 (.mv (.tmp 0)), .q 13 (.mv (.tmp 5)), .q 14 (.iaddrS 5 (.tmp 12) (.tmp 13)), .q 15 (.load 5 true (.tmp 14)), .q 16 (.callv (.tmp 11) [.tmp 15])]) (.cond (.tmp 16) (.seq (.reg none [.q 17 (.mv (.tmp 5)), .q 4 (.mv (.tmp 17))]) .ret) .skip)))) (.reg none [.q 18 (.bin .add (.tmp 8) (.val (.int .i64 1))), .q 8 (.mv (.tmp 18))]))))))) (.seq (.reg none [.q 4 (.mv (.val (.int .i64 (-1))))]) .ret)))
def R105 : List LRes := [.tmp 4]
theorem low105 : Tryz.f105.body.bind (lowerCode Tryz.prog 19) = some L105 := by kernel_rfl
theorem res105 : lowerRes Tryz.prog Tryz.f105.results.toList = some R105 := by kernel_rfl
set_option maxRecDepth 100000 in
def L106 : LC := (.seq (.reg none [.q 2 (.box (.tmp 0)), .q 3 (.mv (.val (.bool false)))]) (.seq (.reg none [.q 4 (.addr 0 (.tmp 2)), .q 5 (.load 2 true (.tmp 4)), .q 6 (.load 2 true (.tmp 1)), .q 7 (.eqag false [.i, .i] (.tmp 5) (.tmp 6)), .q 3 (.mv (.tmp 7))]) .ret))
def R106 : List LRes := [.tmp 3]
theorem low106 : Tryz.f106.body.bind (lowerCode Tryz.prog 8) = some L106 := by kernel_rfl
theorem res106 : lowerRes Tryz.prog Tryz.f106.results.toList = some R106 := by kernel_rfl
set_option maxRecDepth 100000 in
def L107 : LC := (.seq (.reg none [.q 4 (.mv (.val (.bool false)))]) (.seq (.reg none [.q 5 (.mv (.tmp 0)), .q 6 (.mv (.tmp 1)), .q 7 (.call 141 [.tmp 5, .tmp 6] 0), .q 8 (.bin .geq (.tmp 7) (.val (.int .i64 0))), .q 4 (.mv (.tmp 8))]) .ret))
def R107 : List LRes := [.tmp 4]
theorem low107 : Tryz.f107.body.bind (lowerCode Tryz.prog 9) = some L107 := by kernel_rfl
theorem res107 : lowerRes Tryz.prog Tryz.f107.results.toList = some R107 := by kernel_rfl
set_option maxRecDepth 100000 in
def L108 : LC := (.seq (.reg none [.q 2 (.box (.tmp 0)), .q 3 (.mv (.val (.bool false)))]) (.seq (.reg none [.q 4 (.load 1 false (.tmp 1)), .q 5 (.load 2 true (.tmp 2)), .q 6 (.call 60 [.tmp 4, .tmp 5] 0), .q 7 (.bin .lss (.tmp 6) (.val (.int .i64 0))), .q 3 (.mv (.tmp 7))]) .ret))
def R108 : List LRes := [.tmp 3]
theorem low108 : Tryz.f108.body.bind (lowerCode Tryz.prog 8) = some L108 := by kernel_rfl
theorem res108 : lowerRes Tryz.prog Tryz.f108.results.toList = some R108 := by kernel_rfl
set_option maxRecDepth 100000 in
def L109 : LC := (.seq (.reg none [.q 2 (.box (.tmp 0)), .q 3 (.box (.tmp 1)), .q 4 (.alloc [.int .i64 0, .nilsl, .nilsl]), .q 5 (.mv (.val (.int .i64 0)))]) (.seq (.reg none [.q 9 (.load 3 true (.tmp 2)), .q 10 (.call 111 [.tmp 9] 0), .q 11 (.build [.int .i64 0, .nilsl, .nilsl] [(0, (3, (.tmp 10)))]), .q 12 (.box (.tmp 11)), .q 6 (.mv (.tmp 12))]) (.seq (.seq (.reg none [.q 13 (.addr 1 (.tmp 2)), .q 14 (.load 1 false (.tmp 13)), .q 15 (.addr 0 (.tmp 3)), .q 16 (.load 2 true (.tmp 15)), .q 17 (.call 60 [.tmp 14, .tmp 16] 0), .q 18 (.bin .geq (.tmp 17) (.val (.int .i64 0))), .q 19 (.mv (.tmp 18)), .g 20 (.addr 2 (.tmp 2)) 19 false, .g 21 (.load 1 false (.tmp 20)) 19 false, .g 22 (.addr 0 (.tmp 3)) 19 false, .g 23 (.load 2 true (.tmp 22)) 19 false, .g 24 (.call 60 [.tmp 21, .tmp 23] 0) 19 false, .g 25 (.bin .geq (.tmp 24) (.val (.int .i64 0))) 19 false, .q 26 (.pick (.tmp 19) (.val (.bool true)) (.tmp 25))]) (.cond (.tmp 26) (.seq (.reg none [.q 27 (.mv (.tmp 6)), .q 28 (.nilchk (.tmp 27)), .q 29 (.addr 0 (.tmp 28)), .q 30 (.load 3 true (.tmp 29)), .s (.store 3 (.tmp 4) (.tmp 30)), .q 5 (.mv (.val (.int .i64 0)))]) .ret) .skip)) (.seq (.seq (.reg none [.q 31 (.addr 0 (.tmp 3)), .q 32 (.addr 0 (.tmp 31)), .q 33 (.load 1 false (.tmp 32)), .q 34 (.addr 0 (.tmp 2)), .q 35 (.load 1 false (.tmp 34)), .q 36 (.bin .eql (.tmp 33) (.tmp 35))]) (.cond (.tmp 36) (.seq (.reg none [.q 37 (.build [.int .i64 0, .nilsl, .nilsl] []), .s (.store 3 (.tmp 4) (.tmp 37)), .q 5 (.mv (.val (.int .i64 4)))]) .ret) .skip)) (.seq (.reg (some []) [.q 39 (.mv (.tmp 6)), .z 40 (.nilchk (.tmp 39)), .z 41 (.addr 0 (.tmp 40)), .z 42 (.addr 2 (.tmp 41)), .z 43 (.load 1 false (.tmp 42)), .z 44 (.addr 0 (.tmp 3)), .z 45 (.load 2 true (.tmp 44)), .q 46 (.call 142 [.tmp 43, .tmp 45, .val (.clo 143 [])] 0), .q 38 (.mv (.tmp 46)), .q 47 (.ext 0 (.tmp 38)), .q 48 (.ext 1 (.tmp 38)), .q 7 (.mv (.tmp 47)), .q 8 (.mv (.tmp 48))]) (.seq (.reg (some []) [.q 49 (.mv (.tmp 6)), .q 50 (.mv (.tmp 6)), .z 51 (.nilchk (.tmp 50)), .z 52 (.addr 0 (.tmp 51)), .z 53 (.addr 2 (.tmp 52)), .z 54 (.load 1 false (.tmp 53)), .q 55 (.mv (.tmp 7)), .z 56 (.load 5 true (.tmp 3)), .z 57 (.call 113 [.tmp 56] 0), .q 58 (.mks 5 [.int .i64 0, .int .i64 0, .int .i64 0, .str ⟨#[]⟩, .nilsl] 1 [(0, (.tmp 57))]), .q 59 (.call 144 [.tmp 54, .tmp 55, .tmp 58] 1), .q 60 (.nilchk (.tmp 49)), .q 61 (.addr 0 (.tmp 60)), .q 62 (.addr 2 (.tmp 61)), .s (.store 1 (.tmp 62) (.tmp 59))]) (.seq (.reg none [.q 63 (.mv (.tmp 6)), .q 64 (.call 112 [.tmp 63] 0)]) (.seq (.seq (.reg none [.q 65 (.mv (.tmp 6)), .q 66 (.nilchk (.tmp 65)), .q 67 (.addr 0 (.tmp 66)), .q 68 (.addr 2 (.tmp 67)), .q 69 (.load 1 false (.tmp 68)), .q 70 (.len false (.tmp 69)), .q 71 (.bin .gtr (.tmp 70) (.val (.int .i64 20))), .q 72 (.mv (.tmp 71)), .g 73 (.mv (.tmp 6)) 72 false, .g 74 (.nilchk (.tmp 73)) 72 false, .g 75 (.addr 0 (.tmp 74)) 72 false, .g 76 (.addr 1 (.tmp 75)) 72 false, .g 77 (.load 1 false (.tmp 76)) 72 false, .g 78 (.len false (.tmp 77)) 72 false, .g 79 (.bin .gtr (.tmp 78) (.val (.int .i64 40))) 72 false, .q 80 (.pick (.tmp 72) (.val (.bool true)) (.tmp 79))]) (.cond (.tmp 80) (.seq (.reg none [.q 81 (.build [.int .i64 0, .nilsl, .nilsl] []), .s (.store 3 (.tmp 4) (.tmp 81)), .q 5 (.mv (.val (.int .i64 2)))]) .ret) .skip)) (.seq (.reg none [.q 82 (.mv (.tmp 6)), .q 83 (.nilchk (.tmp 82)), .q 84 (.addr 0 (.tmp 83)), .q 85 (.load 3 true (.tmp 84)), .s (.store 3 (.tmp 4) (.tmp 85)), .q 5 (.mv (.val (.int .i64 0)))]) .ret)))))))))
def R109 : List LRes := [(.cell 4 3 true), .tmp 5]
theorem low109 : Tryz.f109.body.bind (lowerCode Tryz.prog 86) = some L109 := by kernel_rfl
theorem res109 : lowerRes Tryz.prog Tryz.f109.results.toList = some R109 := by kernel_rfl
set_option maxRecDepth 100000 in
def L110 : LC := (.seq (.reg none [.q 2 (.box (.tmp 0)), .q 3 (.box (.tmp 1)), .q 4 (.mv (.val (.bool false)))]) (.seq (.reg none [.q 5 (.load 2 true (.tmp 2)), .q 6 (.load 2 true (.tmp 3)), .q 7 (.call 104 [.tmp 5, .tmp 6] 0), .q 8 (.bin .lss (.tmp 7) (.val (.int .i64 0))), .q 4 (.mv (.tmp 8))]) .ret))
def R110 : List LRes := [.tmp 4]
theorem low110 : Tryz.f110.body.bind (lowerCode Tryz.prog 9) = some L110 := by kernel_rfl
theorem res110 : lowerRes Tryz.prog Tryz.f110.results.toList = some R110 := by kernel_rfl
set_option maxRecDepth 100000 in
def L111 : LC := (.seq (.reg none [.q 1 (.box (.tmp 0)), .q 2 (.alloc [.int .i64 0, .nilsl, .nilsl])]) (.seq (.reg (some [(0, 4), (1, 4), (4, 5), (4, 6), (0, 7), (1, 7)]) [.z 3 (.addr 0 (.tmp 1)), .z 4 (.load 1 false (.tmp 3)), .z 5 (.addr 1 (.tmp 1)), .z 6 (.load 1 false (.tmp 5)), .z 7 (.call 145 [.tmp 6] 2), .z 8 (.addr 2 (.tmp 1)), .z 9 (.load 1 false (.tmp 8)), .z 10 (.call 145 [.tmp 9] 2), .q 11 (.build [.int .i64 0, .nilsl, .nilsl] [(0, (1, (.tmp 4))), (1, (1, (.tmp 7))), (2, (1, (.tmp 10)))]), .s (.store 3 (.tmp 2) (.tmp 11))]) .ret))
def R111 : List LRes := [(.cell 2 3 true)]
theorem low111 : Tryz.f111.body.bind (lowerCode Tryz.prog 12) = some L111 := by kernel_rfl
theorem res111 : lowerRes Tryz.prog Tryz.f111.results.toList = some R111 := by kernel_rfl
set_option maxRecDepth 100000 in
def L112 : LC := (.seq (.reg none [.q 1 (.box (.tmp 0))]) (.seq (.reg none [.q 4 (.clo 146 [.tmp 1]), .q 2 (.mv (.tmp 4))]) (.seq (.reg none [.q 5 (.load 1 false (.tmp 1)), .q 6 (.nilchk (.tmp 5)), .q 7 (.addr 0 (.tmp 6)), .q 8 (.addr 2 (.tmp 7)), .q 9 (.load 1 false (.tmp 8)), .q 10 (.mv (.tmp 2)), .q 11 (.call 105 [.tmp 9, .tmp 10] 0), .q 3 (.mv (.tmp 11))]) (.block 0 (.loop (.seq (.seq (.reg none [.q 12 (.mv (.tmp 3)), .q 13 (.bin .geq (.tmp 12) (.val (.int .i64 0)))]) (.cond (.tmp 13) .skip (.exit 0))) (.seq (.block 1 (.seq (.reg (some [(0, 15)]) [.z 21 (.load 1 false (.tmp 1)), .z 22 (.load 1 false (.tmp 1)), .z 23 (.nilchk (.tmp 22)), .z 24 (.addr 0 (.tmp 23)), .z 25 (.addr 1 (.tmp 24)), .z 26 (.load 1 false (.tmp 25)), .z 27 (.load 1 false (.tmp 1)), .z 28 (.nilchk (.tmp 27)), .z 29 (.addr 0 (.tmp 28)), .z 30 (.addr 2 (.tmp 29)), .z 31 (.load 1 false (.tmp 30)), .q 32 (.mv (.tmp 3)), .z 33 (.iaddrS 5 (.tmp 31) (.tmp 32)), .z 34 (.load 5 true (.tmp 33)), .q 35 (.mks 5 [.int .i64 0, .int .i64 0, .int .i64 0, .str ⟨#[]⟩, .nilsl] 1 [(0, (.tmp 34))]), .z 36 (.append 46 5 64 (.tmp 26) (.tmp 35)), .q 37 (.nilchk (.tmp 21)), .q 38 (.addr 0 (.tmp 37)), .q 39 (.addr 1 (.tmp 38)), .s (.store 1 (.tmp 39) (.tmp 36))]) (.reg (some [(0, 9)]) [.z 40 (.load 1 false (.tmp 1)), .z 41 (.load 1 false (.tmp 1)), .z 42 (.nilchk (.tmp 41)), .z 43 (.addr 0 (.tmp 42)), .z 44 (.addr 2 (.tmp 43)), .z 45 (.load 1 false (.tmp 44)), .q 46 (.mv (.tmp 3)), .q 47 (.mv (.tmp 3)), .q 48 (.bin .add (.tmp 47) (.val (.int .i64 1))), .z 49 (.call 147 [.tmp 45, .tmp 46, .tmp 48] 1), .q 50 (.nilchk (.tmp 40)), .q 51 (.addr 0 (.tmp 50)), .q 52 (.addr 2 (.tmp 51)), .s (.store 1 (.tmp 52) (.tmp 49))]))) (.reg none [.q 14 (.load 1 false (.tmp 1)), .q 15 (.nilchk (.tmp 14)), .q 16 (.addr 0 (.tmp 15)), .q 17 (.addr 2 (.tmp 16)), .q 18 (.load 1 false (.tmp 17)), .q 19 (.mv (.tmp 2)), .q 20 (.call 105 [.tmp 18, .tmp 19] 0), .q 3 (.mv (.tmp 20))]))))))))
def R112 : List LRes := []
theorem low112 : Tryz.f112.body.bind (lowerCode Tryz.prog 53) = some L112 := by kernel_rfl
theorem res112 : lowerRes Tryz.prog Tryz.f112.results.toList = some R112 := by kernel_rfl
set_option maxRecDepth 100000 in
def L113 : LC := (.seq (.reg none [.q 1 (.box (.tmp 0)), .q 2 (.alloc [.int .i64 0, .int .i64 0, .int .i64 0, .str ⟨#[]⟩, .nilsl])]) (.seq (.reg none [.q 3 (.addr 4 (.tmp 1)), .q 4 (.load 1 false (.tmp 3)), .q 5 (.call 148 [.tmp 4] 0), .q 6 (.addr 4 (.tmp 1)), .s (.store 1 (.tmp 6) (.tmp 5))]) (.seq (.reg none [.q 7 (.load 5 true (.tmp 1)), .s (.store 5 (.tmp 2) (.tmp 7))]) .ret)))
def R113 : List LRes := [(.cell 2 5 true)]
theorem low113 : Tryz.f113.body.bind (lowerCode Tryz.prog 8) = some L113 := by kernel_rfl
theorem res113 : lowerRes Tryz.prog Tryz.f113.results.toList = some R113 := by kernel_rfl
set_option maxRecDepth 100000 in
def L119 : LC := (.seq (.reg none [.q 4 (.mv (.val (.bool false)))]) (.seq (.reg none [.q 5 (.mv (.tmp 0)), .q 6 (.mv (.tmp 1)), .q 7 (.call 105 [.tmp 5, .tmp 6] 0), .q 8 (.bin .geq (.tmp 7) (.val (.int .i64 0))), .q 4 (.mv (.tmp 8))]) .ret))
def R119 : List LRes := [.tmp 4]
theorem low119 : Tryz.f119.body.bind (lowerCode Tryz.prog 9) = some L119 := by kernel_rfl
theorem res119 : lowerRes Tryz.prog Tryz.f119.results.toList = some R119 := by kernel_rfl
set_option maxRecDepth 100000 in
def L129 : LC := (.seq (.reg none [.q 4 (.mv (.val .nilsl))]) (.seq (.reg none [.q 5 (.mv (.val .nilsl))]) (.seq (.seq (.reg none [.q 8 (.mv (.tmp 0)), .q 9 (.len false (.tmp 8)), .q 10 (.mv (.val (.int .i64 0)))]) (.block 0 (.loop (.seq (.reg none [.q 11 (.bin .lss (.tmp 10) (.tmp 9))]) (.seq (.cond (.tmp 11) .skip (.exit 0)) (.seq (.block 1 (.seq (.reg none [.q 12 (.iaddrS 5 (.tmp 8) (.tmp 10)), .q 13 (.load 5 true (.tmp 12)), .q 7 (.alloc [.int .i64 0, .int .i64 0, .int .i64 0, .str ⟨#[]⟩, .nilsl]), .s (.store 5 (.tmp 7) (.tmp 13))]) (.seq (.reg none [.q 14 (.addr 2 (.tmp 7)), .q 15 (.load 1 false (.tmp 14)), .q 16 (.mv (.tmp 1)), .q 17 (.bin .and (.tmp 15) (.tmp 16)), .q 18 (.bin .neq (.tmp 17) (.val (.int .i64 0)))]) (.cond (.tmp 18) (.reg none [.q 19 (.mv (.tmp 5)), .q 20 (.load 5 true (.tmp 7)), .q 21 (.mks 5 [.int .i64 0, .int .i64 0, .int .i64 0, .str ⟨#[]⟩, .nilsl] 1 [(0, (.tmp 20))]), .q 22 (.append 46 5 64 (.tmp 19) (.tmp 21)), .q 5 (.mv (.tmp 22))]) .skip)))) (.reg none [.q 23 (.bin .add (.tmp 10) (.val (.int .i64 1))), .q 10 (.mv (.tmp 23))]))))))) (.seq (.reg none [.q 24 (.mv (.tmp 5)), .q 4 (.mv (.tmp 24))]) .ret))))
def R129 : List LRes := [.tmp 4]
theorem low129 : Tryz.f129.body.bind (lowerCode Tryz.prog 25) = some L129 := by kernel_rfl
theorem res129 : lowerRes Tryz.prog Tryz.f129.results.toList = some R129 := by kernel_rfl
set_option maxRecDepth 100000 in
def L130 : LC := (.seq (.reg none [.q 4 (.mv (.val (.int .i64 0)))]) (.seq (.seq (.reg none [.q 6 (.mv (.tmp 0)), .q 7 (.len false (.tmp 6)), .q 8 (.mv (.val (.int .i64 0)))]) (.block 0 (.loop (.seq (.reg none [.q 9 (.bin .lss (.tmp 8) (.tmp 7))]) (.seq (.cond (.tmp 9) .skip (.exit 0)) (.seq (.block 1 (.seq (.reg none [.q 10 (.mv (.tmp 8)), .q 5 (.mv (.tmp 10))]) (.seq (.reg none [.q 11 (.mv (.tmp 1)), .q 12 (.mv (.tmp 0)), .q 13 (.mv (.tmp 5)), .q 14 (.iaddrS 5 (.tmp 12) (.tmp 13)), .q 15 (.load 5 true (.tmp 14)), .q 16 (.callv (.tmp 11) [.tmp 15])]) (.cond (.tmp 16) (.seq (.reg none [.q 17 (.mv (.tmp 5)), .q 4 (.mv (.tmp 17))]) .ret) .skip)))) (.reg none [.q 18 (.bin .add (.tmp 8) (.val (.int .i64 1))), .q 8 (.mv (.tmp 18))]))))))) (.seq (.reg none [.q 4 (.mv (.val (.int .i64 (-1))))]) .ret)))
def R130 : List LRes := [.tmp 4]
theorem low130 : Tryz.f130.body.bind (lowerCode Tryz.prog 19) = some L130 := by kernel_rfl
theorem res130 : lowerRes Tryz.prog Tryz.f130.results.toList = some R130 := by kernel_rfl
set_option maxRecDepth 100000 in
def L131 : LC := (.seq (.reg none [.q 3 (.box (.tmp 1)), .q 4 (.mv (.val (.bool false)))]) (.seq (.reg none [.q 5 (.mv (.tmp 0)), .q 6 (.load 2 true (.tmp 3)), .q 7 (.call 157 [.tmp 5, .tmp 6] 0), .q 8 (.bin .geq (.tmp 7) (.val (.int .i64 0))), .q 4 (.mv (.tmp 8))]) .ret))
def R131 : List LRes := [.tmp 4]
theorem low131 : Tryz.f131.body.bind (lowerCode Tryz.prog 9) = some L131 := by kernel_rfl
theorem res131 : lowerRes Tryz.prog Tryz.f131.results.toList = some R131 := by kernel_rfl
set_option maxRecDepth 100000 in
def L135 : LC := (.seq (.reg none [.q 4 (.mv (.val (.int .i64 0)))]) (.seq (.seq (.reg none [.q 6 (.mv (.tmp 0)), .q 7 (.len false (.tmp 6)), .q 8 (.mv (.val (.int .i64 0)))]) (.block 0 (.loop (.seq (.reg none [.q 9 (.bin .lss (.tmp 8) (.tmp 7))]) (.seq (.cond (.tmp 9) .skip (.exit 0)) (.seq (.block 1 (.seq (.reg none [.q 10 (.mv (.tmp 8)), .q 5 (.mv (.tmp 10))]) (.seq (.reg none [.q 11 (.mv (.tmp 1)), .q 12 (.mv (.tmp 0)), .q 13 (.mv (.tmp 5)), .q 14 (.iaddrS 1 (.tmp 12) (.tmp 13)), .q 15 (.load 1 false (.tmp 14)), .q 16 (.bin .eql (.tmp 11) (.tmp 15))]) (.cond (.tmp 16) (.seq (.reg none [.q 17 (.mv (.tmp 5)), .q 4 (.mv (.tmp 17))]) .ret) .skip)))) (.reg none [.q 18 (.bin .add (.tmp 8) (.val (.int .i64 1))), .q 8 (.mv (.tmp 18))]))))))) (.seq (.reg none [.q 4 (.mv (.val (.int .i64 (-1))))]) .ret)))
def R135 : List LRes := [.tmp 4]
theorem low135 : Tryz.f135.body.bind (lowerCode Tryz.prog 19) = some L135 := by kernel_rfl
theorem res135 : lowerRes Tryz.prog Tryz.f135.results.toList = some R135 := by kernel_rfl
set_option maxRecDepth 100000 in
def L139 : LC := (.seq (.reg none [.q 3 (.box (.tmp 0)), .q 4 (.mv (.val (.bool false)))]) (.seq (.reg none [.q 5 (.load 1 false (.tmp 1)), .q 6 (.addr 0 (.tmp 2)), .q 7 (.load 2 true (.tmp 6)), .q 8 (.addr 0 (.tmp 3)), .q 9 (.load 2 true (.tmp 8)), .q 10 (.call 91 [.tmp 5, .tmp 7, .tmp 9] 0), .q 4 (.mv (.tmp 10))]) .ret))
def R139 : List LRes := [.tmp 4]
theorem low139 : Tryz.f139.body.bind (lowerCode Tryz.prog 11) = some L139 := by kernel_rfl
theorem res139 : lowerRes Tryz.prog Tryz.f139.results.toList = some R139 := by kernel_rfl
set_option maxRecDepth 100000 in
def L140 : LC := (.seq (.reg none [.q 4 (.mv (.val (.int .i64 0)))]) (.seq (.block 0 (.seq (.reg none [.q 6 (.mv (.tmp 0)), .q 7 (.mv (.tmp 1)), .q 8 (.bin .lss (.tmp 6) (.tmp 7)), .q 5 (.mv (.tmp 8))]) (.cond (.tmp 5) (.seq (.reg none [.q 4 (.mv (.val (.int .i64 (-1))))]) .ret) (.seq (.reg none [.q 10 (.mv (.tmp 0)), .q 11 (.mv (.tmp 1)), .q 12 (.bin .gtr (.tmp 10) (.tmp 11)), .q 9 (.mv (.tmp 12))]) (.cond (.tmp 9) (.seq (.reg none [.q 4 (.mv (.val (.int .i64 1)))]) .ret) .skip))))) (.seq (.reg none [.q 4 (.mv (.val (.int .i64 0)))]) .ret)))
def R140 : List LRes := [.tmp 4]
theorem low140 : Tryz.f140.body.bind (lowerCode Tryz.prog 13) = some L140 := by kernel_rfl
theorem res140 : lowerRes Tryz.prog Tryz.f140.results.toList = some R140 := by kernel_rfl
set_option maxRecDepth 100000 in
def L141 : LC := (.seq (.reg none [.q 4 (.mv (.val (.int .i64 0)))]) (.seq (.seq (.reg none [.q 6 (.mv (.tmp 0)), .q 7 (.len false (.tmp 6)), .q 8 (.mv (.val (.int .i64 0)))]) (.block 0 (.loop (.seq (.reg none [.q 9 (.bin .lss (.tmp 8) (.tmp 7))]) (.seq (.cond (.tmp 9) .skip (.exit 0)) (.seq (.block 1 (.seq (.reg none [.q 10 (.mv (.tmp 8)), .q 5 (.mv (.tmp 10))]) (.seq (.reg none [.q 11 (.mv (.tmp 1)), .q 12 (.mv (.tmp 0)), .q 13 (.mv (.tmp 5)), .q 14 (.iaddrS 2 (.tmp 12) (.tmp 13)), .q 15 (.load 2 true (.tmp 14)), .q 16 (.callv (.tmp 11) [.tmp 15])]) (.cond (.tmp 16) (.seq (.reg none [.q 17 (.mv (.tmp 5)), .q 4 (.mv (.tmp 17))]) .ret) .skip)))) (.reg none [.q 18 (.bin .add (.tmp 8) (.val (.int .i64 1))), .q 8 (.mv (.tmp 18))]))))))) (.seq (.reg none [.q 4 (.mv (.val (.int .i64 (-1))))]) .ret)))
def R141 : List LRes := [.tmp 4]
theorem low141 : Tryz.f141.body.bind (lowerCode Tryz.prog 19) = some L141 := by kernel_rfl
theorem res141 : lowerRes Tryz.prog Tryz.f141.results.toList = some R141 := by kernel_rfl
set_option maxRecDepth 100000 in
def L142 : LC := (.seq (.reg none [.q 4 (.box (.tmp 1)), .q 6 (.mv (.val (.int .i64 0))), .q 7 (.mv (.val (.bool false)))]) (.seq (.reg none [.q 12 (.mv (.tmp 0)), .q 13 (.len false (.tmp 12)), .q 8 (.mv (.tmp 13))]) (.seq (.reg none [.q 14 (.mv (.tmp 8)), .q 9 (.mv (.val (.int .i64 0))), .q 10 (.mv (.tmp 14))]) (.seq (.block 0 (.loop (.seq (.seq (.reg none [.q 15 (.mv (.tmp 9)), .q 16 (.mv (.tmp 10)), .q 17 (.bin .lss (.tmp 15) (.tmp 16))]) (.cond (.tmp 17) .skip (.exit 0))) (.block 1 (.seq (.reg none [.q 18 (.mv (.tmp 9)), .q 19 (.mv (.tmp 10)), .q 20 (.bin .add (.tmp 18) (.tmp 19)), .q 21 (.conv .u64 (.tmp 20)), .q 22 (.bin .shr (.tmp 21) (.val (.int .u64 1))), .q 23 (.conv .i64 (.tmp 22)), .q 11 (.mv (.tmp 23))]) (.seq (.reg (some []) [.q 24 (.mv (.tmp 2)), .q 25 (.mv (.tmp 0)), .q 26 (.mv (.tmp 11)), .z 27 (.iaddrS 5 (.tmp 25) (.tmp 26)), .z 28 (.load 5 true (.tmp 27)), .z 29 (.load 2 true (.tmp 4)), .q 30 (.callv (.tmp 24) [.tmp 28, .tmp 29]), .q 31 (.bin .lss (.tmp 30) (.val (.int .i64 0)))]) (.cond (.tmp 31) (.reg none [.q 32 (.mv (.tmp 11)), .q 33 (.bin .add (.tmp 32) (.val (.int .i64 1))), .q 9 (.mv (.tmp 33))]) (.reg none [.q 34 (.mv (.tmp 11)), .q 10 (.mv (.tmp 34))])))))))) (.seq (.reg (some []) [.q 35 (.mv (.tmp 9)), .q 36 (.mv (.tmp 9)), .q 37 (.mv (.tmp 8)), .q 38 (.bin .lss (.tmp 36) (.tmp 37)), .q 39 (.mv (.tmp 38)), .g 40 (.mv (.tmp 2)) 39 true, .g 41 (.mv (.tmp 0)) 39 true, .g 42 (.mv (.tmp 9)) 39 true, .y 43 (.iaddrS 5 (.tmp 41) (.tmp 42)) 39 true, .y 44 (.load 5 true (.tmp 43)) 39 true, .y 45 (.load 2 true (.tmp 4)) 39 true, .g 46 (.callv (.tmp 40) [.tmp 44, .tmp 45]) 39 true, .g 47 (.bin .eql (.tmp 46) (.val (.int .i64 0))) 39 true, .q 48 (.pick (.tmp 39) (.tmp 47) (.val (.bool false))), .q 6 (.mv (.tmp 35)), .q 7 (.mv (.tmp 48))]) .ret)))))
def R142 : List LRes := [.tmp 6, .tmp 7]
theorem low142 : Tryz.f142.body.bind (lowerCode Tryz.prog 49) = some L142 := by kernel_rfl
theorem res142 : lowerRes Tryz.prog Tryz.f142.results.toList = some R142 := by kernel_rfl
set_option maxRecDepth 100000 in
def L143 : LC := (.seq (.reg none [.q 2 (.box (.tmp 0)), .q 3 (.box (.tmp 1)), .q 4 (.mv (.val (.int .i64 0)))]) (.seq (.reg none [.q 5 (.addr 0 (.tmp 2)), .q 6 (.load 2 true (.tmp 5)), .q 7 (.load 2 true (.tmp 3)), .q 8 (.call 104 [.tmp 6, .tmp 7] 0), .q 4 (.mv (.tmp 8))]) .ret))
def R143 : List LRes := [.tmp 4]
theorem low143 : Tryz.f143.body.bind (lowerCode Tryz.prog 9) = some L143 := by kernel_rfl
theorem res143 : lowerRes Tryz.prog Tryz.f143.results.toList = some R143 := by kernel_rfl
set_option maxRecDepth 100000 in
def L145 : LC := (.seq (.reg none [.q 2 (.mv (.val .nilsl))]) (.seq (.reg none [.q 3 (.mv (.val .nilsl))]) (.seq (.seq (.reg none [.q 6 (.mv (.tmp 0)), .q 7 (.len false (.tmp 6)), .q 8 (.mv (.val (.int .i64 0)))]) (.block 0 (.loop (.seq (.reg none [.q 9 (.bin .lss (.tmp 8) (.tmp 7))]) (.seq (.cond (.tmp 9) .skip (.exit 0)) (.seq (.block 1 (.seq (.reg none [.q 10 (.iaddrS 5 (.tmp 6) (.tmp 8)), .q 11 (.load 5 true (.tmp 10)), .q 5 (.alloc [.int .i64 0, .int .i64 0, .int .i64 0, .str ⟨#[]⟩, .nilsl]), .s (.store 5 (.tmp 5) (.tmp 11))]) (.reg none [.q 12 (.mv (.tmp 3)), .q 13 (.load 5 true (.tmp 5)), .q 14 (.call 113 [.tmp 13] 0), .q 15 (.mks 5 [.int .i64 0, .int .i64 0, .int .i64 0, .str ⟨#[]⟩, .nilsl] 1 [(0, (.tmp 14))]), .q 16 (.append 46 5 64 (.tmp 12) (.tmp 15)), .q 3 (.mv (.tmp 16))]))) (.reg none [.q 17 (.bin .add (.tmp 8) (.val (.int .i64 1))), .q 8 (.mv (.tmp 17))]))))))) (.seq (.reg none [.q 18 (.mv (.tmp 3)), .q 2 (.mv (.tmp 18))]) .ret))))
def R145 : List LRes := [.tmp 2]
theorem low145 : Tryz.f145.body.bind (lowerCode Tryz.prog 19) = some L145 := by kernel_rfl
theorem res145 : lowerRes Tryz.prog Tryz.f145.results.toList = some R145 := by kernel_rfl
set_option maxRecDepth 100000 in
def L146 : LC := (.seq (.reg none [.q 2 (.box (.tmp 0)), .q 3 (.mv (.val (.bool false)))]) (.seq (.reg (some []) [.z 4 (.load 1 false (.tmp 1)), .z 5 (.nilchk (.tmp 4)), .z 6 (.addr 0 (.tmp 5)), .z 7 (.addr 1 (.tmp 6)), .z 8 (.load 1 false (.tmp 7)), .z 9 (.load 5 true (.tmp 2)), .q 10 (.call 62 [.tmp 8, .tmp 9] 0), .q 3 (.mv (.tmp 10))]) .ret))
def R146 : List LRes := [.tmp 3]
theorem low146 : Tryz.f146.body.bind (lowerCode Tryz.prog 11) = some L146 := by kernel_rfl
theorem res146 : lowerRes Tryz.prog Tryz.f146.results.toList = some R146 := by kernel_rfl
set_option maxRecDepth 100000 in
def L148 : LC := (.seq (.reg none [.q 2 (.mv (.val .nilsl))]) (.seq (.seq (.reg none [.q 3 (.mv (.tmp 0)), .q 4 (.isnil false (.tmp 3))]) (.cond (.tmp 4) (.seq (.reg none [.q 2 (.mv (.val .nilsl))]) .ret) .skip)) (.seq (.reg none [.q 5 (.mk0 43 2), .q 6 (.mv (.tmp 0)), .q 7 (.append 43 2 16 (.tmp 5) (.tmp 6)), .q 2 (.mv (.tmp 7))]) .ret)))
def R148 : List LRes := [.tmp 2]
theorem low148 : Tryz.f148.body.bind (lowerCode Tryz.prog 8) = some L148 := by kernel_rfl
theorem res148 : lowerRes Tryz.prog Tryz.f148.results.toList = some R148 := by kernel_rfl
set_option maxRecDepth 100000 in
def L157 : LC := (.seq (.reg none [.q 3 (.box (.tmp 1)), .q 4 (.mv (.val (.int .i64 0)))]) (.seq (.seq (.reg none [.q 6 (.mv (.tmp 0)), .q 7 (.len false (.tmp 6)), .q 8 (.mv (.val (.int .i64 0)))]) (.block 0 (.loop (.seq (.reg none [.q 9 (.bin .lss (.tmp 8) (.tmp 7))]) (.seq (.cond (.tmp 9) .skip (.exit 0)) (.seq (.block 1 (.seq (.reg none [.q 10 (.mv (.tmp 8)), .q 5 (.mv (.tmp 10))]) (.seq (.reg (some []) [.z 11 (.load 2 true (.tmp 3)), .q 12 (.mv (.tmp 0)), .q 13 (.mv (.tmp 5)), .z 14 (.iaddrS 2 (.tmp 12) (.tmp 13)), .z 15 (.load 2 true (.tmp 14)), .q 16 (.eqag false [.i, .i] (.tmp 11) (.tmp 15))]) (.cond (.tmp 16) (.seq (.reg none [.q 17 (.mv (.tmp 5)), .q 4 (.mv (.tmp 17))]) .ret) .skip)))) (.reg none [.q 18 (.bin .add (.tmp 8) (.val (.int .i64 1))), .q 8 (.mv (.tmp 18))]))))))) (.seq (.reg none [.q 4 (.mv (.val (.int .i64 (-1))))]) .ret)))
def R157 : List LRes := [.tmp 4]
theorem low157 : Tryz.f157.body.bind (lowerCode Tryz.prog 19) = some L157 := by kernel_rfl
theorem res157 : lowerRes Tryz.prog Tryz.f157.results.toList = some R157 := by kernel_rfl
end Go.Proofs.YtfdolehffjmdmaaGreatDoor
namespace Go.Proofs.YtfdolehffjmdmaaGreatDoor
set_option linter.unusedSimpArgs false
set_option linter.unusedVariables false
open Go.RowKit
theorem within_meets (n a b : Int) : Meets Tryz.prog 83 [.int .i64 n, .int .i64 a, .int .i64 b] [] (.bool (wthn n a b)) [] := by
  refine Meets.of_walk Tryz.func83 Tryz.ntmps83 low83 res83 (by simp) fun x hx => ?_
  by_cases h : a ≤ n
  all_goals
    simp only [go_sem, Nat.reduceLT, Nat.reduceAdd, Nat.reduceEqDiff, Nat.reduceLeDiff, Nat.reduceSub, Nat.reduceMul, Int.reduceEq, eq_self, reduceIte, L83, R83, h, decide_true, decide_false]
    refine ret_pure hx ?_
    simp only [go_sem, Nat.reduceLT, Nat.reduceAdd, Nat.reduceEqDiff, Nat.reduceLeDiff, Nat.reduceSub, Nat.reduceMul, Int.reduceEq, eq_self, reduceIte, L83, R83, wthn, h, decide_false, true_and, false_and]
theorem id_meets (r n : Int) : Meets Tryz.prog 103 [.agg [.int .i64 r, .int .i64 n]] [] (.bool (okId ⟨r, n⟩)) [] := by
  refine Meets.of_walk Tryz.func103 Tryz.ntmps103 low103 res103 (by simp) fun x hx => ?_
  simp only [go_sem, Nat.reduceLT, Nat.reduceAdd, Nat.reduceEqDiff, Nat.reduceLeDiff, Nat.reduceSub, Nat.reduceMul, Int.reduceEq, eq_self, reduceIte, L103, R103]
  refine ops_call (.pure (within_meets _ _ _)) ?_
  cases h : wthn r 0 1
  · simp only [go_sem, Nat.reduceLT, Nat.reduceAdd, Nat.reduceEqDiff, Nat.reduceLeDiff, Nat.reduceSub, Nat.reduceMul, Int.reduceEq, eq_self, reduceIte]
    refine ret_pure hx ?_
    simp [go_sem, Nat.reduceLT, Nat.reduceAdd, Nat.reduceEqDiff, Nat.reduceLeDiff, Nat.reduceSub, Nat.reduceMul, Int.reduceEq, eq_self, reduceIte, L103, R103, okId, h]
  · simp only [go_sem, Nat.reduceLT, Nat.reduceAdd, Nat.reduceEqDiff, Nat.reduceLeDiff, Nat.reduceSub, Nat.reduceMul, Int.reduceEq, eq_self, reduceIte]
    refine ops_call (.pure (within_meets _ _ _)) ?_
    simp only [go_sem, Nat.reduceLT, Nat.reduceAdd, Nat.reduceEqDiff, Nat.reduceLeDiff, Nat.reduceSub, Nat.reduceMul, Int.reduceEq, eq_self, reduceIte]
    refine ret_pure hx ?_
    simp [go_sem, Nat.reduceLT, Nat.reduceAdd, Nat.reduceEqDiff, Nat.reduceLeDiff, Nat.reduceSub, Nat.reduceMul, Int.reduceEq, eq_self, reduceIte, L103, R103, okId, h]
end Go.Proofs.YtfdolehffjmdmaaGreatDoor
namespace Go.Proofs.YtfdolehffjmdmaaGreatDoor
set_option linter.unusedSimpArgs false
set_option linter.unusedVariables false
open Go.RowKit
theorem cmp_meets (a b : Int) : Meets Tryz.prog 140 [.int .i64 a, .int .i64 b] [] (.int .i64 (cmpI a b)) [] := by
  refine Meets.of_walk Tryz.func140 Tryz.ntmps140 low140 res140 (by simp) fun x hx => ?_
  by_cases h : a < b
  · simp only [go_sem, Nat.reduceLT, Nat.reduceAdd, Nat.reduceEqDiff, Nat.reduceLeDiff, Nat.reduceSub, Nat.reduceMul, Int.reduceEq, eq_self, reduceIte, L140, R140, h, decide_true]
    refine ret_pure hx ?_
    simp [go_sem, Nat.reduceLT, Nat.reduceAdd, Nat.reduceEqDiff, Nat.reduceLeDiff, Nat.reduceSub, Nat.reduceMul, Int.reduceEq, eq_self, reduceIte, L140, R140, cmpI, h]
  · by_cases h2 : b < a
    · simp only [go_sem, Nat.reduceLT, Nat.reduceAdd, Nat.reduceEqDiff, Nat.reduceLeDiff, Nat.reduceSub, Nat.reduceMul, Int.reduceEq, eq_self, reduceIte, L140, R140, h, h2, decide_true, decide_false]
      refine ret_pure hx ?_
      simp [go_sem, Nat.reduceLT, Nat.reduceAdd, Nat.reduceEqDiff, Nat.reduceLeDiff, Nat.reduceSub, Nat.reduceMul, Int.reduceEq, eq_self, reduceIte, L140, R140, cmpI, h, h2]
    · simp only [go_sem, Nat.reduceLT, Nat.reduceAdd, Nat.reduceEqDiff, Nat.reduceLeDiff, Nat.reduceSub, Nat.reduceMul, Int.reduceEq, eq_self, reduceIte, L140, R140, h, h2, decide_false]
      refine ret_pure hx ?_
      simp [go_sem, Nat.reduceLT, Nat.reduceAdd, Nat.reduceEqDiff, Nat.reduceLeDiff, Nat.reduceSub, Nat.reduceMul, Int.reduceEq, eq_self, reduceIte, L140, R140, cmpI, h, h2]
def cId (x : Id) : List PV := [.int .i64 x.r, .int .i64 x.n]
theorem order_meets (a b : Id) : Meets Tryz.prog 104 [.agg (cId a), .agg (cId b)] [] (.int .i64 (ordI a b)) [] := by
  refine Meets.of_walk Tryz.func104 Tryz.ntmps104 low104 res104 (by simp) fun x hx => ?_
  simp only [go_sem, Nat.reduceLT, Nat.reduceAdd, Nat.reduceEqDiff, Nat.reduceLeDiff, Nat.reduceSub, Nat.reduceMul, Int.reduceEq, eq_self, reduceIte, L104, R104, cId]
  refine ops_callv rfl (by kernel_rfl) (.pure (cmp_meets _ _)) ?_
  by_cases h : cmpI a.r b.r = 0
  · simp only [go_sem, Nat.reduceLT, Nat.reduceAdd, Nat.reduceEqDiff, Nat.reduceLeDiff, Nat.reduceSub, Nat.reduceMul, Int.reduceEq, eq_self, reduceIte, h, decide_true, decide_false]
    refine ops_callv rfl (by kernel_rfl) (.pure (cmp_meets _ _)) ?_
    simp only [go_sem, Nat.reduceLT, Nat.reduceAdd, Nat.reduceEqDiff, Nat.reduceLeDiff, Nat.reduceSub, Nat.reduceMul, Int.reduceEq, eq_self, reduceIte]
    refine ret_pure hx ?_
    simp [go_sem, Nat.reduceLT, Nat.reduceAdd, Nat.reduceEqDiff, Nat.reduceLeDiff, Nat.reduceSub, Nat.reduceMul, Int.reduceEq, eq_self, reduceIte, L104, R104, ordI, h]
  · simp only [go_sem, Nat.reduceLT, Nat.reduceAdd, Nat.reduceEqDiff, Nat.reduceLeDiff, Nat.reduceSub, Nat.reduceMul, Int.reduceEq, eq_self, reduceIte, h, decide_true, decide_false]
    refine ret_pure hx ?_
    simp [go_sem, Nat.reduceLT, Nat.reduceAdd, Nat.reduceEqDiff, Nat.reduceLeDiff, Nat.reduceSub, Nat.reduceMul, Int.reduceEq, eq_self, reduceIte, L104, R104, ordI, h]
theorem less_meets (a b : Id) : Meets Tryz.prog 110 [.agg (cId a), .agg (cId b)] [] (.bool (lessB a b)) [] := by
  refine Meets.of_walk Tryz.func110 Tryz.ntmps110 low110 res110 (by simp) fun x hx => ?_
  simp only [go_sem, Nat.reduceLT, Nat.reduceAdd, Nat.reduceEqDiff, Nat.reduceLeDiff, Nat.reduceSub, Nat.reduceMul, Int.reduceEq, eq_self, reduceIte, L110, R110, cId]
  refine ops_call (.pure (order_meets a b)) ?_
  have h : lessB a b = decide (ordI a b < 0) := by rw [Bool.eq_iff_iff, decide_eq_true_iff, ordI_lt]
  simp only [go_sem, Nat.reduceLT, Nat.reduceAdd, Nat.reduceEqDiff, Nat.reduceLeDiff, Nat.reduceSub, Nat.reduceMul, Int.reduceEq, eq_self, reduceIte]
  refine ret_pure hx ?_
  simp only [go_sem, Nat.reduceLT, Nat.reduceAdd, Nat.reduceEqDiff, Nat.reduceLeDiff, Nat.reduceSub, Nat.reduceMul, Int.reduceEq, eq_self, reduceIte, L110, R110, h]
theorem colors_meets (n : Int) : Meets Tryz.prog 38 [.int .i64 n] [] (.bool (wthn n 1 7)) [] := by
  refine Meets.of_walk Tryz.func38 Tryz.ntmps38 low38 res38 (by simp) fun x hx => ?_
  simp only [go_sem, Nat.reduceLT, Nat.reduceAdd, Nat.reduceEqDiff, Nat.reduceLeDiff, Nat.reduceSub, Nat.reduceMul, Int.reduceEq, eq_self, reduceIte, L38, R38]
  refine ops_call (.pure (within_meets _ _ _)) ?_
  simp only [go_sem, Nat.reduceLT, Nat.reduceAdd, Nat.reduceEqDiff, Nat.reduceLeDiff, Nat.reduceSub, Nat.reduceMul, Int.reduceEq, eq_self, reduceIte]
  refine ret_pure hx ?_
  simp only [go_sem, Nat.reduceLT, Nat.reduceAdd, Nat.reduceEqDiff, Nat.reduceLeDiff, Nat.reduceSub, Nat.reduceMul, Int.reduceEq, eq_self, reduceIte, L38, R38]
end Go.Proofs.YtfdolehffjmdmaaGreatDoor
namespace Go.Proofs.YtfdolehffjmdmaaGreatDoor
set_option linter.unusedSimpArgs false
set_option linter.unusedVariables false
open Go.RowKit
def cE (e : Entry) : List PV := [.int .i64 e.id.r, .int .i64 e.id.n, .int .i64 e.c, .str e.t, .list (e.ls.map cId)]
theorem check_meets (e : Entry) : Meets Tryz.prog 59 [.agg (cE e)] [] (.int .i64 (checkEntry e)) [] := by
  refine Meets.of_walk Tryz.func59 Tryz.ntmps59 low59 res59 (by simp) fun x hx => ?_
  simp only [go_sem, Nat.reduceLT, Nat.reduceAdd, Nat.reduceEqDiff, Nat.reduceLeDiff, Nat.reduceSub, Nat.reduceMul, Int.reduceEq, eq_self, reduceIte, L59, R59, cE]
  refine ops_call (.pure (id_meets _ _)) ?_
  cases h1 : okId e.id
  · simp only [go_sem, Nat.reduceLT, Nat.reduceAdd, Nat.reduceEqDiff, Nat.reduceLeDiff, Nat.reduceSub, Nat.reduceMul, Int.reduceEq, eq_self, reduceIte]
    refine ret_pure hx ?_
    simp [go_sem, Nat.reduceLT, Nat.reduceAdd, Nat.reduceEqDiff, Nat.reduceLeDiff, Nat.reduceSub, Nat.reduceMul, Int.reduceEq, eq_self, reduceIte, L59, R59, checkEntry, h1]
  simp only [go_sem, Nat.reduceLT, Nat.reduceAdd, Nat.reduceEqDiff, Nat.reduceLeDiff, Nat.reduceSub, Nat.reduceMul, Int.reduceEq, eq_self, reduceIte]
  refine ops_call (.pure (colors_meets _)) ?_
  cases h2 : wthn e.c 1 7
  · simp only [go_sem, Nat.reduceLT, Nat.reduceAdd, Nat.reduceEqDiff, Nat.reduceLeDiff, Nat.reduceSub, Nat.reduceMul, Int.reduceEq, eq_self, reduceIte]
    refine ret_pure hx ?_
    simp [go_sem, Nat.reduceLT, Nat.reduceAdd, Nat.reduceEqDiff, Nat.reduceLeDiff, Nat.reduceSub, Nat.reduceMul, Int.reduceEq, eq_self, reduceIte, L59, R59, checkEntry, h1, h2]
  by_cases h3 : 12 < e.t.size
  · have h3' : decide ((12 : Int) < e.t.size) = true := by simp; omega
    simp only [go_sem, Nat.reduceLT, Nat.reduceAdd, Nat.reduceEqDiff, Nat.reduceLeDiff, Nat.reduceSub, Nat.reduceMul, Int.reduceEq, eq_self, reduceIte, h3']
    refine ret_pure hx ?_
    simp [go_sem, Nat.reduceLT, Nat.reduceAdd, Nat.reduceEqDiff, Nat.reduceLeDiff, Nat.reduceSub, Nat.reduceMul, Int.reduceEq, eq_self, reduceIte, L59, R59, checkEntry, h1, h2, h3]
  have h3' : decide ((12 : Int) < e.t.size) = false := by simp; omega
  by_cases h4 : 6 < e.ls.length
  · have h4' : decide ((6 : Int) < (e.ls.length : Nat)) = true := by simp; omega
    simp only [go_sem, Nat.reduceLT, Nat.reduceAdd, Nat.reduceEqDiff, Nat.reduceLeDiff, Nat.reduceSub, Nat.reduceMul, Int.reduceEq, eq_self, reduceIte, h3', h4']
    refine ret_pure hx ?_
    simp [go_sem, Nat.reduceLT, Nat.reduceAdd, Nat.reduceEqDiff, Nat.reduceLeDiff, Nat.reduceSub, Nat.reduceMul, Int.reduceEq, eq_self, reduceIte, L59, R59, checkEntry, h1, h2, h3, h4]
  have h4' : decide ((6 : Int) < (e.ls.length : Nat)) = false := by simp; omega
  have hc : checkEntry e = firstNZ (linkErr e.id e.ls) e.ls.length := by simp [checkEntry, h1, h2, h3, h4]
  simp only [go_sem, Nat.reduceLT, Nat.reduceAdd, Nat.reduceEqDiff, Nat.reduceLeDiff, Nat.reduceSub, Nat.reduceMul, Int.reduceEq, eq_self, reduceIte, h3', h4', hc]
  refine loop_inv [1, 28, 29, 30] 1 (fun n st => ∃ k : Nat, k + n = e.ls.length ∧ firstNZ (linkErr e.id e.ls) k = 0 ∧
    st = ⟨mkE .top [(1, .ptr 0 0), (28, .list (e.ls.map cId)), (29, .int .i64 e.ls.length), (30, .int .i64 k)], [.box (cE e)]⟩) e.ls.length (by simp [hx]) (by simp) ?_ ?_
  · refine ⟨0, by omega, rfl, ?_⟩
    simp [trim_mk, go_sem, Nat.reduceLT, Nat.reduceAdd, Nat.reduceEqDiff, Nat.reduceLeDiff, Nat.reduceSub, Nat.reduceMul, Int.reduceEq, eq_self, reduceIte, subHeap, renObj, pos, List.range_succ, cE]
  · rintro n st ⟨k, hk, hz, rfl⟩
    simp only [go_sem, Nat.reduceLT, Nat.reduceAdd, Nat.reduceEqDiff, Nat.reduceLeDiff, Nat.reduceSub, Nat.reduceMul, Int.reduceEq, eq_self, reduceIte, cE]
    by_cases hlt : k < e.ls.length
    · have hg : e.ls[k]? = some (nth e.ls k) := nth_get? _ _ hlt
      simp only [go_sem, Nat.reduceLT, Nat.reduceAdd, Nat.reduceEqDiff, Nat.reduceLeDiff, Nat.reduceSub, Nat.reduceMul, Int.reduceEq, eq_self, reduceIte, hlt, hg, cId]
      refine ops_call (.pure (id_meets _ _)) ?_
      cases h5 : okId (nth e.ls k)
      · have h5' : okId ⟨(nth e.ls k).r, (nth e.ls k).n⟩ = false := h5
        simp only [go_sem, Nat.reduceLT, Nat.reduceAdd, Nat.reduceEqDiff, Nat.reduceLeDiff, Nat.reduceSub, Nat.reduceMul, Int.reduceEq, eq_self, reduceIte, h5']
        refine ret_pure hx ?_
        have : linkErr e.id e.ls k = 3 := by simp [linkErr, h5]
        simp only [go_sem, Nat.reduceLT, Nat.reduceAdd, Nat.reduceEqDiff, Nat.reduceLeDiff, Nat.reduceSub, Nat.reduceMul, Int.reduceEq, eq_self, reduceIte, hc, firstNZ_hit hz (by rw [this]; decide) hlt, this]
      have h5' : okId ⟨(nth e.ls k).r, (nth e.ls k).n⟩ = true := h5
      have w1 : IntKind.i64.wrap ((k : Int) + 1) = ((k + 1 : Nat) : Int) := by rw [IntWalk.i64_in _ (by omega)]; omega
      have okw : (k = 0 ∨ ordI (nth e.ls (k - 1)) (nth e.ls k) < 0) → lessB (nth e.ls (k - 1)) (nth e.ls k) = true ∨ k = 0 := fun h => by
        rcases h with h | h
        · exact .inr h
        · exact .inl (ordI_lt.1 h)
      by_cases hb : 0 < k ∧ 0 ≤ ordI (nth e.ls (k - 1)) (nth e.ls k)
      · obtain ⟨h0, h6⟩ := hb
        have hg1 : e.ls[k - 1]? = some (nth e.ls (k - 1)) := nth_get? _ _ (by omega)
        have e1 : IntKind.i64.wrap ((k : Int) - 1) = ((k - 1 : Nat) : Int) := by rw [IntWalk.i64_in _ (by omega)]; omega
        have d0 : decide ((0 : Int) < (k : Int)) = true := by simp; omega
        have hlt1 : k - 1 < e.ls.length := by omega
        simp only [go_sem, Nat.reduceLT, Nat.reduceAdd, Nat.reduceEqDiff, Nat.reduceLeDiff, Nat.reduceSub, Nat.reduceMul, Int.reduceEq, eq_self, reduceIte, h5', d0, hlt1, hg1, e1, cId]
        refine ops_call (.pure (order_meets (nth e.ls (k - 1)) (nth e.ls k))) ?_
        simp only [go_sem, Nat.reduceLT, Nat.reduceAdd, Nat.reduceEqDiff, Nat.reduceLeDiff, Nat.reduceSub, Nat.reduceMul, Int.reduceEq, eq_self, reduceIte, h6]
        refine ret_pure hx ?_
        have hl : lessB (nth e.ls (k - 1)) (nth e.ls k) = false := by rw [← Bool.not_eq_true, ← ordI_lt]; omega
        have : linkErr e.id e.ls k = 4 := by simp [linkErr, h5, h0, hl]
        simp only [go_sem, Nat.reduceLT, Nat.reduceAdd, Nat.reduceEqDiff, Nat.reduceLeDiff, Nat.reduceSub, Nat.reduceMul, Int.reduceEq, eq_self, reduceIte, hc, firstNZ_hit hz (by rw [this]; decide) hlt, this]
      · have hok : k = 0 ∨ lessB (nth e.ls (k - 1)) (nth e.ls k) = true := by
          rcases Nat.eq_zero_or_pos k with h | h
          · exact .inl h
          · exact .inr (ordI_lt.1 (by omega))
        have fin : ∀ H : List AObj, 1 ≤ H.length → H.take 1 = [.box (cE e)] → True := fun _ _ _ => trivial
        by_cases h0 : 0 < k
        · have hg1 : e.ls[k - 1]? = some (nth e.ls (k - 1)) := nth_get? _ _ (by omega)
          have e1 : IntKind.i64.wrap ((k : Int) - 1) = ((k - 1 : Nat) : Int) := by rw [IntWalk.i64_in _ (by omega)]; omega
          have d0 : decide ((0 : Int) < (k : Int)) = true := by simp; omega
          have hlt1 : k - 1 < e.ls.length := by omega
          have h6 : ¬ 0 ≤ ordI (nth e.ls (k - 1)) (nth e.ls k) := fun h => hb ⟨h0, h⟩
          have hl : lessB (nth e.ls (k - 1)) (nth e.ls k) = true := ordI_lt.1 (by omega)
          simp only [go_sem, Nat.reduceLT, Nat.reduceAdd, Nat.reduceEqDiff, Nat.reduceLeDiff, Nat.reduceSub, Nat.reduceMul, Int.reduceEq, eq_self, reduceIte, h5', d0, hlt1, hg1, e1, cId]
          refine ops_call (.pure (order_meets (nth e.ls (k - 1)) (nth e.ls k))) ?_
          by_cases h7 : (nth e.ls k).r = e.id.r <;> by_cases h8 : e.id.n ≤ (nth e.ls k).n <;> simp only [go_sem, Nat.reduceLT, Nat.reduceAdd, Nat.reduceEqDiff, Nat.reduceLeDiff, Nat.reduceSub, Nat.reduceMul, Int.reduceEq, eq_self, reduceIte, h6, h7, h8]
          · refine ret_pure hx ?_
            have : linkErr e.id e.ls k = 4 := by simp [linkErr, h5, hl, h7, h8]
            simp only [go_sem, Nat.reduceLT, Nat.reduceAdd, Nat.reduceEqDiff, Nat.reduceLeDiff, Nat.reduceSub, Nat.reduceMul, Int.reduceEq, eq_self, reduceIte, hc, firstNZ_hit hz (by rw [this]; decide) hlt, this]
          all_goals
            have : linkErr e.id e.ls k = 0 := by simp [linkErr, h5, hl, h7, h8]
            refine ⟨by simp, n - 1, by omega, k + 1, by omega, firstNZ_succ hz this, ?_⟩
            simp [trim_mk, go_sem, Nat.reduceLT, Nat.reduceAdd, Nat.reduceEqDiff, Nat.reduceLeDiff, Nat.reduceSub, Nat.reduceMul, Int.reduceEq, eq_self, reduceIte, subHeap, renObj, pos, List.range_succ, cE, w1]
        · have d0 : decide ((0 : Int) < (k : Int)) = false := by simp; omega
          by_cases h7 : (nth e.ls k).r = e.id.r <;> by_cases h8 : e.id.n ≤ (nth e.ls k).n <;> simp only [go_sem, Nat.reduceLT, Nat.reduceAdd, Nat.reduceEqDiff, Nat.reduceLeDiff, Nat.reduceSub, Nat.reduceMul, Int.reduceEq, eq_self, reduceIte, h5', d0, h7, h8]
          · refine ret_pure hx ?_
            have : linkErr e.id e.ls k = 4 := by simp [linkErr, h5, h0, h7, h8]
            simp only [go_sem, Nat.reduceLT, Nat.reduceAdd, Nat.reduceEqDiff, Nat.reduceLeDiff, Nat.reduceSub, Nat.reduceMul, Int.reduceEq, eq_self, reduceIte, hc, firstNZ_hit hz (by rw [this]; decide) hlt, this]
          all_goals
            have : linkErr e.id e.ls k = 0 := by simp [linkErr, h5, h0, h7, h8]
            refine ⟨by simp, n - 1, by omega, k + 1, by omega, firstNZ_succ hz this, ?_⟩
            simp [trim_mk, go_sem, Nat.reduceLT, Nat.reduceAdd, Nat.reduceEqDiff, Nat.reduceLeDiff, Nat.reduceSub, Nat.reduceMul, Int.reduceEq, eq_self, reduceIte, subHeap, renObj, pos, List.range_succ, cE, w1]
    · simp only [go_sem, Nat.reduceLT, Nat.reduceAdd, Nat.reduceEqDiff, Nat.reduceLeDiff, Nat.reduceSub, Nat.reduceMul, Int.reduceEq, eq_self, reduceIte, hlt]
      refine ret_pure hx ?_
      simp only [go_sem, Nat.reduceLT, Nat.reduceAdd, Nat.reduceEqDiff, Nat.reduceLeDiff, Nat.reduceSub, Nat.reduceMul, Int.reduceEq, eq_self, reduceIte]
      first | rw [hc, show e.ls.length = k by omega, hz] | rw [show e.ls.length = k by omega, hz]
end Go.Proofs.YtfdolehffjmdmaaGreatDoor
/- What the law texts say of entries, in words of their own: contracts. -/
namespace Go.Proofs.YtfdolehffjmdmaaGreatDoor
set_option linter.unusedSimpArgs false
set_option linter.unusedVariables false
open Go.RowKit
theorem between_meets (n a b : Int) : Meets Tryz.prog 49 [.int .i64 n, .int .i64 a, .int .i64 b] [] (.bool (wthn n a b)) [] := by
  refine Meets.of_walk Tryz.func49 Tryz.ntmps49 low49 res49 (by simp) fun x hx => ?_
  by_cases h : a ≤ n
  all_goals
    simp only [go_sem, Nat.reduceLT, Nat.reduceAdd, Nat.reduceEqDiff, Nat.reduceLeDiff, Nat.reduceSub, Nat.reduceMul, Int.reduceEq, eq_self, reduceIte, L49, R49, h, decide_true, decide_false]
    refine ret_pure hx ?_
    simp only [go_sem, Nat.reduceLT, Nat.reduceAdd, Nat.reduceEqDiff, Nat.reduceLeDiff, Nat.reduceSub, Nat.reduceMul, Int.reduceEq, eq_self, reduceIte, L49, R49, wthn, h, decide_false, true_and, false_and]
theorem lawId_meets (r n : Int) : Meets Tryz.prog 55 [.int .i64 r, .int .i64 n] [] (.agg [.int .i64 r, .int .i64 n]) [] := by
  refine Meets.of_walk Tryz.func55 Tryz.ntmps55 low55 res55 (by simp) fun x hx => ?_
  simp only [go_sem, Nat.reduceLT, Nat.reduceAdd, Nat.reduceEqDiff, Nat.reduceLeDiff, Nat.reduceSub, Nat.reduceMul, Int.reduceEq, eq_self, reduceIte, L55, R55]
  refine ret_pure hx ?_
  simp [go_sem, Nat.reduceLT, Nat.reduceAdd, Nat.reduceEqDiff, Nat.reduceLeDiff, Nat.reduceSub, Nat.reduceMul, Int.reduceEq, eq_self, reduceIte, L55, R55]
end Go.Proofs.YtfdolehffjmdmaaGreatDoor
/- Ids and entries that are the same. -/
namespace Go.Proofs.YtfdolehffjmdmaaGreatDoor
set_option linter.unusedSimpArgs false
set_option linter.unusedVariables false
open Go.RowKit
theorem ids_ext' {x y : List Id} (hl : x.length = y.length) (h : ∀ k, k < x.length → nth x k = nth y k) : x = y := by
  refine List.ext_getElem hl fun k h1 h2 => ?_
  have := h k h1
  rwa [nth_eq _ _ h1, nth_eq _ _ h2] at this
theorem i64_up {k : Nat} (h : k < 9223372036854775807) : IntKind.i64.wrap ((k : Int) + 1) = ((k + 1 : Nat) : Int) := by
  rw [IntWalk.i64_in _ (by omega)]; omega
theorem beqId (a b : Id) : (decide (a.r = b.r) && decide (a.n = b.n)) = decide (a = b) := by
  rw [Bool.eq_iff_iff]; simp [Id.eq_iff]
theorem sameIds_meets (a b : List Id) (hm : a.length ≤ 9223372036854775807) : Meets Tryz.prog 58 [.list (a.map cId), .list (b.map cId)] [] (.bool (decide (a = b))) [] := by
  refine Meets.of_walk Tryz.func58 Tryz.ntmps58 low58 res58 (by simp) fun x hx => ?_
  by_cases hl : a.length = b.length
  · have hl' : ((a.length : Int) = (b.length : Int)) = True := by simp [hl]
    simp only [go_sem, Nat.reduceLT, Nat.reduceAdd, Nat.reduceEqDiff, Nat.reduceLeDiff, Nat.reduceSub, Nat.reduceMul, Int.reduceEq, eq_self, reduceIte, L58, R58, hl']
    refine loop_inv [0, 1, 5] 0 (fun n st => ∃ k : Nat, k + n = a.length ∧ (∀ j, j < k → nth a j = nth b j) ∧
      st = ⟨mkE .top [(0, .list (a.map cId)), (1, .list (b.map cId)), (5, .int .i64 k)], []⟩) a.length (by simp [hx]) (by simp) ?_ ?_
    · refine ⟨0, by omega, fun j h => by omega, ?_⟩
      simp [trim_mk, go_sem, Nat.reduceLT, Nat.reduceAdd, Nat.reduceEqDiff, Nat.reduceLeDiff, Nat.reduceSub, Nat.reduceMul, Int.reduceEq, eq_self, reduceIte, subHeap, renObj, pos, List.range_succ]
    · rintro n st ⟨k, hk, hz, rfl⟩
      simp only [go_sem, Nat.reduceLT, Nat.reduceAdd, Nat.reduceEqDiff, Nat.reduceLeDiff, Nat.reduceSub, Nat.reduceMul, Int.reduceEq, eq_self, reduceIte]
      by_cases hlt : k < a.length
      · have hg : a[k]? = some (nth a k) := nth_get? _ _ hlt
        have hlt2 : k < b.length := by omega
        have hg2 : b[k]? = some (nth b k) := nth_get? _ _ hlt2
        have hw := i64_up (k := k) (by omega)
        by_cases he : nth a k = nth b k
        · simp only [go_sem, Nat.reduceLT, Nat.reduceAdd, Nat.reduceEqDiff, Nat.reduceLeDiff, Nat.reduceSub, Nat.reduceMul, Int.reduceEq, eq_self, reduceIte, hlt, hlt2, hg, hg2, cId, he, hw]
          refine ⟨by simp, n - 1, by omega, k + 1, by omega, fun j hj => ?_, ?_⟩
          · by_cases e : j = k
            · rw [e]; exact he
            · exact hz j (by omega)
          · simp [trim_mk, go_sem, Nat.reduceLT, Nat.reduceAdd, Nat.reduceEqDiff, Nat.reduceLeDiff, Nat.reduceSub, Nat.reduceMul, Int.reduceEq, eq_self, reduceIte, subHeap, renObj, pos]
        · simp only [go_sem, Nat.reduceLT, Nat.reduceAdd, Nat.reduceEqDiff, Nat.reduceLeDiff, Nat.reduceSub, Nat.reduceMul, Int.reduceEq, eq_self, reduceIte, hlt, hlt2, hg, hg2, cId, beqId, he]
          refine ret_pure hx ?_
          have : ¬ a = b := fun e => he (by rw [e])
          simp [go_sem, Nat.reduceLT, Nat.reduceAdd, Nat.reduceEqDiff, Nat.reduceLeDiff, Nat.reduceSub, Nat.reduceMul, Int.reduceEq, eq_self, reduceIte, L58, R58, this]
      · simp only [go_sem, Nat.reduceLT, Nat.reduceAdd, Nat.reduceEqDiff, Nat.reduceLeDiff, Nat.reduceSub, Nat.reduceMul, Int.reduceEq, eq_self, reduceIte, hlt, decide_false]
        refine ret_pure hx ?_
        have : a = b := ids_ext' hl fun j hj => hz j (by omega)
        simp [go_sem, Nat.reduceLT, Nat.reduceAdd, Nat.reduceEqDiff, Nat.reduceLeDiff, Nat.reduceSub, Nat.reduceMul, Int.reduceEq, eq_self, reduceIte, L58, R58, this]
  · have hl' : ((a.length : Int) = (b.length : Int)) = False := by simp; omega
    simp only [go_sem, Nat.reduceLT, Nat.reduceAdd, Nat.reduceEqDiff, Nat.reduceLeDiff, Nat.reduceSub, Nat.reduceMul, Int.reduceEq, eq_self, reduceIte, L58, R58, hl']
    refine ret_pure hx ?_
    have : ¬ a = b := fun e => hl (by rw [e])
    simp [go_sem, Nat.reduceLT, Nat.reduceAdd, Nat.reduceEqDiff, Nat.reduceLeDiff, Nat.reduceSub, Nat.reduceMul, Int.reduceEq, eq_self, reduceIte, L58, R58, this]
end Go.Proofs.YtfdolehffjmdmaaGreatDoor
/- Entries that are the same; what is wrong with an entry, in the law text's words. -/
namespace Go.Proofs.YtfdolehffjmdmaaGreatDoor
set_option linter.unusedSimpArgs false
set_option linter.unusedVariables false
open Go.RowKit
end Go.Proofs.YtfdolehffjmdmaaGreatDoor
/- What is wrong with an entry, in the law text's words: a contract. -/
namespace Go.Proofs.YtfdolehffjmdmaaGreatDoor
set_option linter.unusedSimpArgs false
set_option linter.unusedVariables false
open Go.RowKit
end Go.Proofs.YtfdolehffjmdmaaGreatDoor
/- Words: what a key or a value may be. -/
namespace Go.Proofs.YtfdolehffjmdmaaGreatDoor
set_option linter.unusedSimpArgs false
set_option linter.unusedVariables false
open Go.RowKit
def okc (c : UInt8) : Bool := (decide ((97 : Int) ≤ (c.toNat : Int)) && decide ((c.toNat : Int) ≤ 122)) || (decide ((48 : Int) ≤ (c.toNat : Int)) && decide ((c.toNat : Int) ≤ 57))
def wordL (l : List UInt8) : Bool := l.all okc && decide (1 ≤ l.length) && decide (l.length ≤ 3)
def wordS (s : ByteArray) : Bool := wordL s.data.toList
theorem sz_list (s : ByteArray) : s.data.toList.length = s.size := by show s.data.toList.length = s.data.size; simp
theorem byte_get {s : ByteArray} {k : Nat} (h : k < s.size) : s[k]? = some s[k] := by
  exact getElem?_pos s k h
theorem byte_list {s : ByteArray} {k : Nat} (h : k < s.size) : s.data.toList[k]? = some s[k] := by
  rw [List.getElem?_eq_getElem (by rw [sz_list]; exact h)]
  simp [ByteArray.getElem_eq_getElem_data]
theorem all_take_succ {s : ByteArray} {k : Nat} (h : k < s.size) : (s.data.toList.take (k + 1)).all okc = ((s.data.toList.take k).all okc && okc s[k]) := by
  rw [List.take_add_one, byte_list h]
  simp [List.all_append]
theorem not_word {s : ByteArray} {k : Nat} (h : k < s.size) (hc : okc s[k] = false) : wordS s = false := by
  have : s.data.toList.all okc = false := by
    rw [List.all_eq_false]
    exact ⟨s[k], List.mem_of_getElem? (byte_list h), by simp [hc]⟩
  simp [wordS, wordL, this]
theorem word_end {s : ByteArray} (h : s.data.toList.all okc = true) : wordS s = (decide ((1 : Int) ≤ (s.size : Int)) && decide ((s.size : Int) ≤ 3)) := by
  rw [wordS, wordL, h, sz_list, Bool.true_and]
  congr 1
  all_goals (rw [Bool.eq_iff_iff, decide_eq_true_iff, decide_eq_true_iff]; omega)
set_option maxRecDepth 10000 in
set_option maxHeartbeats 2000000 in
theorem word_meets (s : ByteArray) (hs : s.size ≤ 1000000000000000) : Meets Tryz.prog 40 [.str s] [] (.bool (wordS s)) [] := by
  refine Meets.of_walk Tryz.func40 Tryz.ntmps40 low40 res40 (by simp) fun x hx => ?_
  simp only [go_sem, Nat.reduceLT, Nat.reduceAdd, Nat.reduceEqDiff, Nat.reduceLeDiff, Nat.reduceSub, Nat.reduceMul, Int.reduceEq, eq_self, reduceIte, L40, R40]
  refine loop_inv [0, 6, 7] 0 (fun m st => ∃ k : Nat, k + m = s.size ∧ (s.data.toList.take k).all okc = true ∧
    st = ⟨mkE .top [(0, .str s), (6, .int .i64 s.size), (7, .int .i64 k)], []⟩) s.size (by simp [hx]) (by simp) ?_ ?_
  · refine ⟨0, by omega, by simp, ?_⟩
    simp [trim_mk, go_sem, Nat.reduceLT, Nat.reduceAdd, Nat.reduceEqDiff, Nat.reduceLeDiff, Nat.reduceSub, Nat.reduceMul, Int.reduceEq, eq_self, reduceIte, subHeap, renObj, pos, List.range_succ]
  · rintro m st ⟨k, hk, hall, rfl⟩
    by_cases hlt : k < s.size
    · have hg := byte_get hlt
      have hw := i64_up (k := k) (by omega)
      have hst := all_take_succ hlt
      have hnw := fun h => not_word (s := s) (k := k) hlt h
      generalize s[k] = c at hg hst hnw
      by_cases h1 : (97 : Int) ≤ (c.toNat : Int) <;> by_cases h2 : (c.toNat : Int) ≤ 122 <;> by_cases h3 : (48 : Int) ≤ (c.toNat : Int) <;> by_cases h4 : (c.toNat : Int) ≤ 57
      all_goals first
        | (exfalso; omega)
        | (have ho : okc c = true := by simp [okc, h1, h2, h3, h4]
           simp only [go_sem, Nat.reduceLT, Nat.reduceAdd, Nat.reduceEqDiff, Nat.reduceLeDiff, Nat.reduceSub, Nat.reduceMul, Int.reduceEq, eq_self, reduceIte, Int.ofNat_zero, Int.natCast_one, Int.cast_ofNat_Int, Int.reduceLT, Int.reduceLE, Int.reduceToNat, Nat.reduceLT, Int.toNat_zero, Int.natCast_zero, Int.le_refl, Int.lt_irrefl, Int.reduceAdd, frz, false_or, or_true, hlt, hg, h1, h2, h3, h4, decide_true, decide_false, hw]
           refine ⟨by simp, m - 1, by omega, k + 1, by omega, by rw [hst, hall, ho]; rfl, ?_⟩
           simp [trim_mk, go_sem, Nat.reduceLT, Nat.reduceAdd, Nat.reduceEqDiff, Nat.reduceLeDiff, Nat.reduceSub, Nat.reduceMul, Int.reduceEq, eq_self, reduceIte, subHeap, renObj, pos, List.range_succ]
           done)
        | (have ho : okc c = false := by simp [okc, h1, h2, h3, h4]
           have hno := hnw ho
           simp only [go_sem, Nat.reduceLT, Nat.reduceAdd, Nat.reduceEqDiff, Nat.reduceLeDiff, Nat.reduceSub, Nat.reduceMul, Int.reduceEq, eq_self, reduceIte, Int.ofNat_zero, Int.natCast_one, Int.cast_ofNat_Int, Int.reduceLT, Int.reduceLE, Int.reduceToNat, Nat.reduceLT, Int.toNat_zero, Int.natCast_zero, Int.le_refl, Int.lt_irrefl, Int.reduceAdd, frz, false_or, or_true, hlt, hg, h1, h2, h3, h4, decide_true, decide_false]
           refine ret_pure hx ?_
           simp [go_sem, Nat.reduceLT, Nat.reduceAdd, Nat.reduceEqDiff, Nat.reduceLeDiff, Nat.reduceSub, Nat.reduceMul, Int.reduceEq, eq_self, reduceIte, L40, R40, hno]
           done)
    · have hke : k = s.size := by omega
      rw [List.take_of_length_le (by rw [sz_list]; omega)] at hall
      have hwe := word_end hall
      by_cases h1 : (1 : Int) ≤ (s.size : Int) <;> by_cases h2 : (s.size : Int) ≤ 3
      all_goals
        simp only [go_sem, Nat.reduceLT, Nat.reduceAdd, Nat.reduceEqDiff, Nat.reduceLeDiff, Nat.reduceSub, Nat.reduceMul, Int.reduceEq, eq_self, reduceIte, Int.ofNat_zero, Int.natCast_one, Int.cast_ofNat_Int, Int.reduceLT, Int.reduceLE, Int.reduceToNat, Nat.reduceLT, Int.toNat_zero, Int.natCast_zero, Int.le_refl, Int.lt_irrefl, Int.reduceAdd, frz, false_or, or_true, hlt, h1, h2, decide_true, decide_false]
        refine ret_pure hx ?_
        simp [go_sem, Nat.reduceLT, Nat.reduceAdd, Nat.reduceEqDiff, Nat.reduceLeDiff, Nat.reduceSub, Nat.reduceMul, Int.reduceEq, eq_self, reduceIte, L40, R40, hwe, h1, h2]
set_option maxRecDepth 10000 in
set_option maxHeartbeats 2000000 in
theorem isWord_meets (s : ByteArray) (hs : s.size ≤ 1000000000000000) : Meets Tryz.prog 13 [.str s] [] (.bool (wordS s)) [] := by
  refine Meets.of_walk Tryz.func13 Tryz.ntmps13 low13 res13 (by simp) fun x hx => ?_
  simp only [go_sem, Nat.reduceLT, Nat.reduceAdd, Nat.reduceEqDiff, Nat.reduceLeDiff, Nat.reduceSub, Nat.reduceMul, Int.reduceEq, eq_self, reduceIte, L13, R13]
  refine loop_inv [0, 3] 0 (fun m st => ∃ k : Nat, k + m = s.size ∧ (s.data.toList.take k).all okc = true ∧
    st = ⟨mkE .top [(0, .str s), (3, .int .i64 k)], []⟩) s.size (by simp [hx]) (by simp) ?_ ?_
  · refine ⟨0, by omega, by simp, ?_⟩
    simp [trim_mk, go_sem, Nat.reduceLT, Nat.reduceAdd, Nat.reduceEqDiff, Nat.reduceLeDiff, Nat.reduceSub, Nat.reduceMul, Int.reduceEq, eq_self, reduceIte, subHeap, renObj, pos, List.range_succ]
  · rintro m st ⟨k, hk, hall, rfl⟩
    by_cases hlt : k < s.size
    · have hg := byte_get hlt
      have hw := i64_up (k := k) (by omega)
      have hst := all_take_succ hlt
      have hnw := fun h => not_word (s := s) (k := k) hlt h
      generalize s[k] = c at hg hst hnw
      have hcw : IntKind.i64.wrap (c.toNat : Int) = (c.toNat : Int) := by rw [IntWalk.i64_in _ (by have := c.toNat_lt; omega)]
      simp only [go_sem, Nat.reduceLT, Nat.reduceAdd, Nat.reduceEqDiff, Nat.reduceLeDiff, Nat.reduceSub, Nat.reduceMul, Int.reduceEq, eq_self, reduceIte, Int.ofNat_zero, Int.natCast_one, Int.cast_ofNat_Int, Int.reduceLT, Int.reduceLE, Int.reduceToNat, Nat.reduceLT, Int.toNat_zero, Int.natCast_zero, Int.le_refl, Int.lt_irrefl, Int.reduceAdd, frz, false_or, or_true, hlt, hg, hcw]
      refine ops_call (.pure (between_meets _ _ _)) ?_
      cases ha : wthn (c.toNat : Int) 97 122
      · simp only [go_sem, Nat.reduceLT, Nat.reduceAdd, Nat.reduceEqDiff, Nat.reduceLeDiff, Nat.reduceSub, Nat.reduceMul, Int.reduceEq, eq_self, reduceIte, Int.ofNat_zero, Int.natCast_one, Int.cast_ofNat_Int, Int.reduceLT, Int.reduceLE, Int.reduceToNat, Nat.reduceLT, Int.toNat_zero, Int.natCast_zero, Int.le_refl, Int.lt_irrefl, Int.reduceAdd, frz, false_or, or_true, hlt, hg, hcw]
        refine ops_call (.pure (between_meets _ _ _)) ?_
        cases hb : wthn (c.toNat : Int) 48 57
        · have hno := hnw (by simp [okc, wthn] at ha hb ⊢; omega)
          simp only [go_sem, Nat.reduceLT, Nat.reduceAdd, Nat.reduceEqDiff, Nat.reduceLeDiff, Nat.reduceSub, Nat.reduceMul, Int.reduceEq, eq_self, reduceIte, Int.ofNat_zero, Int.natCast_one, Int.cast_ofNat_Int, Int.reduceLT, Int.reduceLE, Int.reduceToNat, Nat.reduceLT, Int.toNat_zero, Int.natCast_zero, Int.le_refl, Int.lt_irrefl, Int.reduceAdd, frz, false_or, or_true]
          refine ret_pure hx ?_
          simp [go_sem, Nat.reduceLT, Nat.reduceAdd, Nat.reduceEqDiff, Nat.reduceLeDiff, Nat.reduceSub, Nat.reduceMul, Int.reduceEq, eq_self, reduceIte, L13, R13, hno]
        · have ho : okc c = true := by simp [okc, wthn] at ha hb ⊢; omega
          simp only [go_sem, Nat.reduceLT, Nat.reduceAdd, Nat.reduceEqDiff, Nat.reduceLeDiff, Nat.reduceSub, Nat.reduceMul, Int.reduceEq, eq_self, reduceIte, Int.ofNat_zero, Int.natCast_one, Int.cast_ofNat_Int, Int.reduceLT, Int.reduceLE, Int.reduceToNat, Nat.reduceLT, Int.toNat_zero, Int.natCast_zero, Int.le_refl, Int.lt_irrefl, Int.reduceAdd, frz, false_or, or_true, hw]
          refine ⟨by simp, m - 1, by omega, k + 1, by omega, by rw [hst, hall, ho]; rfl, ?_⟩
          simp [trim_mk, go_sem, Nat.reduceLT, Nat.reduceAdd, Nat.reduceEqDiff, Nat.reduceLeDiff, Nat.reduceSub, Nat.reduceMul, Int.reduceEq, eq_self, reduceIte, subHeap, renObj, pos, List.range_succ]
      · have ho : okc c = true := by simp [okc, wthn] at ha ⊢; omega
        simp only [go_sem, Nat.reduceLT, Nat.reduceAdd, Nat.reduceEqDiff, Nat.reduceLeDiff, Nat.reduceSub, Nat.reduceMul, Int.reduceEq, eq_self, reduceIte, Int.ofNat_zero, Int.natCast_one, Int.cast_ofNat_Int, Int.reduceLT, Int.reduceLE, Int.reduceToNat, Nat.reduceLT, Int.toNat_zero, Int.natCast_zero, Int.le_refl, Int.lt_irrefl, Int.reduceAdd, frz, false_or, or_true, hw]
        refine ⟨by simp, m - 1, by omega, k + 1, by omega, by rw [hst, hall, ho]; rfl, ?_⟩
        simp [trim_mk, go_sem, Nat.reduceLT, Nat.reduceAdd, Nat.reduceEqDiff, Nat.reduceLeDiff, Nat.reduceSub, Nat.reduceMul, Int.reduceEq, eq_self, reduceIte, subHeap, renObj, pos, List.range_succ]
    · have hke : k = s.size := by omega
      rw [List.take_of_length_le (by rw [sz_list]; omega)] at hall
      have hwe := word_end hall
      simp only [go_sem, Nat.reduceLT, Nat.reduceAdd, Nat.reduceEqDiff, Nat.reduceLeDiff, Nat.reduceSub, Nat.reduceMul, Int.reduceEq, eq_self, reduceIte, Int.ofNat_zero, Int.natCast_one, Int.cast_ofNat_Int, Int.reduceLT, Int.reduceLE, Int.reduceToNat, Nat.reduceLT, Int.toNat_zero, Int.natCast_zero, Int.le_refl, Int.lt_irrefl, Int.reduceAdd, frz, false_or, or_true, hlt, decide_false]
      refine ops_call (.pure (between_meets _ _ _)) ?_
      simp only [go_sem, Nat.reduceLT, Nat.reduceAdd, Nat.reduceEqDiff, Nat.reduceLeDiff, Nat.reduceSub, Nat.reduceMul, Int.reduceEq, eq_self, reduceIte]
      refine ret_pure hx ?_
      simp [go_sem, Nat.reduceLT, Nat.reduceAdd, Nat.reduceEqDiff, Nat.reduceLeDiff, Nat.reduceSub, Nat.reduceMul, Int.reduceEq, eq_self, reduceIte, L13, R13, hwe, wthn]
end Go.Proofs.YtfdolehffjmdmaaGreatDoor
/- Array objects and the rows of cells where they lie: what holds in memory of an array, and what may be said when its cells were laid anew. -/
namespace Go.Proofs.YtfdolehffjmdmaaGreatDoor
open Go.RowKit
section
variable {x : Cx} {C : Conc} {H : List AObj} {w w' : World}
theorem HR.row (hr : HR x C H w) {id v T sz : Nat} {sto : Bool} {rows : List (List PV)} {u : Value} (hid : H[id]? = some (.arr v sto false T sz rows)) (hu : RepV (Stab x C H w) w C (.arr id v) u) :
    u = C.sv id ∧ (∀ row ∈ rows, row.length = sz) ∧ (u = .slice none 0 0 ∧ rows = [] ∨ ∃ (g cap : Nat) (cur : Array Value), u = .slice (some ⟨g, 0, none⟩) rows.length cap ∧ w.heap[g]? = some (.cells cur T (0, 0)) ∧ rows.length ≤ cap ∧ cap ≤ maxLen ∧ cur.size = cap * sz ∧
      ∀ (k : Nat) row (j : Nat) p, rows[k]? = some row → row[j]? = some p → ∃ y, cur[k * sz + j]? = some y ∧ y.oneCell' = true ∧ RepP (Stab x C H w) w p y) := by
  obtain ⟨o1, o2, o3, xs, o4, o5⟩ := hr.obj id _ hid
  obtain ⟨e, hi⟩ := hu.arr_inv o1
  refine ⟨e, o3, ?_⟩
  rcases o4.2 with ⟨g1, g2⟩ | ⟨g, cap, cur, g1, -, g2, g3, g4, g5, g6⟩
  · exact .inl ⟨e.trans g1, List.length_eq_zero_iff.1 g2⟩
  · refine .inr ⟨g, cap, cur, e.trans g1, g2, g3, g4, g5, fun k row j p a b => ?_⟩
    have hk : k < rows.length := (List.getElem?_eq_some_iff.1 a).1
    have hj : j < sz := by rw [← o3 row (List.mem_of_getElem? a)]; exact (List.getElem?_eq_some_iff.1 b).1
    have hkl : k * sz + j < rows.length * sz := by
      have : (k + 1) * sz ≤ rows.length * sz := Nat.mul_le_mul_right _ hk
      rw [Nat.add_mul] at this; omega
    have hcl : rows.length * sz ≤ cap * sz := Nat.mul_le_mul_right _ g3
    have hlt : k * sz + j < cur.size := by omega
    have hx : xs[k * sz + j]? = some cur[k * sz + j] := by rw [← g6, List.getElem?_take, if_pos hkl, Array.getElem?_toList, Array.getElem?_eq_getElem hlt]
    have := o5 k row j p _ a b hx
    simp only [Bool.false_eq_true, if_false] at this
    exact ⟨_, Array.getElem?_eq_getElem hlt, this⟩
theorem HR.drop (hr : HR x C H w) {id v T sz g cap' : Nat} {rows rows' : List (List PV)} {cur' : Array Value} {fr : Nat × Nat}
    (hid : H[id]? = some (.arr v true false T sz rows)) (hs : Step w w' fun b => (C.sv id).ownBlock = some b) (hg : (C.sv id).ownBlock = some g)
    (hc : w'.heap[g]? = some (.cells cur' T fr)) (hn : rows'.length ≤ cap') (hm : cap' ≤ maxLen) (hz : cur'.size = cap' * sz) (hrow : ∀ row ∈ rows', row.length = sz)
    (hrep : ∀ (k : Nat) row (j : Nat) p u, rows'[k]? = some row → row[j]? = some p → cur'[k * sz + j]? = some u → RepP (Stab x C H w) w p u) :
    HR x C (H.set id .gone) w' ∧ (∀ p u, RepV (Stab x C H w) w C p u → RepV (Stab x C (H.set id .gone) w') w' C p u) ∧
      RepP (Stab x C (H.set id .gone) w') w' (.list rows') (.slice (some ⟨g, 0, none⟩) rows'.length cap') := by
  obtain ⟨o1, o2, o3, xs, o4, o5⟩ := hr.obj id _ hid
  have hlt : id < H.length := (List.getElem?_eq_some_iff.1 hid).1
  have hgb : g < w'.heap.size := (Array.getElem?_eq_some_iff.1 hc).1
  have hmp : ∀ p v, RepP (Stab x C H w) w p v → RepP (Stab x C (H.set id .gone) w') w' p v := by
    intro p v h
    refine h.mono (fun b o h => ⟨h.1, Nat.lt_of_lt_of_le h.2.1 hs.size, fun i ob1 hi => ?_⟩) fun b o h => cell_eq (hs.blk b h.2.1 fun hb => ?_)
    · by_cases e : i = id
      · subst e; rw [List.getElem?_set_self hlt] at hi; cases hi; trivial
      · rw [List.getElem?_set_ne (Ne.symm e)] at hi; exact h.2.2 i ob1 hi
    · have := h.2.2 id _ hid hb; simp at this
  obtain ⟨k1, k2⟩ := hr.change (C' := C) hid (ob' := .gone) hs rfl (fun _ => rfl) (fun _ _ => ⟨rfl, rfl⟩) (.inl ⟨rfl, rfl⟩)
    (fun b o hb hf => trivial) (fun b o hb hf => by have := hf hb; simp at this) (fun b hb => hb.elim) (fun _ _ => trivial)
  refine ⟨k1, k2, ?_⟩
  refine .list rows' _ cap' sz (fun k j => cur'[k * sz + j]!) hn hm o2 hrow (fun k row j p a b => ⟨g, 0, rfl, ?_, ?_⟩) fun k row j p a b => ?_
  · refine ⟨?_, hgb, fun i ob1 hi => ?_⟩
    · rcases hr.mine id _ g hid hg with h | h
      · exact .inr (.inl h)
      · exact .inr (.inr h)
    · by_cases e : i = id
      · subst e; rw [List.getElem?_set_self hlt] at hi; cases hi; trivial
      · rw [List.getElem?_set_ne (Ne.symm e)] at hi
        exact AObj.free_of_not (fun hb => e (hr.apart i id ob1 _ g hi hid hb hg)) _
  all_goals
    have hk : k < rows'.length := (List.getElem?_eq_some_iff.1 a).1
    have hj : j < sz := by rw [← hrow row (List.mem_of_getElem? a)]; exact (List.getElem?_eq_some_iff.1 b).1
    have hkl : k * sz + j < cur'.size := by
      have h1 : (k + 1) * sz ≤ rows'.length * sz := Nat.mul_le_mul_right _ hk
      have h2 : rows'.length * sz ≤ cap' * sz := Nat.mul_le_mul_right _ hn
      rw [Nat.add_mul] at h1; omega
  · simp [World.cell?, hc, hkl]
  · exact hmp _ _ (hrep k row j p _ a b (by simp [hkl]))
end
end Go.Proofs.YtfdolehffjmdmaaGreatDoor
/- Rows of plain cells: the kit's words on rows, and arrays of the calculus. -/
namespace Go.Proofs.YtfdolehffjmdmaaGreatDoor
open Go.RowKit
open Go.Sort (flatK putRowK HoldsK size_flatK get_flatK putCells mapBlock onCells)
structure Flat {α : Type} (pv : α → List PV) (enc : α → List Value) (k : Nat) : Prop where
  k0 : 0 < k
  len : ∀ a, (enc a).length = k
  lenp : ∀ a, (pv a).length = k
  one : ∀ a, ∀ v ∈ enc a, v.oneCell' = true
  fit : ∀ S w a (j : Nat) p, (pv a)[j]? = some p → RepP S w p ((enc a)[j]!)
  back : ∀ S w a (j : Nat) p u, (pv a)[j]? = some p → RepP S w p u → u = (enc a)[j]!
section
variable {α : Type} [Inhabited α] {pv : α → List PV} {enc : α → List Value} {k : Nat}
theorem Flat.holds (F : Flat pv enc k) {S : Nat → Nat → Prop} {w : World} {g T : Nat} {cur : Array Value} (l : List α) (hc : w.heap[g]? = some (.cells cur T (0, 0)))
    (h : ∀ (i : Nat) row (j : Nat) p, (l.map pv)[i]? = some row → row[j]? = some p → ∃ y, cur[i * k + j]? = some y ∧ y.oneCell' = true ∧ RepP S w p y) : HoldsK enc k w g 0 l.toArray := by
  intro t ht
  rw [size_flatK] at ht
  rw [get_flatK _ _ _ _ ht]
  have k0 := F.k0
  have hi : t / k < l.length := Nat.div_lt_of_lt_mul (by rw [Nat.mul_comm]; simpa using ht)
  have hj : t % k < k := Nat.mod_lt _ k0
  have e : t / k * k + t % k = t := by rw [Nat.mul_comm]; exact Nat.div_add_mod t k
  obtain ⟨y, h1, -, h3⟩ := h (t / k) (pv l[t / k]) (t % k) ((pv l[t / k])[t % k]'(by rw [F.lenp]; exact hj)) (by simp [hi]) (by rw [List.getElem?_eq_getElem (by rw [F.lenp]; exact hj)])
  have h4 := F.back _ _ _ _ _ _ (List.getElem?_eq_getElem (by rw [F.lenp]; exact hj)) h3
  rw [e] at h1
  have e2 : l.toArray[t / k]! = l[t / k] := by simp [hi]
  rw [e2, ← h4]
  refine ⟨?_, ?_⟩
  · simp [World.cell?, hc, h1]
  · simp [World.frozen?, hc]
theorem row_world (enc : α → List Value) (k : Nat) (w : World) (g m : Nat) (d' : Array α) (os : Array Obj) {cur : Array Value} {T : TypeId} {fr : Nat × Nat} (hc : w.heap[g]? = some (.cells cur T fr)) :
    ∃ cur' : Array Value, (sortWorldK enc k w g 0 m d' os).heap[g]? = some (.cells cur' T fr) ∧ cur'.size = cur.size ∧
      (∀ t y, t < d'.size * k → cur'[t]? = some y → y = (flatK enc k d')[t]!) ∧ Step w (sortWorldK enc k w g 0 m d' os) (fun b => b = g) := by
  have hlt : g < w.heap.size := (Array.getElem?_eq_some_iff.1 hc).1
  have hh : (sortWorldK enc k w g 0 m d' os).heap = w.heap.modify g (onCells (putCells id 0 (flatK enc k d'))) ++ os := rfl
  refine ⟨putCells id 0 (flatK enc k d') cur, ?_, by simp [putCells], fun t y ht hy => ?_, ?_⟩
  · rw [hh, Array.getElem?_append_left (by simpa using hlt), Array.getElem?_modify, if_pos rfl, hc]
    rfl
  · rw [putCells, Array.getElem?_mapIdx] at hy
    cases hcu : cur[t]? with
    | none => rw [hcu] at hy; cases hy
    | some z =>
      rw [hcu, Option.map_some, if_pos ⟨Nat.zero_le _, by rw [size_flatK]; omega⟩] at hy
      exact (Option.some.inj hy).symm
  · refine ⟨by rw [hh]; simp, rfl, rfl, rfl, fun b hb hne => ?_⟩
    rw [hh, Array.getElem?_append_left (by simpa using hb), Array.getElem?_modify, if_neg (fun e => hne e.symm)]
theorem Flat.rep (F : Flat pv enc k) {S : Nat → Nat → Prop} {w : World} {d' : Array α} {cur' : Array Value} (h : ∀ t y, t < d'.size * k → cur'[t]? = some y → y = (flatK enc k d')[t]!) {l : List α} (n : Nat) (hl : ∀ i, i < n → l[i]? = some d'[i]!) (hn : l.length = n) (hnd : n ≤ d'.size) :
    ∀ (i : Nat) row (j : Nat) p u, (l.map pv)[i]? = some row → row[j]? = some p → cur'[i * k + j]? = some u → u.oneCell' = true ∧ RepP S w p u := by
  intro i row j p u a b c
  have k0 := F.k0
  rw [List.getElem?_map] at a
  obtain ⟨y, hy, rfl⟩ := Option.map_eq_some_iff.1 a
  have hi : i < n := by rw [← hn]; exact (List.getElem?_eq_some_iff.1 hy).1
  have hj : j < k := by rw [← F.lenp y]; exact (List.getElem?_eq_some_iff.1 b).1
  rw [hl i hi] at hy
  have ht : i * k + j < d'.size * k := by
    have : (i + 1) * k ≤ d'.size * k := Nat.mul_le_mul_right _ (by omega)
    rw [Nat.add_mul] at this; omega
  have hu := h _ _ ht c
  rw [get_flatK _ _ _ _ ht] at hu
  have e1 : (i * k + j) / k = i := by rw [Nat.mul_comm, Nat.mul_add_div k0, Nat.div_eq_of_lt hj]; rfl
  have e2 : (i * k + j) % k = j := by rw [Nat.mul_comm, Nat.mul_add_mod, Nat.mod_eq_of_lt hj]
  rw [e1, e2, Option.some.inj hy] at hu
  subst hu
  refine ⟨F.one y _ ?_, F.fit _ _ _ _ _ b⟩
  rw [getElem!_pos _ j (by rw [F.len]; exact hj)]
  exact List.getElem_mem _
end
end Go.Proofs.YtfdolehffjmdmaaGreatDoor
/- slices.Compact at ids: in memory. -/
namespace Go.Proofs.YtfdolehffjmdmaaGreatDoor
open Go.RowKit Go.Lib Go.Sort
open Go.Shelf
def eId (x : Id) : List Value := [.int .i64 x.r, .int .i64 x.n]
theorem setMany_flat {α : Type} [Inhabited α] (enc : α → List Value) (k : Nat) (hk : ∀ x, (enc x).length = k) (d : Array α) (i : Nat) (hi : i < d.size) (x : α) : setMany (flatK enc k d) (i * k) (enc x) = flatK enc k (d.setIfInBounds i x) := by
  refine ext_get! (by simp) fun t ht => ?_
  have ht' : t < d.size * k := by simpa using ht
  have k0 : 0 < k := by rcases Nat.eq_zero_or_pos k with h | h; · subst h; simp at ht'
                        · exact h
  rw [get_setMany _ _ _ t (by simpa using ht'), get_flatK _ _ _ t ht', get_flatK _ _ _ t (by simpa using ht'), hk]
  by_cases a : t / k = i
  · have m : t - i * k = t % k := by subst a; rw [Nat.mod_eq_sub_div_mul]
    rw [if_pos ((blk_iff k i t k0).2 a), m, a, getElem!_set_same d i x hi]
  · rw [if_neg (fun h => a ((blk_iff k i t k0).1 h)), getElem!_set_other d i _ x a]
theorem run_clear_cells {P : Program} (w : World) (t e ty : TypeId) (z : Value) (ht : P.underlying t = some (.slice e)) (hv : ∀ w, (zeroValue e).run P w = .ok z w) (h1 : ∀ v ∈ z.cells, v.oneCell' = true) (b o n c : Nat) (hn : 0 < n)
    (hc : ∀ j, j < n * z.cells.size → (w.cell? ⟨b, o + j, none⟩).isSome = true) (hf : ∀ j, j < n * z.cells.size → w.frozen? ⟨b, o + j, none⟩ = false) :
    ∃ zs : List Value, zs.length = n * z.cells.size ∧ (Builtin.clear_ #[t] ty #[.slice (some ⟨b, o, none⟩) n c]).run P w = .ok (.tuple #[]) (w.setCells b o zs) := by
  refine ⟨(Builtin.zeroCells z.cells n).toList, by simp [Builtin.zeroCells, Nat.mul_comm], ?_⟩
  have hst := run_storeCells_cells (P := P) b o (Builtin.zeroCells z.cells n).toList 0 w (by simpa [Builtin.zeroCells, Nat.mul_comm] using hc) (by simpa [Builtin.zeroCells, Nat.mul_comm] using hf) (by
    intro v hv'
    obtain ⟨i, hi, rfl⟩ := List.mem_iff_getElem.1 hv'
    simp only [Builtin.zeroCells, Array.getElem_toList, Array.getElem_map, Array.getElem_range]
    have hs : 0 < z.cells.size := by
      rcases Nat.eq_zero_or_pos z.cells.size with h | h
      · simp [Builtin.zeroCells, h] at hi
      · exact h
    have := Nat.mod_lt i hs
    exact h1 _ (by simp [getElem!_pos, this]))
  simp only [Nat.add_zero] at hst
  obtain ⟨m, rfl⟩ : ∃ m, n = m + 1 := ⟨n - 1, by omega⟩
  simp [Builtin.clear_, run_underlying ht, hv, hst]
theorem eId_len (x : Id) : (eId x).length = 2 := rfl
theorem eId_one (x : Id) : ∀ v ∈ eId x, v.oneCell' = true := by
  intro v hv; simp [eId] at hv; rcases hv with rfl | rfl <;> rfl
theorem holdsK_two {w : World} {blk off : Nat} {d : Array Id} (h : HoldsK eId 2 w blk off d) {i : Nat} (hi : i < d.size) :
    w.cell? ⟨blk, off + i * 2, none⟩ = some (.int .i64 d[i]!.r) ∧ w.cell? ⟨blk, off + i * 2 + 1, none⟩ = some (.int .i64 d[i]!.n) ∧ w.frozen? ⟨blk, off + i * 2, none⟩ = false ∧ w.frozen? ⟨blk, off + i * 2 + 1, none⟩ = false :=
  ⟨(h.cell hi (c := 0) (by omega)).1, (h.cell hi (c := 1) (by omega)).1, (h.cell hi (c := 0) (by omega)).2, (h.cell hi (c := 1) (by omega)).2⟩
theorem store_world_id {w wr : World} {n blk off : Nat} {dk : Array Id} {i : Nat} (hi : i < dk.size) (hwr : wr = putRowK eId 2 (Sort.ahead w n) blk off dk) (x : Id) :
    wr.setCells blk (off + i * 2) (eId x) = putRowK eId 2 (Sort.ahead w n) blk off (dk.setIfInBounds i x) := by
  subst hwr
  unfold putRowK
  rw [setCells_putRow _ _ _ _ _ _ (by rw [size_flatK, eId_len]; omega), setMany_flat eId 2 eId_len dk i hi x]
def CompOut (w : World) (blk off : Nat) (d : Array Id) (w' : World) : Prop :=
  ∃ (q : Nat) (F : Array Value), F.size = d.size * 2 ∧ (∀ t, t < (compactUpTo d d.size).length * 2 → F[t]! = (flatK eId 2 (compactUpTo d d.size).toArray)[t]!) ∧ w' = putRow id (Sort.ahead w q) blk off F
theorem compOut_same {w : World} {blk off : Nat} {d : Array Id} (hH : HoldsK eId 2 w blk off d) (q : Nat) (hall : ∀ j, j < d.size → keeps d j = true) : (compactUpTo d d.size).length = d.size ∧ CompOut w blk off d (w.drewN q) := by
  have e : compactUpTo d d.size = d.toList := by rw [compactUpTo_all d _ hall, range_map_get]
  refine ⟨by rw [e]; simp, q, flatK eId 2 d, size_flatK _ _ _, fun t _ => by rw [e], ?_⟩
  exact (putRow_self id (Sort.ahead w q) blk off _ (holdsK_ahead eId 2 w q blk off d hH)).symm
set_option maxHeartbeats 4000000 in
set_option maxRecDepth 1000000 in
theorem compactI_calls (blk off cap : Nat) (d : Array Id) (w : World) (hH : HoldsK eId 2 w blk off d) (hsz : d.size ≤ 9223372036854775807) (hcap : d.size ≤ cap) :
    Calls Tryz.prog 128 #[.slice (some ⟨blk, off, none⟩) d.size cap] w fun e w' => e = .returned (.slice (some ⟨blk, off, none⟩) (compactUpTo d d.size).length cap) ∧ CompOut w blk off d w' := by
  have mixed : Tryz.prog.follows Departure.mixedOrders = true := rfl
  have HS : Aside (∀ q, (∀ j, j < d.size → keeps d j = true) → (compactUpTo d d.size).length = d.size ∧ CompOut w blk off d (w.drewN q)) := fun q => compOut_same hH q
  by_cases h2 : d.size < 2
  · have HH : Aside (HoldsK eId 2 w blk off d) := hH
    clear hH
    go_enter Tryz.func128, Tryz.ntmps128
    go_wp2
    go_ret
    obtain ⟨e1, e2⟩ := HS.out 0 (fun j hj => keeps_lt_one d j (by omega))
    exact ⟨by rw [e1]; rfl, e2⟩
  · go_enter Tryz.func128, Tryz.ntmps128
    go_wp2
    go_loopg [3] d.size (fun g s3 wr => ∃ k q : Nat, 1 ≤ k ∧ k ≤ d.size ∧ d.size - k ≤ g ∧ s3 = .int .i64 k ∧ wr = w.drewN q ∧ ∀ j, j < k → keeps d j = true)
    case atStart => exact ⟨1, 0, Nat.le_refl _, by omega, by omega, rfl, rfl, keeps_lt_one d⟩
    case round =>
      obtain ⟨k, q, hk1, hk, hg, rfl, rfl, hall⟩ := hrel
      by_cases hlt : k < d.size
      · obtain ⟨c1, c1', f1, f1'⟩ := holdsK_two hH hlt
        obtain ⟨c0, c0', f0, f0'⟩ := holdsK_two hH (i := k - 1) (by omega)
        have A : Aside (∀ j, j < k → keeps d j = true) := hall
        have HH : Aside (HoldsK eId 2 w blk off d) := hH
        clear hall hH f1 f1' f0 f0'
        generalize hx : d[k]! = x at c1 c1'
        generalize hy : d[k - 1]! = y at c0 c0'
        have B : Aside (d[k]! = x ∧ d[k - 1]! = y) := ⟨hx, hy⟩
        clear hx hy
        by_cases hdup : x = y
        · subst hdup
          go_wp2_with fail
          go_region_o
          go_wp2
          clear c0 c1 c0' c1'
          go_loopg [3, 5] d.size (fun g s3 s5 wr => ∃ (kk k2 q2 : Nat) (dk : Array Id), s3 = .int .i64 kk ∧ s5 = .int .i64 k2 ∧ 1 ≤ k2 ∧ k + k2 ≤ d.size ∧ d.size - (k + k2) ≤ g ∧ wr = putRowK eId 2 (Sort.ahead w q2) blk off dk ∧ CompInv d (k + k2) kk dk)
          case atStart => exact ⟨k, 1, q + 1, d, rfl, rfl, Nat.le_refl _, by omega, by omega, (putRowK_self eId 2 (Sort.ahead w (q + 1)) blk off d (holdsK_ahead eId 2 w (q + 1) blk off d HH.out)).symm, CompInv.start A.out (keeps_neg (by omega) (by rw [B.out.1, B.out.2]))⟩
          case round =>
            obtain ⟨kk, k2, q2, dk, rfl, rfl, h1, hle, hg2, hwr, hI⟩ := hrel
            have hkk := hI.lt
            have hds := hI.size
            have hHk : HoldsK eId 2 wr blk off dk := by rw [hwr]; exact holdsK_putRowK eId 2 _ blk off d dk (holdsK_ahead eId 2 w q2 blk off d HH.out) hds
            have W2 : Aside (wr = putRowK eId 2 (Sort.ahead w q2) blk off dk) := hwr
            have I2 : Aside (CompInv d (k + k2) kk dk) := hI
            clear hwr
            by_cases hlt2 : k + k2 < d.size
            · obtain ⟨cm, cm', -, -⟩ := holdsK_two hHk (i := k + k2) (by omega)
              obtain ⟨cp, cp', -, -⟩ := holdsK_two hHk (i := k + k2 - 1) (by omega)
              obtain ⟨ck, ck', fk, fk'⟩ := holdsK_two hHk (i := kk) (by omega)
              rw [hI.high (k + k2) (by omega), show off + (k + k2) * 2 = off + k * 2 + k2 * 2 by omega] at cm cm'
              rw [hI.high (k + k2 - 1) (by omega), show off + (k + k2 - 1) * 2 = off + k * 2 + (k2 - 1) * 2 by omega] at cp cp'
              clear hHk hI
              generalize hu : d[k + k2]! = u at cm cm'
              generalize hv : d[k + k2 - 1]! = v at cp cp'
              generalize dk[kk]! = old at ck ck'
              have C : Aside (d[k + k2]! = u ∧ d[k + k2 - 1]! = v) := ⟨hu, hv⟩
              clear hu hv
              by_cases huv : u = v
              · subst huv
                go_wp2_with fail
                go_region_o
                go_wp2
                go_roundg (d.size - (k + (k2 + 1)))
                case measure => omega
                case rel => exact ⟨kk, k2 + 1, q2 + 1, dk, rfl, by go_num, by omega, by omega, Nat.le_refl _, by rw [W2.out]; rfl, I2.out.skip (keeps_neg (by omega) (by rw [C.out.1, C.out.2]))⟩
              · have N : Aside (u ≠ v) := huv
                obtain ⟨ur, un⟩ := u
                obtain ⟨vr, vn⟩ := v
                simp only at cm cm' cp cp'
                by_cases hr : ur = vr
                · subst hr
                  have hn : un ≠ vn := fun e => huv (by rw [e])
                  clear huv
                  go_wp2_with fail
                  go_region_o
                  go_wp2
                  go_roundg (d.size - (k + (k2 + 1)))
                  case measure => omega
                  case rel =>
                    refine ⟨kk + 1, k2 + 1, q2 + 1, dk.setIfInBounds kk ⟨ur, un⟩, by go_num, by go_num, by omega, by omega, Nat.le_refl _, ?_, ?_⟩
                    · exact store_world_id (wr := wr.drew) (n := q2 + 1) (by omega) (by rw [W2.out]; rfl) ⟨ur, un⟩
                    · have := I2.out.keep hlt2 (keeps_pos (by rw [C.out.1, C.out.2]; exact N.out)); rwa [C.out.1] at this
                · clear huv
                  go_wp2_with fail
                  go_region_o
                  go_wp2
                  go_roundg (d.size - (k + (k2 + 1)))
                  case measure => omega
                  case rel =>
                    refine ⟨kk + 1, k2 + 1, q2 + 1, dk.setIfInBounds kk ⟨ur, un⟩, by go_num, by go_num, by omega, by omega, Nat.le_refl _, ?_, ?_⟩
                    · exact store_world_id (wr := wr.drew) (n := q2 + 1) (by omega) (by rw [W2.out]; rfl) ⟨ur, un⟩
                    · have := I2.out.keep hlt2 (keeps_pos (by rw [C.out.1, C.out.2]; exact N.out)); rwa [C.out.1] at this
            · have hend : k + k2 = d.size := by omega
              obtain ⟨zs, hzl, hcl⟩ : ∃ zs : List Value, zs.length = (d.size - kk) * 2 ∧ ∀ ty, (Builtin.clear_ #[44] ty #[.slice (some ⟨blk, off + kk * 2, none⟩) (d.size - kk) (cap - kk)]).run Tryz.prog wr = .ok (.tuple #[]) (wr.setCells blk (off + kk * 2) zs) := by
                obtain ⟨zs, h1, h2⟩ := run_clear_cells (P := Tryz.prog) wr 44 43 0 (.agg #[.int .i64 0, .int .i64 0]) rfl (fun _ => by kernel_rfl) (by intro v hv; simp [Value.cells] at hv; rcases hv with rfl | rfl <;> rfl) blk (off + kk * 2) (d.size - kk) (cap - kk) (by omega)
                  (fun j hj => by
                    have hj' : j < (d.size - kk) * 2 := hj
                    have := (hHk (kk * 2 + j) (by rw [size_flatK]; omega)).1
                    rw [← Nat.add_assoc] at this
                    rw [this]; rfl) (fun j hj => by
                    have hj' : j < (d.size - kk) * 2 := hj
                    have := (hHk (kk * 2 + j) (by rw [size_flatK]; omega)).2
                    rwa [← Nat.add_assoc] at this)
                exact ⟨zs, h1, fun ty => h2⟩
              clear hHk hI
              go_wp2
              go_ret
              have hI := I2.out
              rw [hend] at hI
              refine ⟨by rw [hI.len]; rfl, q2, setMany (flatK eId 2 dk) (kk * 2) zs, by simp [hI.size], fun t ht => ?_, ?_⟩
              · rw [hI.len] at ht
                have hts : t < dk.size * 2 := by have := hI.size; omega
                have hq : t / 2 < kk := by omega
                rw [get_setMany _ _ _ t (by rw [size_flatK]; exact hts), if_neg (by omega), get_flatK _ _ _ _ hts, get_flatK _ _ _ _ (by simp [hI.len]; omega)]
                have := hI.low (t / 2) hq
                rw [show (compactUpTo d d.size).toArray[t / 2]! = dk[t / 2]! by simp [this]]
              · rw [W2.out]
                unfold putRowK
                exact setCells_putRow _ _ _ _ _ _ (by rw [size_flatK, hzl]; have := hI.size; omega)
        · have B' : Aside (x ≠ y) := hdup
          obtain ⟨xr, xn⟩ := x
          obtain ⟨yr, yn⟩ := y
          simp only at c0 c0' c1 c1'
          by_cases hr : xr = yr
          · subst hr
            have hn : xn ≠ yn := fun e => hdup (by rw [e])
            clear hdup
            go_wp2_with fail
            go_region_o
            go_wp2
            go_roundg (d.size - (k + 1))
            case measure => omega
            case rel =>
              refine ⟨k + 1, q + 1, by omega, by omega, Nat.le_refl _, by go_num, rfl, fun j hj => ?_⟩
              by_cases e : j = k
              · subst e
                exact keeps_pos (by rw [B.out.1, B.out.2]; exact B'.out)
              · exact A.out j (by omega)
          · clear hdup
            go_wp2_with fail
            go_region_o
            go_wp2
            go_roundg (d.size - (k + 1))
            case measure => omega
            case rel =>
              refine ⟨k + 1, q + 1, by omega, by omega, Nat.le_refl _, by go_num, rfl, fun j hj => ?_⟩
              by_cases e : j = k
              · subst e
                exact keeps_pos (by rw [B.out.1, B.out.2]; exact B'.out)
              · exact A.out j (by omega)
      · have : k = d.size := by omega
        subst this
        have HH : Aside (HoldsK eId 2 w blk off d) := hH
        clear hH
        go_wp2
        go_ret
        obtain ⟨e1, e2⟩ := HS.out q hall
        exact ⟨by rw [e1]; rfl, e2⟩
set_option maxHeartbeats 1000000 in
theorem compactI_nil (w : World) : Calls Tryz.prog 128 #[.slice none 0 0] w fun e w' => e = .returned (.slice none 0 0) ∧ w' = w := by
  go_enter Tryz.func128, Tryz.ntmps128
  go_wp2
  go_ret
  exact ⟨rfl, rfl⟩
end Go.Proofs.YtfdolehffjmdmaaGreatDoor
/- slices.Compact at ids: as a contract: an array becomes a list. -/
namespace Go.Proofs.YtfdolehffjmdmaaGreatDoor
open Go.RowKit
open Go.Sort (flatK putRowK HoldsK size_flatK get_flatK putCells mapBlock onCells)
theorem flat_id : Flat cId eId 2 where
  k0 := by omega
  len := fun _ => rfl
  lenp := fun _ => rfl
  one := eId_one
  fit := fun S w a j p h => by
    rcases j with _ | _ | j
    · cases h; exact .int _ _
    · cases h; exact .int _ _
    · simp [cId] at h
  back := fun S w a j p u h hr => by
    rcases j with _ | _ | j
    · cases h; cases hr; rfl
    · cases h; cases hr; rfl
    · simp [cId] at h
section
variable {x : Cx} {C : Conc} {H : List AObj} {w w' : World}
theorem HR.dropNil (hr : HR x C H w) {id v T sz : Nat} {sto ipu : Bool} (hid : H[id]? = some (.arr v sto ipu T sz [])) :
    HR x C (H.set id .gone) w ∧ (∀ p u, RepV (Stab x C H w) w C p u → RepV (Stab x C (H.set id .gone) w) w C p u) :=
  hr.change (C' := C) hid (ob' := .gone) (step_refl w) rfl (fun _ => rfl) (fun _ _ => ⟨rfl, rfl⟩) (.inl ⟨rfl, rfl⟩) (fun b o hb hf => trivial) (fun b o hb hf => rfl) (fun b hb => hb.elim) (fun _ _ => trivial)
theorem row_worldF (w : World) (g m : Nat) (F : Array Value) {cur : Array Value} {T : TypeId} {fr : Nat × Nat} (hc : w.heap[g]? = some (.cells cur T fr)) :
    ∃ cur' : Array Value, (Go.Sort.putRow id (Go.Sort.ahead w m) g 0 F).heap[g]? = some (.cells cur' T fr) ∧ cur'.size = cur.size ∧
      (∀ t y, t < F.size → cur'[t]? = some y → y = F[t]!) ∧ Step w (Go.Sort.putRow id (Go.Sort.ahead w m) g 0 F) (fun b => b = g) := by
  have hlt : g < w.heap.size := (Array.getElem?_eq_some_iff.1 hc).1
  have hh : (Go.Sort.putRow id (Go.Sort.ahead w m) g 0 F).heap = w.heap.modify g (onCells (putCells id 0 F)) := rfl
  refine ⟨putCells id 0 F cur, ?_, by simp [putCells], fun t y ht hy => ?_, ?_⟩
  · rw [hh, Array.getElem?_modify, if_pos rfl, hc]
    rfl
  · rw [putCells, Array.getElem?_mapIdx] at hy
    cases hcu : cur[t]? with
    | none => rw [hcu] at hy; cases hy
    | some z =>
      rw [hcu, Option.map_some, if_pos ⟨Nat.zero_le _, by omega⟩] at hy
      exact (Option.some.inj hy).symm
  · refine ⟨by rw [hh]; simp, rfl, rfl, rfl, fun b hb hne => ?_⟩
    rw [hh, Array.getElem?_modify, if_neg (fun e => hne e.symm)]
end
theorem one_arg {vs : Array Value} (h : vs.toList.length = 1) : ∃ a, vs = #[a] ∧ vs.toList[0]? = some a := by
  obtain ⟨l⟩ := vs
  obtain ⟨a, rfl⟩ := List.length_eq_one_iff.1 h
  exact ⟨a, rfl, rfl⟩
theorem two_args {vs : Array Value} (h : vs.toList.length = 2) : ∃ a b, vs = #[a, b] ∧ vs.toList[0]? = some a ∧ vs.toList[1]? = some b := by
  obtain ⟨l⟩ := vs
  match l, h with
  | [a, b], _ => exact ⟨a, b, rfl, rfl, rfl⟩
def compI (l : List Id) : List Id := Lib.compact l
theorem compactIds_meets (l : List Id) (v T : Nat) (hl : l.length ≤ 9223372036854775807) :
    Meets Tryz.prog 128 [.arr 0 v] [.arr v true false T 2 (l.map cId)] (.list ((compI l).map cId)) [.gone] := by
  intro x vs hx h0 hp
  obtain ⟨a, rfl, h1⟩ := one_arg hp.1
  have ha := hp.2 0 _ _ rfl h1
  obtain ⟨e1, e2, e3⟩ := h0.row (id := 0) rfl ha
  rcases e3 with ⟨rfl, hnil⟩ | ⟨g, cap, cur, rfl, hc, hcap, hm, hz, hrow⟩
  · have : l = [] := by simpa using hnil
    subst this
    refine (compactI_nil x.w0).mono ?_
    rintro e w' ⟨rfl, rfl⟩
    obtain ⟨k1, k2⟩ := h0.dropNil (id := 0) (v := v) (T := T) (sz := 2) rfl
    exact ⟨_, x.C0, rfl, k1, .pure repP_nil⟩
  · have hH := flat_id.holds l hc hrow
    have key := compactI_calls g 0 cap l.toArray x.w0 hH (by simpa using hl) (by simpa using hcap)
    rw [List.length_map]
    refine Calls.mono key ?_
    rintro e w' ⟨rfl, q, F, f1, f2, rfl⟩
    obtain ⟨cur', c1, c2, c3, c4⟩ := row_worldF x.w0 g q F hc
    have hown : (x.C0.sv 0).ownBlock = some g := by rw [← e1]; rfl
    have hle : (compI l).length ≤ l.length := by
      show (Lib.compactUpTo l.toArray l.length).length ≤ _
      unfold Lib.compactUpTo
      rw [List.length_map]
      exact Nat.le_trans (List.length_filter_le _ _) (by simp)
    have hcl : ((compI l).map cId).length ≤ cap := by rw [List.length_map]; rw [List.length_map] at hcap; omega
    obtain ⟨k1, k2, k3⟩ := h0.drop (id := 0) (g := g) (cap' := cap) (rows' := (compI l).map cId) (cur' := cur') rfl
      ⟨c4.size, c4.os, c4.tape, c4.output, fun b hb hne => c4.blk b hb fun e => hne (by rw [hown, e])⟩ hown c1 hcl hm (by rw [c2, hz])
      (fun row hr => by obtain ⟨y, -, rfl⟩ := List.mem_map.1 hr; rfl)
      (fun k row j p u a b c => (flat_id.rep (d' := (compI l).toArray) (cur' := cur') (fun t y ht hy => by
        rw [c3 t y (by rw [f1]; simp at ht ⊢; omega) hy]
        refine f2 t ?_
        rw [List.size_toArray] at ht
        rw [List.size_toArray]
        exact ht) (compI l).length (fun i hi => by simp [hi]) rfl (by simp) k row j p u a b c).2)
    refine ⟨_, x.C0, rfl, k1, .pure ?_⟩
    rw [List.length_map] at k3
    exact k3
end Go.Proofs.YtfdolehffjmdmaaGreatDoor
/- Library functions of this seat, told apart by number (what the guide's shelf says of them is used by name). -/
namespace Go.Proofs.YtfdolehffjmdmaaGreatDoor
open Go.Shelf Go.Proofs
def sortOpL_ren : Go.Shelf.Ren := ⟨fun | 6 => 92 | 15 => 133 | 14 => 132 | 28 => 166 | 29 => 167 | 20 => 158 | 21 => 159 | 22 => 160 | 23 => 161 | 24 => 162 | 25 => 163 | 26 => 164 | 27 => 165 | 46 => 186 | 47 => 187 | 48 => 188 | 49 => 189 | 50 => 190 | 57 => 202 | n => n, fun | 22 => 127 | 24 => 131 | 25 => 138 | 3 => 3 | 39 => 171 | 0 => 0 | 53 => 206 | 55 => 208 | 4 => 4 | 46 => 200 | 45 => 199 | 50 => 177 | 5 => 5 | 9 => 9 | 66 => 220 | 70 => 224 | 76 => 232 | 77 => 233 | n => n, fun n => n⟩
theorem sortOpL : SlLaysF0.n6 Tryz.prog sortOpL_ren := {
  mixed := by kernel_rfl,
  f6 := ⟨Tryz.f92.name, by decide, Tryz.func92.trans (congrArg some (by kernel_rfl))⟩,
  f14 := ⟨Tryz.f132.name, by decide, Tryz.func132.trans (congrArg some (by kernel_rfl))⟩,
  f15 := Tryz.func133.trans (congrArg some (by kernel_rfl)),
  f20 := ⟨Tryz.f158.name, by decide, Tryz.func158.trans (congrArg some (by kernel_rfl))⟩,
  f21 := ⟨Tryz.f159.name, by decide, Tryz.func159.trans (congrArg some (by kernel_rfl))⟩,
  f22 := ⟨Tryz.f160.name, by decide, Tryz.func160.trans (congrArg some (by kernel_rfl))⟩,
  f23 := ⟨Tryz.f161.name, by decide, Tryz.func161.trans (congrArg some (by kernel_rfl))⟩,
  f24 := ⟨Tryz.f162.name, by decide, Tryz.func162.trans (congrArg some (by kernel_rfl))⟩,
  f25 := ⟨Tryz.f163.name, by decide, Tryz.func163.trans (congrArg some (by kernel_rfl))⟩,
  f26 := ⟨Tryz.f164.name, by decide, Tryz.func164.trans (congrArg some (by kernel_rfl))⟩,
  f27 := ⟨Tryz.f165.name, by decide, Tryz.func165.trans (congrArg some (by kernel_rfl))⟩,
  f28 := Tryz.func166.trans (congrArg some (by kernel_rfl)),
  f29 := Tryz.func167.trans (congrArg some (by kernel_rfl)),
  f46 := ⟨Tryz.f186.name, by decide, Tryz.func186.trans (congrArg some (by kernel_rfl))⟩,
  f47 := Tryz.func187.trans (congrArg some (by kernel_rfl)),
  f48 := Tryz.func188.trans (congrArg some (by kernel_rfl)),
  f49 := ⟨Tryz.f189.name, by decide, Tryz.func189.trans (congrArg some (by kernel_rfl))⟩,
  f50 := ⟨Tryz.f190.name, by decide, Tryz.func190.trans (congrArg some (by kernel_rfl))⟩,
  f57 := ⟨Tryz.f202.name, by decide, Tryz.func202.trans (congrArg some (by kernel_rfl))⟩,
  t0 := Tryz.underlying0,
  a0 := Tryz.isAgg0,
  z0 := Tryz.sizeOf0,
  v0 := Tryz.zeroValue0,
  t3 := Tryz.underlying3,
  a3 := Tryz.isAgg3,
  z3 := Tryz.sizeOf3,
  v3 := Tryz.zeroValue3,
  t4 := Tryz.underlying4,
  a4 := Tryz.isAgg4,
  z4 := Tryz.sizeOf4,
  v4 := Tryz.zeroValue4,
  t5 := Tryz.underlying5,
  a5 := Tryz.isAgg5,
  z5 := Tryz.sizeOf5,
  v5 := Tryz.zeroValue5,
  t9 := Tryz.underlying9,
  a9 := Tryz.isAgg9,
  z9 := Tryz.sizeOf9,
  v9 := Tryz.zeroValue9,
  t22 := Tryz.underlying127,
  a22 := Tryz.isAgg127,
  z22 := Tryz.sizeOf127,
  v22 := Tryz.zeroValue127,
  t25 := Tryz.underlying138,
  a25 := Tryz.isAgg138,
  z25 := Tryz.sizeOf138,
  v25 := Tryz.zeroValue138,
  t39 := Tryz.underlying171,
  a39 := Tryz.isAgg171,
  z39 := Tryz.sizeOf171,
  v39 := Tryz.zeroValue171,
  t45 := Tryz.underlying199,
  a45 := Tryz.isAgg199,
  z45 := Tryz.sizeOf199,
  v45 := Tryz.zeroValue199,
  t46 := Tryz.underlying200,
  a46 := Tryz.isAgg200,
  z46 := Tryz.sizeOf200,
  v46 := Tryz.zeroValue200,
  t50 := Tryz.underlying177,
  a50 := Tryz.isAgg177,
  z50 := Tryz.sizeOf177,
  v50 := Tryz.zeroValue177,
  t53 := Tryz.underlying206,
  a53 := Tryz.isAgg206,
  z53 := Tryz.sizeOf206,
  v53 := Tryz.zeroValue206,
  t55 := Tryz.underlying208,
  a55 := Tryz.isAgg208,
  z55 := Tryz.sizeOf208,
  v55 := Tryz.zeroValue208,
  t66 := Tryz.underlying220,
  a66 := Tryz.isAgg220,
  z66 := Tryz.sizeOf220,
  v66 := Tryz.zeroValue220,
  t70 := Tryz.underlying224,
  a70 := Tryz.isAgg224,
  z70 := Tryz.sizeOf224,
  v70 := Tryz.zeroValue224,
  t76 := Tryz.underlying232,
  a76 := Tryz.isAgg232,
  z76 := Tryz.sizeOf232,
  v76 := Tryz.zeroValue232,
  t77 := Tryz.underlying233,
  a77 := Tryz.isAgg233,
  z77 := Tryz.sizeOf233,
  v77 := Tryz.zeroValue233 }
def splitL_ren : Go.Shelf.Ren := ⟨fun | 146 => 43 | 221 => 96 | 268 => 136 | 138 => 137 | 143 => 138 | 195 => 169 | 197 => 170 | 218 => 171 | 219 => 172 | 260 => 191 | 217 => 192 | 225 => 193 | 224 => 194 | 267 => 195 | 266 => 203 | 314 => 204 | n => n, fun | 9 => 9 | 31 => 27 | 3 => 3 | 4 => 4 | 0 => 0 | 105 => 210 | 21 => 21 | 5 => 5 | 46 => 171 | 119 => 235 | 139 => 238 | 138 => 237 | 146 => 239 | 51 => 206 | n => n, fun | 1 => 0 | 3 => 1 | 4 => 2 | n => n⟩
theorem splitL : Lays.n146 Tryz.prog splitL_ren := {
  mixed := by kernel_rfl,
  f138 := Tryz.func137.trans (congrArg some (by kernel_rfl)),
  f143 := Tryz.func138.trans (congrArg some (by kernel_rfl)),
  f146 := Tryz.func43.trans (congrArg some (by kernel_rfl)),
  f195 := Tryz.func169.trans (congrArg some (by kernel_rfl)),
  f197 := Tryz.func170.trans (congrArg some (by kernel_rfl)),
  f217 := Tryz.func192.trans (congrArg some (by kernel_rfl)),
  f218 := Tryz.func171.trans (congrArg some (by kernel_rfl)),
  f219 := Tryz.func172.trans (congrArg some (by kernel_rfl)),
  f221 := Tryz.func96.trans (congrArg some (by kernel_rfl)),
  f224 := Tryz.func194.trans (congrArg some (by kernel_rfl)),
  f225 := Tryz.func193.trans (congrArg some (by kernel_rfl)),
  f260 := Tryz.func191.trans (congrArg some (by kernel_rfl)),
  f266 := Tryz.func203.trans (congrArg some (by kernel_rfl)),
  f267 := Tryz.func195.trans (congrArg some (by kernel_rfl)),
  f268 := Tryz.func136.trans (congrArg some (by kernel_rfl)),
  f314 := Tryz.func204.trans (congrArg some (by kernel_rfl)),
  t0 := Tryz.underlying0,
  a0 := Tryz.isAgg0,
  z0 := Tryz.sizeOf0,
  v0 := Tryz.zeroValue0,
  t3 := Tryz.underlying3,
  a3 := Tryz.isAgg3,
  z3 := Tryz.sizeOf3,
  v3 := Tryz.zeroValue3,
  t4 := Tryz.underlying4,
  a4 := Tryz.isAgg4,
  z4 := Tryz.sizeOf4,
  v4 := Tryz.zeroValue4,
  t5 := Tryz.underlying5,
  a5 := Tryz.isAgg5,
  z5 := Tryz.sizeOf5,
  v5 := Tryz.zeroValue5,
  t9 := Tryz.underlying9,
  a9 := Tryz.isAgg9,
  z9 := Tryz.sizeOf9,
  v9 := Tryz.zeroValue9,
  t21 := Tryz.underlying21,
  a21 := Tryz.isAgg21,
  z21 := Tryz.sizeOf21,
  v21 := Tryz.zeroValue21,
  t31 := Tryz.underlying27,
  a31 := Tryz.isAgg27,
  z31 := Tryz.sizeOf27,
  v31 := Tryz.zeroValue27,
  t46 := Tryz.underlying171,
  a46 := Tryz.isAgg171,
  z46 := Tryz.sizeOf171,
  v46 := Tryz.zeroValue171,
  t51 := Tryz.underlying206,
  a51 := Tryz.isAgg206,
  z51 := Tryz.sizeOf206,
  v51 := Tryz.zeroValue206,
  t105 := Tryz.underlying210,
  a105 := Tryz.isAgg210,
  z105 := Tryz.sizeOf210,
  v105 := Tryz.zeroValue210,
  t119 := Tryz.underlying235,
  a119 := Tryz.isAgg235,
  z119 := Tryz.sizeOf235,
  t138 := Tryz.underlying237,
  a138 := Tryz.isAgg237,
  z138 := Tryz.sizeOf237,
  v138 := Tryz.zeroValue237,
  t139 := Tryz.underlying238,
  a139 := Tryz.isAgg238,
  z139 := Tryz.sizeOf238,
  v139 := Tryz.zeroValue238,
  t146 := Tryz.underlying239,
  a146 := Tryz.isAgg239,
  z146 := Tryz.sizeOf239,
  v146 := Tryz.zeroValue239,
  g1 := by kernel_rfl,
  g3 := by kernel_rfl,
  g4 := by kernel_rfl }
def cmpL_ren : Go.Shelf.Ren := ⟨fun | 106 => 94 | 213 => 134 | 265 => 168 | n => n, fun | 9 => 9 | 3 => 3 | n => n, fun n => n⟩
theorem cmpL : Lays.n106 Tryz.prog cmpL_ren := {
  mixed := by kernel_rfl,
  f106 := Tryz.func94.trans (congrArg some (by kernel_rfl)),
  f213 := Tryz.func134.trans (congrArg some (by kernel_rfl)),
  f265 := Tryz.func168.trans (congrArg some (by kernel_rfl)),
  t3 := Tryz.underlying3,
  a3 := Tryz.isAgg3,
  z3 := Tryz.sizeOf3,
  v3 := Tryz.zeroValue3,
  t9 := Tryz.underlying9,
  a9 := Tryz.isAgg9,
  z9 := Tryz.sizeOf9,
  v9 := Tryz.zeroValue9 }
end Go.Proofs.YtfdolehffjmdmaaGreatDoor
/- strings.Split at a blank: the pieces of a text. -/
namespace Go.Proofs.YtfdolehffjmdmaaGreatDoor
open Go.RowKit Go.Shelf
def spB : ByteArray := ⟨#[32]⟩
def piecesS (s : ByteArray) : List ByteArray := Lib.splitB spB 0 (Lib.countB s spB) s
theorem pieces_len (s : ByteArray) : (piecesS s).length = Lib.countB s spB + 1 := Lib.splitB_all spB (by decide) 0 _ s rfl
theorem pieces_le (s : ByteArray) : (piecesS s).length ≤ s.size + 1 := by
  have := Lib.countB_le spB (by decide) s.size s (Nat.le_refl _)
  rw [pieces_len]; omega
set_option maxHeartbeats 1000000 in
theorem Any.split_sp {P : Program} {ρ : Ren} (L : Lays.n146 P ρ) (hi9 : (P.info? (ρ.t 9)).map (fun i => (i.zero, i.size, i.bytes)) = some (some (.string ByteArray.empty), 1, 16)) (s : ByteArray) (w : World) (hs : s.size < 4294967281) :
    Calls P (ρ.f 146) #[.string s, .string spB] w fun e w' =>
      e = .returned (.slice (some ⟨w.heap.size, 0, none⟩) (Lib.countB s spB + 1) (Lib.countB s spB + 1)) ∧ w' = w.alloc (.cells ((piecesS s).map Value.string).toArray (ρ.t 9)) := by
  have h1 : 1 ≤ spB.size := by decide
  have hle := Lib.countB_le spB h1 s.size s (Nat.le_refl _)
  have hlen := pieces_len s
  have c := Any.strings_genSplit_core { L with } hi9 s spB 0 (-1) (Lib.countB s spB + 1) w hs h1 (Nat.zero_le _)
    (fun x c hx => (Any.strings_Index_one { L with } x 32 _).mono fun e w' ⟨he, hw⟩ => ⟨by rw [he, ← Lib.index_one]; rfl, hw⟩)
    ((Any.strings_Count_one { L with } s 32 w).mono fun e w' ⟨he, hw⟩ => ⟨by
      rw [he]
      show _ = Ending.returned (Value.int .i64 ((Lib.count s.data.toList [32] : Nat) : Int))
      rw [Lib.count_one]; rfl, hw⟩)
    (by decide) (by decide) (by rw [if_pos (by decide)]; omega)
  rw [Nat.add_sub_cancel] at c
  have e1 : (Lib.splitB spB 0 (Lib.countB s spB) s).length = Lib.countB s spB + 1 := hlen
  rw [e1] at c
  have e2 : Lib.cellsOf (Lib.splitB spB 0 (Lib.countB s spB) s) (Lib.countB s spB + 1) = ((Lib.splitB spB 0 (Lib.countB s spB) s).map Value.string).toArray := by rw [← e1]; exact Lib.cellsOf_full _
  rw [e2] at c
  have t3 := L.t3; have t9 := L.t9; have t31 := L.t31
  have a3 := L.a3; have a9 := L.a9; have a31 := L.a31
  have z3 := L.z3; have v3 := L.v3; have z9 := L.z9; have v9 := L.v9; have z31 := L.z31; have v31 := L.v31
  have e221 : ∀ args w, (callFunc (ρ.f 221) args).run P w = .ok (.enter (ρ.f 221) args) w := enters_of L.f221 (by kernel_rfl) rfl
  go_enter L.f146, Body.n146_ntmps ρ
  go_wp2_with (go_at_fn (ρ.f 221); refine c.mono ?_; rintro e w' ⟨rfl, hw⟩; rw [hw])
  go_ret
  exact ⟨rfl, rfl⟩
theorem split_calls (s : ByteArray) (w : World) (hs : s.size < 4294967281) : Calls Tryz.prog 43 #[.string s, .string spB] w fun e w' =>
      e = .returned (.slice (some ⟨w.heap.size, 0, none⟩) (piecesS s).length (piecesS s).length) ∧ w' = w.alloc (.cells ((piecesS s).map Value.string).toArray 9) := by
  rw [pieces_len]
  exact Any.split_sp splitL (by kernel_rfl) s w hs
def cStr (s : ByteArray) : List PV := [.str s]
theorem split_meets (s : ByteArray) (hs : s.size < 4294967281) : Meets Tryz.prog 43 [.str s, .str spB] [] (.list ((piecesS s).map cStr)) [] := by
  intro x vs hx h0 hp
  obtain ⟨a, b, rfl, -, -⟩ := two_args hp.1
  have h1 : RepV (Stab x x.C0 [] x.w0) x.w0 x.C0 (.str s) a := hp.2 0 _ _ rfl rfl
  have h2 : RepV (Stab x x.C0 [] x.w0) x.w0 x.C0 (.str spB) b := hp.2 1 _ _ rfl rfl
  obtain rfl := h1.str_inv
  obtain rfl := h2.str_inv
  refine (split_calls s x.w0 hs).mono fun e w' ⟨he, hw⟩ => ?_
  subst he; subst hw
  obtain ⟨k1, k2, k3⟩ := h0.grow (step_alloc x.w0 (.cells ((piecesS s).map Value.string).toArray 9) (may := fun _ => False))
  have hle := pieces_le s
  refine ⟨_, x.C0, rfl, k1, .pure ?_⟩
  have hl : (piecesS s).length = ((piecesS s).map cStr).length := by simp
  rw [show (Value.slice (some ⟨x.w0.heap.size, 0, none⟩) (piecesS s).length (piecesS s).length) = Value.slice (some ⟨x.w0.heap.size, 0, none⟩) ((piecesS s).map cStr).length (piecesS s).length by rw [← hl]]
  have hget : ∀ k row (j : Nat) p, ((piecesS s).map cStr)[k]? = some row → row[j]? = some p → j = 0 ∧ k < (piecesS s).length ∧ p = .str (nth (piecesS s) k) := by
    intro k row j p a1 a2
    rw [List.getElem?_map] at a1
    obtain ⟨q, hq, rfl⟩ := Option.map_eq_some_iff.1 a1
    have hk := (List.getElem?_eq_some_iff.1 hq).1
    cases j with
    | zero => simp [cStr] at a2; refine ⟨rfl, hk, ?_⟩; rw [← a2, nth_eq _ _ hk]; rw [List.getElem?_eq_getElem hk] at hq; rw [Option.some.inj hq]
    | succ j => simp [cStr] at a2
  refine .list _ _ _ 1 (fun k _ => .string (nth (piecesS s) k)) (by simp) (by unfold maxLen; omega) (by omega) (fun row hrow => by obtain ⟨q, -, rfl⟩ := List.mem_map.1 hrow; rfl) (fun k row j p a1 a2 => ?_) (fun k row j p a1 a2 => ?_)
  · obtain ⟨rfl, hk, -⟩ := hget k row j p a1 a2
    refine ⟨x.w0.heap.size, 0, rfl, stab_new h0 _ _, ?_⟩
    rw [cell_of_heap (heap_alloc_new x.w0 _)]
    simp [hk, nth_eq _ _ hk]
  · obtain ⟨rfl, hk, rfl⟩ := hget k row j p a1 a2
    exact .str _
end Go.Proofs.YtfdolehffjmdmaaGreatDoor
/- Slices asked by a function: contracts of slices.IndexFunc, ContainsFunc, Index, Contains at entries, ids. -/
namespace Go.Proofs.YtfdolehffjmdmaaGreatDoor
set_option linter.unusedSimpArgs false
set_option linter.unusedVariables false
open Go.RowKit
def idxF {α : Type} (p : α → Bool) : List α → Nat → Int
  | [], _ => -1
  | x :: l, k => if p x = true then (k : Int) else idxF p l (k + 1)
theorem idxF_drop {α : Type} [Inhabited α] (p : α → Bool) (l : List α) (k : Nat) (h : k < l.length) : idxF p (l.drop k) k = if p (nth l k) = true then (k : Int) else idxF p (l.drop (k + 1)) (k + 1) := by
  rw [List.drop_eq_getElem_cons h, idxF, nth_eq _ _ h]
instance : Inhabited Entry := ⟨⟨default, 0, ⟨#[]⟩, []⟩⟩
theorem idxF_ge {α : Type} (p : α → Bool) : ∀ (l : List α) (k : Nat), idxF p l k = -1 ∧ l.any p = false ∨ (k : Int) ≤ idxF p l k ∧ l.any p = true
  | [], k => .inl ⟨rfl, rfl⟩
  | x :: l, k => by
    simp only [idxF, List.any_cons]
    cases hx : p x
    · rcases idxF_ge p l (k + 1) with ⟨h1, h2⟩ | ⟨h1, h2⟩
      · exact .inl ⟨by simpa using h1, by simp [h2]⟩
      · exact .inr ⟨by simp; omega, by simp [h2]⟩
    · exact .inr ⟨by simp, by simp⟩
theorem idxF_any {α : Type} (p : α → Bool) (l : List α) : decide (0 ≤ idxF p l 0) = l.any p := by
  rcases idxF_ge p l 0 with ⟨h1, h2⟩ | ⟨h1, h2⟩
  · rw [h1, h2]; rfl
  · rw [h2]; simp; omega
theorem indexE_meets (l : List Entry) (g : Nat) (caps : List PV) (Hs : List AObj) (p : Entry → Bool) (hg : hasBody Tryz.prog g = true) (hl : l.length ≤ 9223372036854775806) (hc : ClosedH Hs caps)
    (hp : ∀ e ∈ l, Meets Tryz.prog g (.agg (cE e) :: caps) Hs (.bool (p e)) Hs) :
    Meets Tryz.prog 105 [.list (l.map cE), .clo g caps] Hs (.int .i64 (idxF p l 0)) Hs := by
  refine Meets.of_walk Tryz.func105 Tryz.ntmps105 low105 res105 (by simp) fun x hx => ?_
  simp only [go_sem, Nat.reduceLT, Nat.reduceAdd, Nat.reduceEqDiff, Nat.reduceLeDiff, Nat.reduceSub, Nat.reduceMul, Int.reduceEq, eq_self, reduceIte, L105, R105]
  refine loop_keep [0, 1, 7, 8] (fun n st => ∃ k : Nat, k + n = l.length ∧ idxF p (l.drop k) k = idxF p l 0 ∧
    st = ⟨mkE .top [(0, .list (l.map cE)), (1, .clo g caps), (7, .int .i64 l.length), (8, .int .i64 k)], Hs⟩) l.length ?_ ?_
  · refine ⟨0, by omega, by simp, ?_⟩
    simp [keep_mk, go_sem, Nat.reduceLT, Nat.reduceAdd, Nat.reduceEqDiff, Nat.reduceLeDiff, Nat.reduceSub, Nat.reduceMul, Int.reduceEq, eq_self, reduceIte]
  · rintro n st ⟨k, hk, hi, rfl⟩
    by_cases hlt : k < l.length
    · have hgt : l[k]? = some (nth l k) := nth_get? _ _ hlt
      have wk := i64_up (k := k) (by omega)
      rw [idxF_drop p l k hlt] at hi
      simp only [go_sem, Nat.reduceLT, Nat.reduceAdd, Nat.reduceEqDiff, Nat.reduceLeDiff, Nat.reduceSub, Nat.reduceMul, Int.reduceEq, eq_self, reduceIte, hlt, hgt, cE, cId]
      refine ops_callv rfl hg (.whole (hp (nth l k) (by rw [nth_eq _ _ hlt]; exact List.getElem_mem hlt)) rfl ?_ hc.sub hc.back) ?_
      · simp only [go_sem, Nat.reduceLT, Nat.reduceAdd, Nat.reduceEqDiff, Nat.reduceLeDiff, Nat.reduceSub, Nat.reduceMul, Int.reduceEq, eq_self, reduceIte, cE, cId]
        rw [hc.caps]
      cases hpk : p (nth l k)
      · rw [if_neg (by simp [hpk])] at hi
        simp only [go_sem, Nat.reduceLT, Nat.reduceAdd, Nat.reduceEqDiff, Nat.reduceLeDiff, Nat.reduceSub, Nat.reduceMul, Int.reduceEq, eq_self, reduceIte, wk]
        exact ⟨n - 1, by omega, k + 1, by omega, hi, by simp [keep_mk, go_sem, Nat.reduceLT, Nat.reduceAdd, Nat.reduceEqDiff, Nat.reduceLeDiff, Nat.reduceSub, Nat.reduceMul, Int.reduceEq, eq_self, reduceIte]⟩
      · rw [if_pos hpk] at hi
        simp only [go_sem, Nat.reduceLT, Nat.reduceAdd, Nat.reduceEqDiff, Nat.reduceLeDiff, Nat.reduceSub, Nat.reduceMul, Int.reduceEq, eq_self, reduceIte]
        refine ret_scal hx rfl hc.kept ?_
        simp [go_sem, Nat.reduceLT, Nat.reduceAdd, Nat.reduceEqDiff, Nat.reduceLeDiff, Nat.reduceSub, Nat.reduceMul, Int.reduceEq, eq_self, reduceIte, L105, R105, hi]
    · have : l.drop k = [] := List.drop_eq_nil_of_le (by omega)
      rw [this] at hi
      simp only [go_sem, Nat.reduceLT, Nat.reduceAdd, Nat.reduceEqDiff, Nat.reduceLeDiff, Nat.reduceSub, Nat.reduceMul, Int.reduceEq, eq_self, reduceIte, hlt]
      refine ret_scal hx rfl hc.kept ?_
      simp [go_sem, Nat.reduceLT, Nat.reduceAdd, Nat.reduceEqDiff, Nat.reduceLeDiff, Nat.reduceSub, Nat.reduceMul, Int.reduceEq, eq_self, reduceIte, L105, R105, ← hi, idxF]
theorem indexI_meets (l : List Id) (g : Nat) (caps : List PV) (Hs : List AObj) (p : Id → Bool) (hg : hasBody Tryz.prog g = true) (hl : l.length ≤ 9223372036854775806) (hc : ClosedH Hs caps)
    (hp : ∀ e ∈ l, Meets Tryz.prog g (.agg (cId e) :: caps) Hs (.bool (p e)) Hs) :
    Meets Tryz.prog 141 [.list (l.map cId), .clo g caps] Hs (.int .i64 (idxF p l 0)) Hs := by
  refine Meets.of_walk Tryz.func141 Tryz.ntmps141 low141 res141 (by simp) fun x hx => ?_
  simp only [go_sem, Nat.reduceLT, Nat.reduceAdd, Nat.reduceEqDiff, Nat.reduceLeDiff, Nat.reduceSub, Nat.reduceMul, Int.reduceEq, eq_self, reduceIte, L141, R141]
  refine loop_keep [0, 1, 7, 8] (fun n st => ∃ k : Nat, k + n = l.length ∧ idxF p (l.drop k) k = idxF p l 0 ∧
    st = ⟨mkE .top [(0, .list (l.map cId)), (1, .clo g caps), (7, .int .i64 l.length), (8, .int .i64 k)], Hs⟩) l.length ?_ ?_
  · refine ⟨0, by omega, by simp, ?_⟩
    simp [keep_mk, go_sem, Nat.reduceLT, Nat.reduceAdd, Nat.reduceEqDiff, Nat.reduceLeDiff, Nat.reduceSub, Nat.reduceMul, Int.reduceEq, eq_self, reduceIte]
  · rintro n st ⟨k, hk, hi, rfl⟩
    by_cases hlt : k < l.length
    · have hgt : l[k]? = some (nth l k) := nth_get? _ _ hlt
      have wk := i64_up (k := k) (by omega)
      rw [idxF_drop p l k hlt] at hi
      simp only [go_sem, Nat.reduceLT, Nat.reduceAdd, Nat.reduceEqDiff, Nat.reduceLeDiff, Nat.reduceSub, Nat.reduceMul, Int.reduceEq, eq_self, reduceIte, hlt, hgt, cId, cId]
      refine ops_callv rfl hg (.whole (hp (nth l k) (by rw [nth_eq _ _ hlt]; exact List.getElem_mem hlt)) rfl ?_ hc.sub hc.back) ?_
      · simp only [go_sem, Nat.reduceLT, Nat.reduceAdd, Nat.reduceEqDiff, Nat.reduceLeDiff, Nat.reduceSub, Nat.reduceMul, Int.reduceEq, eq_self, reduceIte, cId, cId]
        rw [hc.caps]
      cases hpk : p (nth l k)
      · rw [if_neg (by simp [hpk])] at hi
        simp only [go_sem, Nat.reduceLT, Nat.reduceAdd, Nat.reduceEqDiff, Nat.reduceLeDiff, Nat.reduceSub, Nat.reduceMul, Int.reduceEq, eq_self, reduceIte, wk]
        exact ⟨n - 1, by omega, k + 1, by omega, hi, by simp [keep_mk, go_sem, Nat.reduceLT, Nat.reduceAdd, Nat.reduceEqDiff, Nat.reduceLeDiff, Nat.reduceSub, Nat.reduceMul, Int.reduceEq, eq_self, reduceIte]⟩
      · rw [if_pos hpk] at hi
        simp only [go_sem, Nat.reduceLT, Nat.reduceAdd, Nat.reduceEqDiff, Nat.reduceLeDiff, Nat.reduceSub, Nat.reduceMul, Int.reduceEq, eq_self, reduceIte]
        refine ret_scal hx rfl hc.kept ?_
        simp [go_sem, Nat.reduceLT, Nat.reduceAdd, Nat.reduceEqDiff, Nat.reduceLeDiff, Nat.reduceSub, Nat.reduceMul, Int.reduceEq, eq_self, reduceIte, L141, R141, hi]
    · have : l.drop k = [] := List.drop_eq_nil_of_le (by omega)
      rw [this] at hi
      simp only [go_sem, Nat.reduceLT, Nat.reduceAdd, Nat.reduceEqDiff, Nat.reduceLeDiff, Nat.reduceSub, Nat.reduceMul, Int.reduceEq, eq_self, reduceIte, hlt]
      refine ret_scal hx rfl hc.kept ?_
      simp [go_sem, Nat.reduceLT, Nat.reduceAdd, Nat.reduceEqDiff, Nat.reduceLeDiff, Nat.reduceSub, Nat.reduceMul, Int.reduceEq, eq_self, reduceIte, L141, R141, ← hi, idxF]
theorem contFE_meets (l : List Entry) (g : Nat) (caps : List PV) (Hs : List AObj) (p : Entry → Bool) (hg : hasBody Tryz.prog g = true) (hl : l.length ≤ 9223372036854775806) (hc : ClosedH Hs caps)
    (hp : ∀ e ∈ l, Meets Tryz.prog g (.agg (cE e) :: caps) Hs (.bool (p e)) Hs) :
    Meets Tryz.prog 119 [.list (l.map cE), .clo g caps] Hs (.bool (l.any p)) Hs := by
  refine Meets.of_walk Tryz.func119 Tryz.ntmps119 low119 res119 (by simp) fun x hx => ?_
  simp only [go_sem, Nat.reduceLT, Nat.reduceAdd, Nat.reduceEqDiff, Nat.reduceLeDiff, Nat.reduceSub, Nat.reduceMul, Int.reduceEq, eq_self, reduceIte, L119, R119]
  refine ops_call (.whole (indexE_meets l g caps Hs p hg hl hc hp) rfl ?_ hc.sub hc.back) ?_
  · simp only [go_sem, Nat.reduceLT, Nat.reduceAdd, Nat.reduceEqDiff, Nat.reduceLeDiff, Nat.reduceSub, Nat.reduceMul, Int.reduceEq, eq_self, reduceIte]
    rw [hc.leaf]
  simp only [go_sem, Nat.reduceLT, Nat.reduceAdd, Nat.reduceEqDiff, Nat.reduceLeDiff, Nat.reduceSub, Nat.reduceMul, Int.reduceEq, eq_self, reduceIte]
  refine ret_scal hx rfl hc.kept ?_
  simp [go_sem, Nat.reduceLT, Nat.reduceAdd, Nat.reduceEqDiff, Nat.reduceLeDiff, Nat.reduceSub, Nat.reduceMul, Int.reduceEq, eq_self, reduceIte, L119, R119, idxF_any]
theorem contFI_meets (l : List Id) (g : Nat) (caps : List PV) (Hs : List AObj) (p : Id → Bool) (hg : hasBody Tryz.prog g = true) (hl : l.length ≤ 9223372036854775806) (hc : ClosedH Hs caps)
    (hp : ∀ e ∈ l, Meets Tryz.prog g (.agg (cId e) :: caps) Hs (.bool (p e)) Hs) :
    Meets Tryz.prog 107 [.list (l.map cId), .clo g caps] Hs (.bool (l.any p)) Hs := by
  refine Meets.of_walk Tryz.func107 Tryz.ntmps107 low107 res107 (by simp) fun x hx => ?_
  simp only [go_sem, Nat.reduceLT, Nat.reduceAdd, Nat.reduceEqDiff, Nat.reduceLeDiff, Nat.reduceSub, Nat.reduceMul, Int.reduceEq, eq_self, reduceIte, L107, R107]
  refine ops_call (.whole (indexI_meets l g caps Hs p hg hl hc hp) rfl ?_ hc.sub hc.back) ?_
  · simp only [go_sem, Nat.reduceLT, Nat.reduceAdd, Nat.reduceEqDiff, Nat.reduceLeDiff, Nat.reduceSub, Nat.reduceMul, Int.reduceEq, eq_self, reduceIte]
    rw [hc.leaf]
  simp only [go_sem, Nat.reduceLT, Nat.reduceAdd, Nat.reduceEqDiff, Nat.reduceLeDiff, Nat.reduceSub, Nat.reduceMul, Int.reduceEq, eq_self, reduceIte]
  refine ret_scal hx rfl hc.kept ?_
  simp [go_sem, Nat.reduceLT, Nat.reduceAdd, Nat.reduceEqDiff, Nat.reduceLeDiff, Nat.reduceSub, Nat.reduceMul, Int.reduceEq, eq_self, reduceIte, L107, R107, idxF_any]
end Go.Proofs.YtfdolehffjmdmaaGreatDoor
/- Texts asked by a function; what an entry's text does (fold.Op). -/
namespace Go.Proofs.YtfdolehffjmdmaaGreatDoor
set_option linter.unusedSimpArgs false
set_option linter.unusedVariables false
open Go.RowKit
instance : Inhabited ByteArray := ⟨⟨#[]⟩⟩
theorem indexS_meets (l : List ByteArray) (g : Nat) (caps : List PV) (Hs : List AObj) (p : ByteArray → Bool) (hg : hasBody Tryz.prog g = true) (hl : l.length ≤ 9223372036854775806) (hc : ClosedH Hs caps)
    (hp : ∀ e ∈ l, Meets Tryz.prog g (.str e :: caps) Hs (.bool (p e)) Hs) :
    Meets Tryz.prog 97 [.list (l.map cStr), .clo g caps] Hs (.int .i64 (idxF p l 0)) Hs := by
  refine Meets.of_walk Tryz.func97 Tryz.ntmps97 low97 res97 (by simp) fun x hx => ?_
  simp only [go_sem, Nat.reduceLT, Nat.reduceAdd, Nat.reduceEqDiff, Nat.reduceLeDiff, Nat.reduceSub, Nat.reduceMul, Int.reduceEq, eq_self, reduceIte, L97, R97]
  refine loop_keep [0, 1, 7, 8] (fun n st => ∃ k : Nat, k + n = l.length ∧ idxF p (l.drop k) k = idxF p l 0 ∧
    st = ⟨mkE .top [(0, .list (l.map cStr)), (1, .clo g caps), (7, .int .i64 l.length), (8, .int .i64 k)], Hs⟩) l.length ?_ ?_
  · refine ⟨0, by omega, by simp, ?_⟩
    simp [keep_mk, go_sem, Nat.reduceLT, Nat.reduceAdd, Nat.reduceEqDiff, Nat.reduceLeDiff, Nat.reduceSub, Nat.reduceMul, Int.reduceEq, eq_self, reduceIte]
  · rintro n st ⟨k, hk, hi, rfl⟩
    by_cases hlt : k < l.length
    · have hgt : l[k]? = some (nth l k) := nth_get? _ _ hlt
      have wk := i64_up (k := k) (by omega)
      rw [idxF_drop p l k hlt] at hi
      simp only [go_sem, Nat.reduceLT, Nat.reduceAdd, Nat.reduceEqDiff, Nat.reduceLeDiff, Nat.reduceSub, Nat.reduceMul, Int.reduceEq, eq_self, reduceIte, hlt, hgt, cStr]
      refine ops_callv rfl hg (.whole (hp (nth l k) (by rw [nth_eq _ _ hlt]; exact List.getElem_mem hlt)) rfl ?_ hc.sub hc.back) ?_
      · simp only [go_sem, Nat.reduceLT, Nat.reduceAdd, Nat.reduceEqDiff, Nat.reduceLeDiff, Nat.reduceSub, Nat.reduceMul, Int.reduceEq, eq_self, reduceIte, cStr]
        rw [hc.caps]
      cases hpk : p (nth l k)
      · rw [if_neg (by simp [hpk])] at hi
        simp only [go_sem, Nat.reduceLT, Nat.reduceAdd, Nat.reduceEqDiff, Nat.reduceLeDiff, Nat.reduceSub, Nat.reduceMul, Int.reduceEq, eq_self, reduceIte, wk]
        exact ⟨n - 1, by omega, k + 1, by omega, hi, by simp [keep_mk, go_sem, Nat.reduceLT, Nat.reduceAdd, Nat.reduceEqDiff, Nat.reduceLeDiff, Nat.reduceSub, Nat.reduceMul, Int.reduceEq, eq_self, reduceIte, cStr]⟩
      · rw [if_pos hpk] at hi
        simp only [go_sem, Nat.reduceLT, Nat.reduceAdd, Nat.reduceEqDiff, Nat.reduceLeDiff, Nat.reduceSub, Nat.reduceMul, Int.reduceEq, eq_self, reduceIte]
        refine ret_scal hx rfl hc.kept ?_
        simp [go_sem, Nat.reduceLT, Nat.reduceAdd, Nat.reduceEqDiff, Nat.reduceLeDiff, Nat.reduceSub, Nat.reduceMul, Int.reduceEq, eq_self, reduceIte, L97, R97, hi]
    · have : l.drop k = [] := List.drop_eq_nil_of_le (by omega)
      rw [this] at hi
      simp only [go_sem, Nat.reduceLT, Nat.reduceAdd, Nat.reduceEqDiff, Nat.reduceLeDiff, Nat.reduceSub, Nat.reduceMul, Int.reduceEq, eq_self, reduceIte, hlt]
      refine ret_scal hx rfl hc.kept ?_
      simp [go_sem, Nat.reduceLT, Nat.reduceAdd, Nat.reduceEqDiff, Nat.reduceLeDiff, Nat.reduceSub, Nat.reduceMul, Int.reduceEq, eq_self, reduceIte, L97, R97, ← hi, idxF]
theorem contFS_meets (l : List ByteArray) (g : Nat) (caps : List PV) (Hs : List AObj) (p : ByteArray → Bool) (hg : hasBody Tryz.prog g = true) (hl : l.length ≤ 9223372036854775806) (hc : ClosedH Hs caps)
    (hp : ∀ e ∈ l, Meets Tryz.prog g (.str e :: caps) Hs (.bool (p e)) Hs) :
    Meets Tryz.prog 44 [.list (l.map cStr), .clo g caps] Hs (.bool (l.any p)) Hs := by
  refine Meets.of_walk Tryz.func44 Tryz.ntmps44 low44 res44 (by simp) fun x hx => ?_
  simp only [go_sem, Nat.reduceLT, Nat.reduceAdd, Nat.reduceEqDiff, Nat.reduceLeDiff, Nat.reduceSub, Nat.reduceMul, Int.reduceEq, eq_self, reduceIte, L44, R44]
  refine ops_call (.whole (indexS_meets l g caps Hs p hg hl hc hp) rfl ?_ hc.sub hc.back) ?_
  · simp only [go_sem, Nat.reduceLT, Nat.reduceAdd, Nat.reduceEqDiff, Nat.reduceLeDiff, Nat.reduceSub, Nat.reduceMul, Int.reduceEq, eq_self, reduceIte]
    rw [hc.leaf]
  simp only [go_sem, Nat.reduceLT, Nat.reduceAdd, Nat.reduceEqDiff, Nat.reduceLeDiff, Nat.reduceSub, Nat.reduceMul, Int.reduceEq, eq_self, reduceIte]
  refine ret_scal hx rfl hc.kept ?_
  simp [go_sem, Nat.reduceLT, Nat.reduceAdd, Nat.reduceEqDiff, Nat.reduceLeDiff, Nat.reduceSub, Nat.reduceMul, Int.reduceEq, eq_self, reduceIte, L44, R44, idxF_any]
theorem closedNil : ClosedH [] [] := ⟨rfl, rfl, rfl, rfl, rfl⟩
theorem opBad_meets (s : ByteArray) (hs : s.size ≤ 1000000000000000) : Meets Tryz.prog 45 [.str s] [] (.bool (!wordS s)) [] := by
  refine Meets.of_walk Tryz.func45 Tryz.ntmps45 low45 res45 (by simp) fun x hx => ?_
  simp only [go_sem, Nat.reduceLT, Nat.reduceAdd, Nat.reduceEqDiff, Nat.reduceLeDiff, Nat.reduceSub, Nat.reduceMul, Int.reduceEq, eq_self, reduceIte, L45, R45]
  refine ops_call (.pure (word_meets s hs)) ?_
  simp only [go_sem, Nat.reduceLT, Nat.reduceAdd, Nat.reduceEqDiff, Nat.reduceLeDiff, Nat.reduceSub, Nat.reduceMul, Int.reduceEq, eq_self, reduceIte]
  refine ret_pure hx ?_
  simp [go_sem, Nat.reduceLT, Nat.reduceAdd, Nat.reduceEqDiff, Nat.reduceLeDiff, Nat.reduceSub, Nat.reduceMul, Int.reduceEq, eq_self, reduceIte, L45, R45]
theorem piece_size (s : ByteArray) : ∀ (n : Nat) (t : ByteArray) (p : ByteArray), p ∈ Lib.splitB spB 0 n t → p.size ≤ t.size := by
  intro n
  induction n with
  | zero => intro t p h; simp [Lib.splitB] at h; rw [h]; exact Nat.le_refl _
  | succ n ih =>
    intro t p h
    rcases Lib.indexB_cases t spB with hm | ⟨i, hi, hr⟩
    · rw [Lib.splitB_miss _ _ _ _ hm] at h
      simp at h; rw [h]; exact Nat.le_refl _
    · rw [Lib.splitB] at h
      split at h
      · simp at h; rw [h]; exact Nat.le_refl _
      · rcases List.mem_cons.1 h with rfl | h
        · rw [ByteArray.size_extract]; omega
        · have := ih _ _ h
          rw [ByteArray.size_extract] at this; omega
def putB : ByteArray := ⟨#[112, 117, 116]⟩
def dropB : ByteArray := ⟨#[100, 114, 111, 112]⟩
def opOf (s : ByteArray) : Int × ByteArray × ByteArray := match piecesS s with
  | [a, b, c] => if a = putB ∧ wordS b = true ∧ wordS c = true then (1, b, c) else (0, ⟨#[]⟩, ⟨#[]⟩)
  | [a, b] => if a = dropB ∧ wordS b = true then (2, b, ⟨#[]⟩) else (0, ⟨#[]⟩, ⟨#[]⟩)
  | _ => (0, ⟨#[]⟩, ⟨#[]⟩)
def cOp4 (o : Int × ByteArray × ByteArray) : List PV := [.int .i64 o.1, .str o.2.1, .str o.2.2, .int .i64 (if o.1 = 0 then 1 else 0)]
set_option maxRecDepth 10000 in
set_option maxHeartbeats 2000000 in
theorem op_meets (s : ByteArray) (hs : s.size < 4294967281) : Meets Tryz.prog 11 [.str s] [] (.tup (cOp4 (opOf s))) [] := by
  have hlen := pieces_le s
  have hpos : 1 ≤ (piecesS s).length := by rw [pieces_len]; omega
  have hb : ∀ p ∈ (piecesS s), p.size ≤ 1000000000000000 := fun p hp => by have := piece_size s _ s p hp; omega
  obtain ⟨o, hop⟩ : ∃ o, opOf s = o := ⟨_, rfl⟩
  rw [hop]
  unfold opOf at hop
  refine Meets.of_walk Tryz.func11 Tryz.ntmps11 low11 res11 (by simp) fun x hx => ?_
  simp only [go_sem, Nat.reduceLT, Nat.reduceAdd, Nat.reduceEqDiff, Nat.reduceLeDiff, Nat.reduceSub, Nat.reduceMul, Int.reduceEq, eq_self, reduceIte, L11, R11]
  have hsp : (⟨#[32]⟩ : ByteArray) = spB := rfl
  rw [hsp]
  refine ops_call (.pure (split_meets s hs)) ?_
  generalize piecesS s = l at hlen hpos hb hop
  match l, hpos with
  | a :: r, _ =>
    have hS : (1 ≤ ((r.length + 1 : Nat) : Int) ∧ ∀ row, row ∈ [PV.str a] :: List.map cStr r → row.length = 1) = True := eq_true ⟨by omega, fun row hr => by
      rcases List.mem_cons.1 hr with rfl | hr
      · rfl
      · obtain ⟨q, -, rfl⟩ := List.mem_map.1 hr; rfl⟩
    have hT : List.take (((r.length + 1 : Nat) : Int) - 1).toNat (List.map cStr r) = r.map cStr := List.take_of_length_le (by rw [List.length_map]; omega)
    have hc := contFS_meets r 45 [] [] (fun w => !wordS w) (by kernel_rfl) (by simp only [List.length_cons] at hlen; omega) closedNil (fun e he => opBad_meets e (hb e (List.mem_cons_of_mem _ he)))
    simp only [go_sem, Nat.reduceLT, Nat.reduceAdd, Nat.reduceEqDiff, Nat.reduceLeDiff, Nat.reduceSub, Nat.reduceMul, Int.reduceEq, eq_self, reduceIte, Int.ofNat_zero, Int.natCast_one, Int.cast_ofNat_Int, Int.reduceLT, Int.reduceLE, Int.reduceToNat, Nat.reduceLT, Int.toNat_zero, Int.natCast_zero, Int.le_refl, Int.lt_irrefl, Int.reduceAdd, frz, false_or, or_true, List.map_cons, List.length_cons, cStr, hS, hT]
    refine ops_call (.pure hc) ?_
    clear hc hS hT hb hlen
    cases hbad : r.any fun w => !wordS w
    · have hall : ∀ w ∈ r, wordS w = true := fun w hw => by
        have := List.any_eq_false.1 hbad w hw
        simpa using this
      match r, hall, hop with
      | [], hall, hop =>
        simp only [go_sem, Nat.reduceLT, Nat.reduceAdd, Nat.reduceEqDiff, Nat.reduceLeDiff, Nat.reduceSub, Nat.reduceMul, Int.reduceEq, eq_self, reduceIte, Int.ofNat_zero, Int.natCast_one, Int.cast_ofNat_Int, Int.reduceLT, Int.reduceLE, Int.reduceToNat, Nat.reduceLT, Int.toNat_zero, Int.natCast_zero, Int.le_refl, Int.lt_irrefl, Int.reduceAdd, frz, false_or, or_true, List.map_nil, List.length_nil]
        refine ret_pure hx ?_
        rw [← hop]
        simp [go_sem, Nat.reduceLT, Nat.reduceAdd, Nat.reduceEqDiff, Nat.reduceLeDiff, Nat.reduceSub, Nat.reduceMul, Int.reduceEq, eq_self, reduceIte, L11, R11, cOp4]
      | [b], hall, hop =>
        have w1 := hall b (by simp)
        by_cases h1 : a = dropB
        · have h1' : (a = (⟨#[100, 114, 111, 112]⟩ : ByteArray)) = True := eq_true h1
          simp only [go_sem, Nat.reduceLT, Nat.reduceAdd, Nat.reduceEqDiff, Nat.reduceLeDiff, Nat.reduceSub, Nat.reduceMul, Int.reduceEq, eq_self, reduceIte, Int.ofNat_zero, Int.natCast_one, Int.cast_ofNat_Int, Int.reduceLT, Int.reduceLE, Int.reduceToNat, Nat.reduceLT, Int.toNat_zero, Int.natCast_zero, Int.le_refl, Int.lt_irrefl, Int.reduceAdd, frz, false_or, or_true, List.map_cons, List.map_nil, List.length_cons, List.length_nil, cStr, h1']
          refine ret_pure hx ?_
          rw [← hop]
          simp [go_sem, Nat.reduceLT, Nat.reduceAdd, Nat.reduceEqDiff, Nat.reduceLeDiff, Nat.reduceSub, Nat.reduceMul, Int.reduceEq, eq_self, reduceIte, L11, R11, cOp4, h1, w1]
        · have h1' : (a = (⟨#[100, 114, 111, 112]⟩ : ByteArray)) = False := eq_false h1
          simp only [go_sem, Nat.reduceLT, Nat.reduceAdd, Nat.reduceEqDiff, Nat.reduceLeDiff, Nat.reduceSub, Nat.reduceMul, Int.reduceEq, eq_self, reduceIte, Int.ofNat_zero, Int.natCast_one, Int.cast_ofNat_Int, Int.reduceLT, Int.reduceLE, Int.reduceToNat, Nat.reduceLT, Int.toNat_zero, Int.natCast_zero, Int.le_refl, Int.lt_irrefl, Int.reduceAdd, frz, false_or, or_true, List.map_cons, List.map_nil, List.length_cons, List.length_nil, cStr, h1']
          refine ret_pure hx ?_
          rw [← hop]
          simp [go_sem, Nat.reduceLT, Nat.reduceAdd, Nat.reduceEqDiff, Nat.reduceLeDiff, Nat.reduceSub, Nat.reduceMul, Int.reduceEq, eq_self, reduceIte, L11, R11, cOp4, h1]
      | [b, c], hall, hop =>
        have w1 := hall b (by simp)
        have w2 := hall c (by simp)
        by_cases h1 : a = putB
        · have h1' : (a = (⟨#[112, 117, 116]⟩ : ByteArray)) = True := eq_true h1
          simp only [go_sem, Nat.reduceLT, Nat.reduceAdd, Nat.reduceEqDiff, Nat.reduceLeDiff, Nat.reduceSub, Nat.reduceMul, Int.reduceEq, eq_self, reduceIte, Int.ofNat_zero, Int.natCast_one, Int.cast_ofNat_Int, Int.reduceLT, Int.reduceLE, Int.reduceToNat, Nat.reduceLT, Int.toNat_zero, Int.natCast_zero, Int.le_refl, Int.lt_irrefl, Int.reduceAdd, frz, false_or, or_true, List.map_cons, List.map_nil, List.length_cons, List.length_nil, cStr, h1']
          refine ret_pure hx ?_
          rw [← hop]
          simp [go_sem, Nat.reduceLT, Nat.reduceAdd, Nat.reduceEqDiff, Nat.reduceLeDiff, Nat.reduceSub, Nat.reduceMul, Int.reduceEq, eq_self, reduceIte, L11, R11, cOp4, h1, w1, w2]
        · have h1' : (a = (⟨#[112, 117, 116]⟩ : ByteArray)) = False := eq_false h1
          simp only [go_sem, Nat.reduceLT, Nat.reduceAdd, Nat.reduceEqDiff, Nat.reduceLeDiff, Nat.reduceSub, Nat.reduceMul, Int.reduceEq, eq_self, reduceIte, Int.ofNat_zero, Int.natCast_one, Int.cast_ofNat_Int, Int.reduceLT, Int.reduceLE, Int.reduceToNat, Nat.reduceLT, Int.toNat_zero, Int.natCast_zero, Int.le_refl, Int.lt_irrefl, Int.reduceAdd, frz, false_or, or_true, List.map_cons, List.map_nil, List.length_cons, List.length_nil, cStr, h1']
          refine ret_pure hx ?_
          rw [← hop]
          simp [go_sem, Nat.reduceLT, Nat.reduceAdd, Nat.reduceEqDiff, Nat.reduceLeDiff, Nat.reduceSub, Nat.reduceMul, Int.reduceEq, eq_self, reduceIte, L11, R11, cOp4, h1]
      | b :: c :: d :: q, hall, hop =>
        have n3 : ¬ (((q.length + 1 + 1 + 1 + 1 : Nat) : Int) = 3) := by omega
        have n2 : ¬ (((q.length + 1 + 1 + 1 + 1 : Nat) : Int) = 2) := by omega
        simp only [go_sem, Nat.reduceLT, Nat.reduceAdd, Nat.reduceEqDiff, Nat.reduceLeDiff, Nat.reduceSub, Nat.reduceMul, Int.reduceEq, eq_self, reduceIte, Int.ofNat_zero, Int.natCast_one, Int.cast_ofNat_Int, Int.reduceLT, Int.reduceLE, Int.reduceToNat, Nat.reduceLT, Int.toNat_zero, Int.natCast_zero, Int.le_refl, Int.lt_irrefl, Int.reduceAdd, frz, false_or, or_true, List.map_cons, List.length_cons, List.length_map, cStr, n3, n2]
        refine ret_pure hx ?_
        rw [← hop]
        simp [go_sem, Nat.reduceLT, Nat.reduceAdd, Nat.reduceEqDiff, Nat.reduceLeDiff, Nat.reduceSub, Nat.reduceMul, Int.reduceEq, eq_self, reduceIte, L11, R11, cOp4]
    · simp only [go_sem, Nat.reduceLT, Nat.reduceAdd, Nat.reduceEqDiff, Nat.reduceLeDiff, Nat.reduceSub, Nat.reduceMul, Int.reduceEq, eq_self, reduceIte, Int.ofNat_zero, Int.natCast_one, Int.cast_ofNat_Int, Int.reduceLT, Int.reduceLE, Int.reduceToNat, Nat.reduceLT, Int.toNat_zero, Int.natCast_zero, Int.le_refl, Int.lt_irrefl, Int.reduceAdd, frz, false_or, or_true]
      refine ret_pure hx ?_
      have : o = (0, ⟨#[]⟩, ⟨#[]⟩) := by
        rw [← hop]
        match r, hbad with
        | [], hbad => rfl
        | [b], hbad =>
          have : wordS b = false := by simpa using hbad
          simp [this]
        | [b, c], hbad =>
          have : ¬ (wordS b = true ∧ wordS c = true) := by
            rintro ⟨h1, h2⟩
            simp [h1, h2] at hbad
          simp only
          rw [if_neg (fun h => this h.2)]
        | b :: c :: d :: q, hbad => rfl
      rw [this]
      simp [go_sem, Nat.reduceLT, Nat.reduceAdd, Nat.reduceEqDiff, Nat.reduceLeDiff, Nat.reduceSub, Nat.reduceMul, Int.reduceEq, eq_self, reduceIte, L11, R11, cOp4]
end Go.Proofs.YtfdolehffjmdmaaGreatDoor
/- Logs: finding, counting, being ready, being right: contracts. -/
namespace Go.Proofs.YtfdolehffjmdmaaGreatDoor
set_option linter.unusedSimpArgs false
set_option linter.unusedVariables false
open Go.RowKit
def findE (l : List Entry) (x : Id) : Int := idxF (fun e => decide (e.id = x)) l 0
theorem cE_row (l : List Entry) : ∀ row ∈ l.map cE, row.length = 5 := by simp [cE]
theorem closed1 (cells : List PV) (h : cells.map (renCell false (pos [0]) (frzAt false [.box cells])) = cells) (h2 : cells.map (renCell false (pos [0]) (frzAt true [.box cells])) = cells) (h3 : cells.map (renCell false (backF 1 [0]) noFz) = cells) :
    ClosedH [.box cells] [.ptr 0 0] := by
  refine ⟨?_, ?_, ?_, ?_, ?_⟩
  · simp [renLeaf, pos, List.range_succ]
  · simp [ren, renCell, renLeaf, pos, List.range_succ]
  · simp only [List.length_cons, List.length_nil, List.range_succ, List.range_zero, List.nil_append, subHeap, List.map_cons, List.map_nil, List.getElem?_cons_zero, Option.getD_some, renObj, h]
  · simp only [List.length_cons, List.length_nil, List.range_succ, List.range_zero, List.nil_append, merge, List.map_cons, List.map_nil, mergeObj, callId, Nat.zero_add, Nat.sub_self, Nat.add_zero]
    simp [pos, renObj, h3]
  · simp only [List.length_cons, List.length_nil, List.range_succ, List.range_zero, List.nil_append, subHeap, List.map_cons, List.map_nil, List.getElem?_cons_zero, Option.getD_some, renObj, h2]
theorem find1_meets (x : Id) (e : Entry) : Meets Tryz.prog 106 [.agg (cE e), .ptr 0 0] [.box (cId x)] (.bool (decide (e.id = x))) [.box (cId x)] := by
  refine Meets.of_walk Tryz.func106 Tryz.ntmps106 low106 res106 (by simp) fun xx hx => ?_
  simp only [go_sem, Nat.reduceLT, Nat.reduceAdd, Nat.reduceEqDiff, Nat.reduceLeDiff, Nat.reduceSub, Nat.reduceMul, Int.reduceEq, eq_self, reduceIte, L106, R106, cE, cId, beqId]
  refine ret_keep [] (by simp) (by simp) (by simp [hx]) ?_ ?_
  · simp [go_sem, Nat.reduceLT, Nat.reduceAdd, Nat.reduceEqDiff, Nat.reduceLeDiff, Nat.reduceSub, Nat.reduceMul, Int.reduceEq, eq_self, reduceIte, L106, R106, hx]
  · simp [subHeap, renObj, hx, go_sem, Nat.reduceLT, Nat.reduceAdd, Nat.reduceEqDiff, Nat.reduceLeDiff, Nat.reduceSub, Nat.reduceMul, Int.reduceEq, eq_self, reduceIte]
theorem closedId (x : Id) : ClosedH [.box (cId x)] [.ptr 0 0] := closed1 _ (by simp [cId, renCell, renLeaf]) (by simp [cId, renCell, renLeaf]) (by simp [cId, renCell, renLeaf])
theorem find_meets (l : List Entry) (x : Id) (hl : l.length ≤ 9223372036854775806) : Meets Tryz.prog 60 [.list (l.map cE), .agg (cId x)] [] (.int .i64 (findE l x)) [] := by
  refine Meets.of_walk Tryz.func60 Tryz.ntmps60 low60 res60 (by simp) fun xx hx => ?_
  simp only [go_sem, Nat.reduceLT, Nat.reduceAdd, Nat.reduceEqDiff, Nat.reduceLeDiff, Nat.reduceSub, Nat.reduceMul, Int.reduceEq, eq_self, reduceIte, L60, R60, cId]
  refine ops_call (.heapE [0] (r' := .int .i64 (findE l x)) (H' := [.box (cId x)]) (indexE_meets l 106 [.ptr 0 0] [.box (cId x)] (fun e => decide (e.id = x)) (by kernel_rfl) hl (closedId x) (fun e _ => find1_meets x e)) (by simp) (by simp) (by simp [go_sem, Nat.reduceLT, Nat.reduceAdd, Nat.reduceEqDiff, Nat.reduceLeDiff, Nat.reduceSub, Nat.reduceMul, Int.reduceEq, eq_self, reduceIte, pos]) (by simp [subHeap, renObj, go_sem, Nat.reduceLT, Nat.reduceAdd, Nat.reduceEqDiff, Nat.reduceLeDiff, Nat.reduceSub, Nat.reduceMul, Int.reduceEq, eq_self, reduceIte, cId]) rfl (by simp [merge, mergeObj, callId, renObj, pos, go_sem, Nat.reduceLT, Nat.reduceAdd, Nat.reduceEqDiff, Nat.reduceLeDiff, Nat.reduceSub, Nat.reduceMul, Int.reduceEq, eq_self, reduceIte, List.range_succ, cId])) ?_
  simp only [go_sem, Nat.reduceLT, Nat.reduceAdd, Nat.reduceEqDiff, Nat.reduceLeDiff, Nat.reduceSub, Nat.reduceMul, Int.reduceEq, eq_self, reduceIte]
  refine ret_pure hx ?_
  simp [go_sem, Nat.reduceLT, Nat.reduceAdd, Nat.reduceEqDiff, Nat.reduceLeDiff, Nat.reduceSub, Nat.reduceMul, Int.reduceEq, eq_self, reduceIte, L60, R60]
def cntR (l : List Entry) (r : Int) : Nat := l.countP fun e => decide (e.id.r = r)
theorem cntR_take (l : List Entry) (k : Nat) (r : Int) (h : k < l.length) : cntR (l.take (k + 1)) r = cntR (l.take k) r + if (nth l k).id.r = r then 1 else 0 := by
  rw [List.take_succ_eq_append_getElem h, nth_eq _ _ h]
  simp only [cntR, List.countP_append, List.countP_cons, List.countP_nil, decide_eq_true_eq]
  omega
theorem cntR_le (l : List Entry) (r : Int) : cntR l r ≤ l.length := List.countP_le_length
def okReg (l : List Entry) : Prop := ∀ e ∈ l, e.id.r = 0 ∨ e.id.r = 1
theorem many_meets (l : List Entry) (h : okReg l) (hl : l.length ≤ 1000000000000000) : Meets Tryz.prog 61 [.list (l.map cE)] [] (.agg [.int .i64 (cntR l 0), .int .i64 (cntR l 1)]) [] := by
  refine Meets.of_walk Tryz.func61 Tryz.ntmps61 low61 res61 (by simp) fun x hx => ?_
  simp only [go_sem, Nat.reduceLT, Nat.reduceAdd, Nat.reduceEqDiff, Nat.reduceLeDiff, Nat.reduceSub, Nat.reduceMul, Int.reduceEq, eq_self, reduceIte, L61, R61]
  refine loop_inv [2, 3, 6, 7, 8] 2 (fun n st => ∃ k : Nat, k + n = l.length ∧
    st = ⟨mkE .top [(2, .ptr 0 0), (3, .ptr 1 0), (6, .list (l.map cE)), (7, .int .i64 l.length), (8, .int .i64 k)], [.box [.int .i64 0, .int .i64 0], .box [.int .i64 (cntR (l.take k) 0), .int .i64 (cntR (l.take k) 1)]]⟩) l.length (by simp [hx]) (by simp) ?_ ?_
  · refine ⟨0, by omega, ?_⟩
    simp [trim_mk, go_sem, Nat.reduceLT, Nat.reduceAdd, Nat.reduceEqDiff, Nat.reduceLeDiff, Nat.reduceSub, Nat.reduceMul, Int.reduceEq, eq_self, reduceIte, subHeap, renObj, pos, List.range_succ, cntR]
  · rintro n st ⟨k, hk, rfl⟩
    by_cases hlt : k < l.length
    · have hg : l[k]? = some (nth l k) := nth_get? _ _ hlt
      have wk := i64_up (k := k) (by omega)
      have hle : ∀ r, cntR (l.take k) r ≤ 1000000000000000 := fun r => by have := cntR_le (l.take k) r; rw [List.length_take] at this; omega
      have w0 := i64_up (k := cntR (l.take k) 0) (by have := hle 0; omega)
      have w1 := i64_up (k := cntR (l.take k) 1) (by have := hle 1; omega)
      have c0 := cntR_take l k 0 hlt
      have c1 := cntR_take l k 1 hlt
      rcases h (nth l k) (by rw [nth_eq _ _ hlt]; exact List.getElem_mem hlt) with hr | hr
      · rw [hr] at c0 c1
        simp only [go_sem, Nat.reduceLT, Nat.reduceAdd, Nat.reduceEqDiff, Nat.reduceLeDiff, Nat.reduceSub, Nat.reduceMul, Int.reduceEq, eq_self, reduceIte, hlt, hg, cE, hr, w0, w1, wk, Int.reduceLE, Int.reduceLT, Int.reduceToNat, Int.cast_ofNat_Int, Int.ofNat_zero, Int.toNat_zero, Int.le_refl]
        refine ⟨by simp, n - 1, by omega, k + 1, by omega, ?_⟩
        simp [trim_mk, go_sem, Nat.reduceLT, Nat.reduceAdd, Nat.reduceEqDiff, Nat.reduceLeDiff, Nat.reduceSub, Nat.reduceMul, Int.reduceEq, eq_self, reduceIte, subHeap, renObj, pos, List.range_succ, c0, c1]
      · rw [hr] at c0 c1
        simp only [go_sem, Nat.reduceLT, Nat.reduceAdd, Nat.reduceEqDiff, Nat.reduceLeDiff, Nat.reduceSub, Nat.reduceMul, Int.reduceEq, eq_self, reduceIte, hlt, hg, cE, hr, w0, w1, wk, Int.reduceLE, Int.reduceLT, Int.reduceToNat, Int.cast_ofNat_Int, Int.ofNat_zero, Int.toNat_zero, Int.le_refl]
        refine ⟨by simp, n - 1, by omega, k + 1, by omega, ?_⟩
        simp [trim_mk, go_sem, Nat.reduceLT, Nat.reduceAdd, Nat.reduceEqDiff, Nat.reduceLeDiff, Nat.reduceSub, Nat.reduceMul, Int.reduceEq, eq_self, reduceIte, subHeap, renObj, pos, List.range_succ, c0, c1]
    · have : l.take k = l := List.take_of_length_le (by omega)
      simp only [go_sem, Nat.reduceLT, Nat.reduceAdd, Nat.reduceEqDiff, Nat.reduceLeDiff, Nat.reduceSub, Nat.reduceMul, Int.reduceEq, eq_self, reduceIte, hlt]
      refine ret_pure hx ?_
      simp [go_sem, Nat.reduceLT, Nat.reduceAdd, Nat.reduceEqDiff, Nat.reduceLeDiff, Nat.reduceSub, Nat.reduceMul, Int.reduceEq, eq_self, reduceIte, L61, R61, this]
end Go.Proofs.YtfdolehffjmdmaaGreatDoor
/- Logs: being ready, being right: contracts. -/
namespace Go.Proofs.YtfdolehffjmdmaaGreatDoor
set_option linter.unusedSimpArgs false
set_option linter.unusedVariables false
open Go.RowKit
def readyB (l : List Entry) (e : Entry) : Bool := decide ((cntR l e.id.r : Int) + 1 = e.id.n) && !(e.ls.any fun x => decide (findE l x < 0))
theorem ready1_meets (l : List Entry) (x : Id) (hl : l.length ≤ 9223372036854775806) : Meets Tryz.prog 108 [.agg (cId x), .ptr 0 0] [.box [.list (l.map cE)]] (.bool (decide (findE l x < 0))) [.box [.list (l.map cE)]] := by
  refine Meets.of_walk Tryz.func108 Tryz.ntmps108 low108 res108 (by simp) fun xx hx => ?_
  simp only [go_sem, Nat.reduceLT, Nat.reduceAdd, Nat.reduceEqDiff, Nat.reduceLeDiff, Nat.reduceSub, Nat.reduceMul, Int.reduceEq, eq_self, reduceIte, L108, R108, cId]
  refine ops_call (.pureE (find_meets l x hl) (by simp [go_sem, Nat.reduceLT, Nat.reduceAdd, Nat.reduceEqDiff, Nat.reduceLeDiff, Nat.reduceSub, Nat.reduceMul, Int.reduceEq, eq_self, reduceIte, cId])) ?_
  simp only [go_sem, Nat.reduceLT, Nat.reduceAdd, Nat.reduceEqDiff, Nat.reduceLeDiff, Nat.reduceSub, Nat.reduceMul, Int.reduceEq, eq_self, reduceIte]
  refine ret_keep [] (by simp) (by simp) (by simp [hx]) ?_ ?_
  · simp [go_sem, Nat.reduceLT, Nat.reduceAdd, Nat.reduceEqDiff, Nat.reduceLeDiff, Nat.reduceSub, Nat.reduceMul, Int.reduceEq, eq_self, reduceIte, L108, R108, hx]
  · simp [subHeap, renObj, hx, go_sem, Nat.reduceLT, Nat.reduceAdd, Nat.reduceEqDiff, Nat.reduceLeDiff, Nat.reduceSub, Nat.reduceMul, Int.reduceEq, eq_self, reduceIte]
theorem closedL (l : List Entry) : ClosedH [.box [.list (l.map cE)]] [.ptr 0 0] := closed1 _ (by simp [renCell, renLeaf]) (by simp [renCell, renLeaf]) (by simp [renCell, renLeaf])
theorem ready_meets (l : List Entry) (e : Entry) (h : okReg l) (hl : l.length ≤ 1000000000000000) (he : e.id.r = 0 ∨ e.id.r = 1) (hls : e.ls.length ≤ 9223372036854775806) :
    Meets Tryz.prog 62 [.list (l.map cE), .agg (cE e)] [] (.bool (readyB l e)) [] := by
  refine Meets.of_walk Tryz.func62 Tryz.ntmps62 low62 res62 (by simp) fun x hx => ?_
  have hw : IntKind.i64.wrap ((cntR l e.id.r : Int) + 1) = (cntR l e.id.r : Int) + 1 := by have := cntR_le l e.id.r; rw [IntWalk.i64_in _ (by omega)]
  simp only [go_sem, Nat.reduceLT, Nat.reduceAdd, Nat.reduceEqDiff, Nat.reduceLeDiff, Nat.reduceSub, Nat.reduceMul, Int.reduceEq, eq_self, reduceIte, L62, R62, cE]
  refine ops_call (.pure (many_meets l h hl)) ?_
  have hany := contFI_meets e.ls 108 [.ptr 0 0] [.box [.list (l.map cE)]] (fun x => decide (findE l x < 0)) (by kernel_rfl) hls (closedL l) (fun y _ => ready1_meets l y (by omega))
  rcases he with hr | hr
  all_goals
    rw [hr] at hw
    by_cases hc : (cntR l e.id.r : Int) + 1 = e.id.n
    · have hc' := hc
      rw [hr] at hc'
      have dc := decide_eq_true hc'
      simp only [go_sem, Nat.reduceLT, Nat.reduceAdd, Nat.reduceEqDiff, Nat.reduceLeDiff, Nat.reduceSub, Nat.reduceMul, Int.reduceEq, eq_self, reduceIte, hr, hw, dc, Int.reduceLE, Int.reduceLT, Int.reduceToNat, Int.cast_ofNat_Int, Int.ofNat_zero, Int.toNat_zero, Int.le_refl]
      refine ops_call (.heapE [0] (r' := .bool (e.ls.any fun x => decide (findE l x < 0))) (H' := [.box [.list (l.map cE)], .box (cE e)]) hany (by simp) (by simp) (by simp [go_sem, Nat.reduceLT, Nat.reduceAdd, Nat.reduceEqDiff, Nat.reduceLeDiff, Nat.reduceSub, Nat.reduceMul, Int.reduceEq, eq_self, reduceIte, pos]) (by simp [subHeap, renObj, go_sem, Nat.reduceLT, Nat.reduceAdd, Nat.reduceEqDiff, Nat.reduceLeDiff, Nat.reduceSub, Nat.reduceMul, Int.reduceEq, eq_self, reduceIte]) rfl (by simp [merge, mergeObj, callId, renObj, pos, go_sem, Nat.reduceLT, Nat.reduceAdd, Nat.reduceEqDiff, Nat.reduceLeDiff, Nat.reduceSub, Nat.reduceMul, Int.reduceEq, eq_self, reduceIte, List.range_succ, cE, hr])) ?_
      simp only [go_sem, Nat.reduceLT, Nat.reduceAdd, Nat.reduceEqDiff, Nat.reduceLeDiff, Nat.reduceSub, Nat.reduceMul, Int.reduceEq, eq_self, reduceIte]
      refine ret_pure hx ?_
      simp [go_sem, Nat.reduceLT, Nat.reduceAdd, Nat.reduceEqDiff, Nat.reduceLeDiff, Nat.reduceSub, Nat.reduceMul, Int.reduceEq, eq_self, reduceIte, L62, R62, readyB, hc]
    · have hc' := hc
      rw [hr] at hc'
      simp only [go_sem, Nat.reduceLT, Nat.reduceAdd, Nat.reduceEqDiff, Nat.reduceLeDiff, Nat.reduceSub, Nat.reduceMul, Int.reduceEq, eq_self, reduceIte, hr, hw, hc', Int.reduceLE, Int.reduceLT, Int.reduceToNat, Int.cast_ofNat_Int, Int.ofNat_zero, Int.toNat_zero, Int.le_refl]
      refine ret_pure hx ?_
      simp [go_sem, Nat.reduceLT, Nat.reduceAdd, Nat.reduceEqDiff, Nat.reduceLeDiff, Nat.reduceSub, Nat.reduceMul, Int.reduceEq, eq_self, reduceIte, L62, R62, readyB, hc]
def logErr (l : List Entry) (k : Nat) : Int :=
  if checkEntry (nth l k) ≠ 0 then checkEntry (nth l k) else if 0 ≤ findE (l.take k) (nth l k).id then 6
  else if (cntR (l.take k) (nth l k).id.r : Int) + 1 ≠ (nth l k).id.n then 4 else if readyB (l.take k) (nth l k) = false then 5 else 0
def checkLog (l : List Entry) : Int := if 40 < l.length then 2 else firstNZ (logErr l) l.length
theorem reg_of_check {e : Entry} (h : checkEntry e = 0) : e.id.r = 0 ∨ e.id.r = 1 := by
  have := (check_ok_bounds h).1
  simp only [okId, Bool.and_eq_true, wthn_iff] at this
  omega
theorem okReg_take {l : List Entry} {k : Nat} (h : firstNZ (logErr l) k = 0) (hk : k ≤ l.length) : okReg (l.take k) := by
  intro e he
  obtain ⟨j, hj, rfl⟩ := List.getElem_of_mem he
  rw [List.length_take] at hj
  have h0 := firstNZ_zero.1 h j (by omega)
  have hc : checkEntry (nth l j) = 0 := by
    unfold logErr at h0
    split at h0
    · exact h0
    · rename_i h; simpa using h
  rw [List.getElem_take, ← nth_eq l j (by omega)]
  exact reg_of_check hc
theorem dagCheck_meets (l : List Entry) (hm : l.length ≤ 9223372036854775806) : Meets Tryz.prog 21 [.list (l.map cE)] [] (.int .i64 (checkLog l)) [] := by
  refine Meets.of_walk Tryz.func21 Tryz.ntmps21 low21 res21 (by simp) fun x hx => ?_
  by_cases h40 : 40 < l.length
  · have d40 : decide ((40 : Int) < (l.length : Nat)) = true := by simp; omega
    simp only [go_sem, Nat.reduceLT, Nat.reduceAdd, Nat.reduceEqDiff, Nat.reduceLeDiff, Nat.reduceSub, Nat.reduceMul, Int.reduceEq, eq_self, reduceIte, L21, R21, d40]
    refine ret_pure hx ?_
    simp [go_sem, Nat.reduceLT, Nat.reduceAdd, Nat.reduceEqDiff, Nat.reduceLeDiff, Nat.reduceSub, Nat.reduceMul, Int.reduceEq, eq_self, reduceIte, L21, R21, checkLog, h40]
  have d40 : decide ((40 : Int) < (l.length : Nat)) = false := by simp; omega
  have hcl : checkLog l = firstNZ (logErr l) l.length := by simp [checkLog, h40]
  simp only [go_sem, Nat.reduceLT, Nat.reduceAdd, Nat.reduceEqDiff, Nat.reduceLeDiff, Nat.reduceSub, Nat.reduceMul, Int.reduceEq, eq_self, reduceIte, L21, R21, d40, hcl]
  refine loop_inv [0, 9, 10, 11] 0 (fun n st => ∃ k : Nat, k + n = l.length ∧ firstNZ (logErr l) k = 0 ∧
    st = ⟨mkE .top [(0, .list (l.map cE)), (9, .list (l.map cE)), (10, .int .i64 l.length), (11, .int .i64 k)], []⟩) l.length (by simp [hx]) (by simp) ?_ ?_
  · refine ⟨0, by omega, rfl, ?_⟩
    simp [trim_mk, go_sem, Nat.reduceLT, Nat.reduceAdd, Nat.reduceEqDiff, Nat.reduceLeDiff, Nat.reduceSub, Nat.reduceMul, Int.reduceEq, eq_self, reduceIte, subHeap, renObj, pos]
  · rintro n st ⟨k, hk, hz, rfl⟩
    by_cases hlt : k < l.length
    · have hg : l[k]? = some (nth l k) := nth_get? _ _ hlt
      have wk := i64_up (k := k) (by omega)
      have hle : k ≤ l.length := by omega
      have hrow : (∀ row ∈ List.map cE l, row.length = 5) = True := eq_true (cE_row l)
      have htk : List.take k (List.map cE l) = List.map cE (List.take k l) := List.map_take.symm
      have hlk : (l.take k).length ≤ 40 := by rw [List.length_take]; omega
      have hreg := okReg_take hz hle
      have fin : ∀ r : Int, logErr l k = r → r ≠ 0 → firstNZ (logErr l) l.length = r := fun r h1 h2 => by rw [firstNZ_hit hz (by rw [h1]; exact h2) hlt, h1]
      simp only [go_sem, Nat.reduceLT, Nat.reduceAdd, Nat.reduceEqDiff, Nat.reduceLeDiff, Nat.reduceSub, Nat.reduceMul, Int.reduceEq, eq_self, reduceIte, hlt, hg, cE]
      refine ops_call (.pureE (check_meets (nth l k)) (by simp [go_sem, Nat.reduceLT, Nat.reduceAdd, Nat.reduceEqDiff, Nat.reduceLeDiff, Nat.reduceSub, Nat.reduceMul, Int.reduceEq, eq_self, reduceIte, cE])) ?_
      by_cases h1 : checkEntry (nth l k) = 0
      · have hr := reg_of_check h1
        simp only [go_sem, Nat.reduceLT, Nat.reduceAdd, Nat.reduceEqDiff, Nat.reduceLeDiff, Nat.reduceSub, Nat.reduceMul, Int.reduceEq, eq_self, reduceIte, h1, hle, hrow, htk, Int.le_refl, Int.sub_zero, Int.toNat_zero, Int.natCast_nonneg, cE]
        refine ops_call (.pureE (find_meets (l.take k) (nth l k).id (by omega)) (by simp [go_sem, Nat.reduceLT, Nat.reduceAdd, Nat.reduceEqDiff, Nat.reduceLeDiff, Nat.reduceSub, Nat.reduceMul, Int.reduceEq, eq_self, reduceIte, cId])) ?_
        by_cases h2 : 0 ≤ findE (l.take k) (nth l k).id
        · simp only [go_sem, Nat.reduceLT, Nat.reduceAdd, Nat.reduceEqDiff, Nat.reduceLeDiff, Nat.reduceSub, Nat.reduceMul, Int.reduceEq, eq_self, reduceIte, h2]
          refine ret_pure hx ?_
          have : logErr l k = 6 := by simp [logErr, h1, h2]
          simp [go_sem, Nat.reduceLT, Nat.reduceAdd, Nat.reduceEqDiff, Nat.reduceLeDiff, Nat.reduceSub, Nat.reduceMul, Int.reduceEq, eq_self, reduceIte, L21, R21, fin _ this (by decide)]
        simp only [go_sem, Nat.reduceLT, Nat.reduceAdd, Nat.reduceEqDiff, Nat.reduceLeDiff, Nat.reduceSub, Nat.reduceMul, Int.reduceEq, eq_self, reduceIte, h2, hle, hrow, htk, Int.le_refl, Int.sub_zero, Int.toNat_zero, Int.natCast_nonneg, cE]
        refine ops_call (.pureE (many_meets (l.take k) hreg (by omega)) (by simp [go_sem, Nat.reduceLT, Nat.reduceAdd, Nat.reduceEqDiff, Nat.reduceLeDiff, Nat.reduceSub, Nat.reduceMul, Int.reduceEq, eq_self, reduceIte])) ?_
        have hw : ∀ r, IntKind.i64.wrap ((cntR (l.take k) r : Int) + 1) = (cntR (l.take k) r : Int) + 1 := fun r => by have := cntR_le (l.take k) r; rw [IntWalk.i64_in _ (by omega)]
        by_cases h3 : (cntR (l.take k) (nth l k).id.r : Int) + 1 = (nth l k).id.n
        · have h3e : logErr l k = if readyB (l.take k) (nth l k) = false then 5 else 0 := by simp [logErr, h1, h2, h3]
          rcases hr with hr | hr
          all_goals
            have h3' := h3
            rw [hr] at h3'
            have dc := decide_eq_true h3'
            simp only [go_sem, Nat.reduceLT, Nat.reduceAdd, Nat.reduceEqDiff, Nat.reduceLeDiff, Nat.reduceSub, Nat.reduceMul, Int.reduceEq, eq_self, reduceIte, hr, hw, dc, hle, hrow, htk, Int.sub_zero, Int.natCast_nonneg, cE, Int.reduceLE, Int.reduceLT, Int.reduceToNat, Int.cast_ofNat_Int, Int.ofNat_zero, Int.toNat_zero, Int.le_refl]
            refine ops_call (.pureE (ready_meets (l.take k) (nth l k) hreg (by omega) (by omega) (by have := (check_ok_bounds h1).2.2.2.1; omega)) (by simp [go_sem, Nat.reduceLT, Nat.reduceAdd, Nat.reduceEqDiff, Nat.reduceLeDiff, Nat.reduceSub, Nat.reduceMul, Int.reduceEq, eq_self, reduceIte, cE, hr])) ?_
            cases h4 : readyB (l.take k) (nth l k)
            · simp only [go_sem, Nat.reduceLT, Nat.reduceAdd, Nat.reduceEqDiff, Nat.reduceLeDiff, Nat.reduceSub, Nat.reduceMul, Int.reduceEq, eq_self, reduceIte]
              refine ret_pure hx ?_
              have : logErr l k = 5 := by rw [h3e, if_pos h4]
              simp [go_sem, Nat.reduceLT, Nat.reduceAdd, Nat.reduceEqDiff, Nat.reduceLeDiff, Nat.reduceSub, Nat.reduceMul, Int.reduceEq, eq_self, reduceIte, L21, R21, fin _ this (by decide)]
            · simp only [go_sem, Nat.reduceLT, Nat.reduceAdd, Nat.reduceEqDiff, Nat.reduceLeDiff, Nat.reduceSub, Nat.reduceMul, Int.reduceEq, eq_self, reduceIte, wk]
              refine ⟨by simp, n - 1, by omega, k + 1, by omega, firstNZ_succ hz (by rw [h3e, if_neg (by simp [h4])]), ?_⟩
              simp [trim_mk, go_sem, Nat.reduceLT, Nat.reduceAdd, Nat.reduceEqDiff, Nat.reduceLeDiff, Nat.reduceSub, Nat.reduceMul, Int.reduceEq, eq_self, reduceIte, subHeap, renObj, pos]
        · rcases hr with hr | hr
          all_goals
            have h3' := h3
            rw [hr] at h3'
            have dc := decide_eq_false h3'
            simp only [go_sem, Nat.reduceLT, Nat.reduceAdd, Nat.reduceEqDiff, Nat.reduceLeDiff, Nat.reduceSub, Nat.reduceMul, Int.reduceEq, eq_self, reduceIte, hr, hw, dc, Int.reduceLE, Int.reduceLT, Int.reduceToNat, Int.cast_ofNat_Int, Int.ofNat_zero, Int.toNat_zero, Int.le_refl]
            refine ret_pure hx ?_
            have : logErr l k = 4 := by simp [logErr, h1, h2, h3]
            simp [go_sem, Nat.reduceLT, Nat.reduceAdd, Nat.reduceEqDiff, Nat.reduceLeDiff, Nat.reduceSub, Nat.reduceMul, Int.reduceEq, eq_self, reduceIte, L21, R21, fin _ this (by decide)]
      · simp only [go_sem, Nat.reduceLT, Nat.reduceAdd, Nat.reduceEqDiff, Nat.reduceLeDiff, Nat.reduceSub, Nat.reduceMul, Int.reduceEq, eq_self, reduceIte, h1]
        refine ret_pure hx ?_
        have : logErr l k = checkEntry (nth l k) := by simp [logErr, h1]
        simp [go_sem, Nat.reduceLT, Nat.reduceAdd, Nat.reduceEqDiff, Nat.reduceLeDiff, Nat.reduceSub, Nat.reduceMul, Int.reduceEq, eq_self, reduceIte, L21, R21, fin _ this h1]
    · have hke : k = l.length := by omega
      subst hke
      simp only [go_sem, Nat.reduceLT, Nat.reduceAdd, Nat.reduceEqDiff, Nat.reduceLeDiff, Nat.reduceSub, Nat.reduceMul, Int.reduceEq, eq_self, reduceIte, Nat.lt_irrefl, hz]
      refine ret_pure hx ?_
      simp [go_sem, Nat.reduceLT, Nat.reduceAdd, Nat.reduceEqDiff, Nat.reduceLeDiff, Nat.reduceSub, Nat.reduceMul, Int.reduceEq, eq_self, reduceIte, L21, R21, hz]
end Go.Proofs.YtfdolehffjmdmaaGreatDoor
/- Library functions of this seat, told apart by number (what the guide's shelf says of them is used by name). -/
namespace Go.Proofs.YtfdolehffjmdmaaGreatDoor
open Go.Shelf Go.Proofs
def sortIdL_ren : Go.Shelf.Ren := ⟨fun | 6 => 127 | 15 => 133 | 14 => 156 | 28 => 166 | 29 => 167 | 20 => 178 | 21 => 179 | 22 => 180 | 23 => 181 | 24 => 182 | 25 => 183 | 26 => 184 | 27 => 185 | 46 => 199 | 47 => 187 | 48 => 188 | 49 => 200 | 50 => 201 | 57 => 206 | n => n, fun | 22 => 44 | 24 => 43 | 25 => 145 | 3 => 3 | 39 => 171 | 0 => 0 | 53 => 206 | 55 => 208 | 4 => 4 | 46 => 200 | 45 => 199 | 50 => 177 | 5 => 5 | 9 => 9 | 66 => 220 | 70 => 224 | 76 => 232 | 77 => 233 | n => n, fun n => n⟩
theorem sortIdL : SlLaysF0.n6 Tryz.prog sortIdL_ren := {
  mixed := by kernel_rfl,
  f6 := ⟨Tryz.f127.name, by decide, Tryz.func127.trans (congrArg some (by kernel_rfl))⟩,
  f14 := ⟨Tryz.f156.name, by decide, Tryz.func156.trans (congrArg some (by kernel_rfl))⟩,
  f15 := Tryz.func133.trans (congrArg some (by kernel_rfl)),
  f20 := ⟨Tryz.f178.name, by decide, Tryz.func178.trans (congrArg some (by kernel_rfl))⟩,
  f21 := ⟨Tryz.f179.name, by decide, Tryz.func179.trans (congrArg some (by kernel_rfl))⟩,
  f22 := ⟨Tryz.f180.name, by decide, Tryz.func180.trans (congrArg some (by kernel_rfl))⟩,
  f23 := ⟨Tryz.f181.name, by decide, Tryz.func181.trans (congrArg some (by kernel_rfl))⟩,
  f24 := ⟨Tryz.f182.name, by decide, Tryz.func182.trans (congrArg some (by kernel_rfl))⟩,
  f25 := ⟨Tryz.f183.name, by decide, Tryz.func183.trans (congrArg some (by kernel_rfl))⟩,
  f26 := ⟨Tryz.f184.name, by decide, Tryz.func184.trans (congrArg some (by kernel_rfl))⟩,
  f27 := ⟨Tryz.f185.name, by decide, Tryz.func185.trans (congrArg some (by kernel_rfl))⟩,
  f28 := Tryz.func166.trans (congrArg some (by kernel_rfl)),
  f29 := Tryz.func167.trans (congrArg some (by kernel_rfl)),
  f46 := ⟨Tryz.f199.name, by decide, Tryz.func199.trans (congrArg some (by kernel_rfl))⟩,
  f47 := Tryz.func187.trans (congrArg some (by kernel_rfl)),
  f48 := Tryz.func188.trans (congrArg some (by kernel_rfl)),
  f49 := ⟨Tryz.f200.name, by decide, Tryz.func200.trans (congrArg some (by kernel_rfl))⟩,
  f50 := ⟨Tryz.f201.name, by decide, Tryz.func201.trans (congrArg some (by kernel_rfl))⟩,
  f57 := ⟨Tryz.f206.name, by decide, Tryz.func206.trans (congrArg some (by kernel_rfl))⟩,
  t0 := Tryz.underlying0,
  a0 := Tryz.isAgg0,
  z0 := Tryz.sizeOf0,
  v0 := Tryz.zeroValue0,
  t3 := Tryz.underlying3,
  a3 := Tryz.isAgg3,
  z3 := Tryz.sizeOf3,
  v3 := Tryz.zeroValue3,
  t4 := Tryz.underlying4,
  a4 := Tryz.isAgg4,
  z4 := Tryz.sizeOf4,
  v4 := Tryz.zeroValue4,
  t5 := Tryz.underlying5,
  a5 := Tryz.isAgg5,
  z5 := Tryz.sizeOf5,
  v5 := Tryz.zeroValue5,
  t9 := Tryz.underlying9,
  a9 := Tryz.isAgg9,
  z9 := Tryz.sizeOf9,
  v9 := Tryz.zeroValue9,
  t22 := Tryz.underlying44,
  a22 := Tryz.isAgg44,
  z22 := Tryz.sizeOf44,
  v22 := Tryz.zeroValue44,
  t25 := Tryz.underlying145,
  a25 := Tryz.isAgg145,
  z25 := Tryz.sizeOf145,
  v25 := Tryz.zeroValue145,
  t39 := Tryz.underlying171,
  a39 := Tryz.isAgg171,
  z39 := Tryz.sizeOf171,
  v39 := Tryz.zeroValue171,
  t45 := Tryz.underlying199,
  a45 := Tryz.isAgg199,
  z45 := Tryz.sizeOf199,
  v45 := Tryz.zeroValue199,
  t46 := Tryz.underlying200,
  a46 := Tryz.isAgg200,
  z46 := Tryz.sizeOf200,
  v46 := Tryz.zeroValue200,
  t50 := Tryz.underlying177,
  a50 := Tryz.isAgg177,
  z50 := Tryz.sizeOf177,
  v50 := Tryz.zeroValue177,
  t53 := Tryz.underlying206,
  a53 := Tryz.isAgg206,
  z53 := Tryz.sizeOf206,
  v53 := Tryz.zeroValue206,
  t55 := Tryz.underlying208,
  a55 := Tryz.isAgg208,
  z55 := Tryz.sizeOf208,
  v55 := Tryz.zeroValue208,
  t66 := Tryz.underlying220,
  a66 := Tryz.isAgg220,
  z66 := Tryz.sizeOf220,
  v66 := Tryz.zeroValue220,
  t70 := Tryz.underlying224,
  a70 := Tryz.isAgg224,
  z70 := Tryz.sizeOf224,
  v70 := Tryz.zeroValue224,
  t76 := Tryz.underlying232,
  a76 := Tryz.isAgg232,
  z76 := Tryz.sizeOf232,
  v76 := Tryz.zeroValue232,
  t77 := Tryz.underlying233,
  a77 := Tryz.isAgg233,
  z77 := Tryz.sizeOf233,
  v77 := Tryz.zeroValue233 }
end Go.Proofs.YtfdolehffjmdmaaGreatDoor
/- slices.SortFunc at ids by entry.Order: an array of ids is put in order. -/
namespace Go.Proofs.YtfdolehffjmdmaaGreatDoor
open Go.RowKit
theorem cmpS_calls (a b : Int) (w : World) : Calls Tryz.prog 140 #[.int .i64 a, .int .i64 b] w fun e w' => e = .returned (.int .i64 (cmpI a b)) ∧ w = w' := by
  by_cases h1 : a < b
  · go_enter Tryz.func140, Tryz.ntmps140
    go_wp2
    go_ret
    exact ⟨by simp [cmpI, h1], rfl⟩
  · by_cases h2 : b < a
    · go_enter Tryz.func140, Tryz.ntmps140
      go_wp2
      go_ret
      exact ⟨by simp [cmpI, h1, h2], rfl⟩
    · go_enter Tryz.func140, Tryz.ntmps140
      go_wp2
      go_ret
      exact ⟨ret_int (by unfold cmpI; rw [if_neg (by omega), if_neg (by omega)]), rfl⟩
theorem orderS_calls (a b : Id) (w : World) : Calls Tryz.prog 104 #[.agg #[.int .i64 a.r, .int .i64 a.n], .agg #[.int .i64 b.r, .int .i64 b.n]] w fun e w' => e = .returned (.int .i64 (ordI a b)) ∧ ∃ q os', w' = Go.Sort.grow (w.drewN q) os' := by
  go_enter Tryz.func104, Tryz.ntmps104
  go_wp2_with (go_at_call 140; refine (cmpS_calls _ _ _).mono ?_; rintro e w' ⟨rfl, rfl⟩)
  · go_ret
    have h : (cmpI a.r b.r != 0) = true := by assumption
    exact ⟨ret_int (by rw [ordI, if_neg (by simpa using h)]), 0, _, by rw [Go.Sort.alloc_eq_grow, Go.Sort.alloc_eq_grow, Go.Sort.grow_grow]; rfl⟩
  · go_ret
    have h : (cmpI a.r b.r != 0) = false := by assumption
    exact ⟨ret_int (by rw [ordI, if_pos (by simpa using h)]), 0, _, by rw [Go.Sort.alloc_eq_grow, Go.Sort.alloc_eq_grow, Go.Sort.grow_grow]; rfl⟩
theorem cmpLaysI (blk off size : Nat) (w : World) : CmpLays Tryz.prog 104 #[] eId 2 ordI blk off size w := fun _ _ _ _ a b => orderS_calls a b _
theorem swoI : Go.Sort.SWO (ltOf ordI) where
  irrefl := fun x => by simp [ltOf, ordI_lt, lessB]
  trans := fun x y z h1 h2 => by
    simp only [ltOf, decide_eq_true_eq, ordI_lt, lessB] at h1 h2 ⊢
    omega
  ntrans := fun x y z h1 h2 => by
    simp only [ltOf, decide_eq_false_iff_not, ordI_lt, lessB, decide_eq_true_eq] at h1 h2 ⊢
    omega
theorem ordI_part (x y : Id) (h1 : ltOf ordI x y = false) (h2 : ltOf ordI y x = false) : x = y := by
  simp only [ltOf, decide_eq_false_iff_not, ordI_lt, lessB, decide_eq_true_eq] at h1 h2
  cases x; cases y
  simp at h1 h2 ⊢
  omega
def sortI (l : List Id) : List Id := l.mergeSort fun x y => !(ltOf ordI) y x
theorem sortIds_meets (l : List Id) (v T : Nat) (hl : l.length < 4611686018427387904) :
    Meets Tryz.prog 127 [.arr 0 v, .clo 104 []] [.arr v true false T 2 (l.map cId)] (.tup []) [.arr v true false T 2 ((sortI l).map cId)] := by
  intro x vs hx h0 hp
  obtain ⟨a, b, rfl, h1, h2⟩ := two_args hp.1
  have ha := hp.2 0 _ _ rfl h1
  have hb := hp.2 1 _ _ rfl h2
  obtain ⟨ws, rfl, hw, -⟩ := hb.clo_inv
  obtain rfl : ws = [] := List.length_eq_zero_iff.1 hw
  obtain ⟨e1, e2, e3⟩ := h0.row (id := 0) rfl ha
  rcases e3 with ⟨rfl, hnil⟩ | ⟨g, cap, cur, rfl, hc, hcap, hm, hz, hrow⟩
  · have : l = [] := by simpa using hnil
    subst this
    refine (AnyF.slices_SortFunc_none sortIdL none 0 (.func (.func 104) #[] #[]) x.w0).mono ?_
    rintro e w' ⟨rfl, rfl⟩
    exact ⟨_, x.C0, rfl, by simpa [sortI] using h0, .tup [] [] rfl (fun j p u h => by simp at h)⟩
  · have eg : ∀ args w, (callFunc 104 args).run Tryz.prog w = .ok (.enter 104 args) w := enters_of Tryz.func104 (by kernel_rfl) rfl
    have hH := flat_id.holds l hc hrow
    have hlt : g < x.w0.heap.size := (Array.getElem?_eq_some_iff.1 hc).1
    have key := AnyQ.slices_SortFunc_total sortIdL 2 (fun _ => by kernel_rfl) (fun _ => by kernel_rfl) eId flat_id.len flat_id.one ordI swoI 104 #[] g 0 cap l.toArray x.w0 eg (cmpLaysI g 0 _ x.w0) hH hlt (by simpa using hl) ordI_part
    rw [List.length_map] at *
    refine key.mono ?_
    rintro e w' ⟨rfl, n, os, rfl⟩
    obtain ⟨cur', c1, c2, c3, c4⟩ := row_world eId 2 x.w0 g n (l.toArray.toList.mergeSort fun x y => !(ltOf ordI) y x).toArray os hc
    have hsl : (sortI l).length = l.length := (List.mergeSort_perm l _).length_eq
    have hown : (x.C0.sv 0).ownBlock = some g := by rw [← e1]; rfl
    obtain ⟨C', k1, k2, k3⟩ := h0.rerow (id := 0) (v' := v) (g' := g) (cap' := cap) (rows' := (sortI l).map cId) (cur' := cur') rfl (by
      refine ⟨c4.size, c4.os, c4.tape, c4.output, fun b hb hne => c4.blk b hb fun e => hne (by rw [hown, e])⟩) (.inl hown) (.inl ⟨rfl, by rw [← e1, List.length_map, hsl]⟩) c1 (by rw [List.length_map, hsl]; exact hcap) hm (by rw [c2, hz])
      (fun row hr => by obtain ⟨y, -, rfl⟩ := List.mem_map.1 hr; rfl) (flat_id.rep c3 (l := sortI l) (sortI l).length (fun i hi => by
        rw [List.getElem?_eq_getElem hi]
        simp [sortI] at hi ⊢
        simp [hi]) rfl (by simp [sortI]))
    exact ⟨_, C', rfl, k1, .tup [] [] rfl (fun j p u h => by simp at h)⟩
end Go.Proofs.YtfdolehffjmdmaaGreatDoor
/- Plain laws of logs: ids in order, what a right log has, pasts. No program in sight. -/
namespace Go.Proofs.YtfdolehffjmdmaaGreatDoor
/-! ids in order -/
def Asc (l : List Id) : Prop := l.Pairwise fun a b => lessB a b = true
theorem lessB_trans {a b c : Id} (h1 : lessB a b = true) (h2 : lessB b c = true) : lessB a c = true := by
  simp only [lessB, decide_eq_true_eq] at *; omega
theorem lessB_irrefl (a : Id) : lessB a a = false := by simp [lessB]
theorem lessB_conn {a b : Id} (h1 : lessB a b = false) (h2 : lessB b a = false) : a = b := by
  cases a; cases b
  simp only [lessB, decide_eq_false_iff_not] at h1 h2
  simp
  omega
theorem asc_ext : ∀ {l m : List Id}, Asc l → Asc m → (∀ x, x ∈ l ↔ x ∈ m) → l = m
  | [], [], _, _, _ => rfl
  | [], y :: m, _, _, h => by have := (h y).2 (by simp); simp at this
  | x :: l, [], _, _, h => by have := (h x).1 (by simp); simp at this
  | x :: l, y :: m, h1, h2, h => by
    have h1' := List.pairwise_cons.1 h1
    have h2' := List.pairwise_cons.1 h2
    have hxy : x = y := by
      rcases List.mem_cons.1 ((h x).1 (by simp)) with e | e
      · exact e
      rcases List.mem_cons.1 ((h y).2 (by simp)) with e' | e'
      · exact e'.symm
      have := lessB_trans (h1'.1 y e') (h2'.1 x e)
      rw [lessB_irrefl] at this; cases this
    subst hxy
    rw [asc_ext h1'.2 h2'.2 fun z => ?_]
    constructor
    · intro hz
      rcases List.mem_cons.1 ((h z).1 (by simp [hz])) with e | e
      · subst e; have := h1'.1 z hz; rw [lessB_irrefl] at this; cases this
      · exact e
    · intro hz
      rcases List.mem_cons.1 ((h z).2 (by simp [hz])) with e | e
      · subst e; have := h2'.1 z hz; rw [lessB_irrefl] at this; cases this
      · exact e
theorem rise_len : ∀ (l : List Int) (a b : Int), l.Pairwise (· < ·) → (∀ x ∈ l, a ≤ x ∧ x < b) → a ≤ b → (l.length : Int) ≤ b - a
  | [], a, b, _, _, h => by simp; omega
  | x :: l, a, b, hp, hm, h => by
    have hp' := List.pairwise_cons.1 hp
    have hx := hm x (by simp)
    have := rise_len l (x + 1) b hp'.2 (fun y hy => ⟨hp'.1 y hy, (hm y (by simp [hy])).2⟩) (by omega)
    simp only [List.length_cons]; omega
theorem asc_len {l : List Id} (h : Asc l) (hk : ∀ x ∈ l, okId x = true) : l.length ≤ 40 := by
  have hb : ∀ x ∈ l, 0 ≤ x.r ∧ x.r ≤ 1 ∧ 1 ≤ x.n ∧ x.n ≤ 20 := fun x hx => by
    have := hk x hx
    simp only [okId, Bool.and_eq_true, wthn_iff] at this
    omega
  have := rise_len (l.map fun x => x.r * 20 + x.n) 1 41 (List.pairwise_map.2 (List.Pairwise.imp_of_mem (fun {a b} ha hb' hab => by
    have h1 := hb a ha
    have h2 := hb b hb'
    simp only [lessB, decide_eq_true_eq] at hab
    omega) h)) (fun y hy => by
      obtain ⟨x, hx, rfl⟩ := List.mem_map.1 hy
      have := hb x hx
      omega) (by omega)
  rw [List.length_map] at this
  omega
theorem sortI_mem {l : List Id} {x : Id} : x ∈ sortI l ↔ x ∈ l := (List.mergeSort_perm l _).mem_iff
theorem sortI_length (l : List Id) : (sortI l).length = l.length := (List.mergeSort_perm l _).length_eq
theorem sortI_sorted (l : List Id) : (sortI l).Pairwise fun a b => lessB b a = false := by
  have := List.pairwise_mergeSort (le := fun x y : Id => !(ltOf ordI) y x) (fun a b c h1 h2 => by
    simp only [ltOf, ordI_lt, Bool.not_eq_true', decide_eq_false_iff_not, Bool.not_eq_true] at *
    simp only [lessB, decide_eq_false_iff_not] at *; omega) (fun a b => by
    simp only [ltOf, ordI_lt, Bool.or_eq_true, Bool.not_eq_true', decide_eq_false_iff_not, lessB, decide_eq_true_eq]; omega) l
  exact this.imp fun {a b} h => by simpa [ltOf, ordI_lt] using h
theorem compI_mem {l : List Id} {x : Id} : x ∈ compI l ↔ x ∈ l := by
  unfold compI Lib.compact Lib.compactUpTo
  rw [List.mem_map]
  constructor
  · rintro ⟨j, hj, rfl⟩
    have : j < l.length := by simpa using (List.mem_filter.1 hj).1
    simp [this]
  · intro hx
    obtain ⟨j, hj, rfl⟩ := List.getElem_of_mem hx
    induction j using Nat.strongRecOn with
    | _ j ih =>
      by_cases hk : Lib.keeps l.toArray j = true
      · exact ⟨j, List.mem_filter.2 ⟨List.mem_range.2 hj, hk⟩, by simp [hj]⟩
      · simp only [Lib.keeps, decide_eq_true_eq, not_or, Decidable.not_not] at hk
        obtain ⟨h0, h1⟩ := hk
        have hj' : j - 1 < l.length := by omega
        obtain ⟨i, h2, h3⟩ := ih (j - 1) (by omega) hj' (List.getElem_mem hj')
        refine ⟨i, h2, ?_⟩
        rw [h3]
        have := h1
        simp only [hj, hj', List.getElem!_toArray, getElem!_pos] at this
        exact this.symm
theorem compI_asc {l : List Id} (h : l.Pairwise fun a b => lessB b a = false) : Asc (compI l) := by
  unfold compI Lib.compact Lib.compactUpTo Asc
  rw [List.pairwise_map]
  refine List.Pairwise.imp_of_mem (R := (· < ·)) (fun {i j} hi hj hij => ?_) (List.Pairwise.filter _ List.pairwise_lt_range)
  obtain ⟨h1, -⟩ := List.mem_filter.1 hi
  obtain ⟨h2, h3⟩ := List.mem_filter.1 hj
  have hjl : j < l.length := List.mem_range.1 h2
  simp only [Lib.keeps, decide_eq_true_eq] at h3
  have h3' := h3.resolve_left (by omega)
  have hj1 : j - 1 < l.length := by omega
  have hil : i < l.length := by omega
  simp only [List.getElem!_toArray, getElem!_pos, hjl, hj1] at h3'
  simp only [List.getElem!_toArray, getElem!_pos, hjl, hil]
  have a1 : lessB l[j] l[j - 1] = false := List.pairwise_iff_getElem.1 h (j - 1) j hj1 hjl (by omega)
  have a2 : lessB l[j - 1] l[j] = true := by
    cases e : lessB l[j - 1] l[j]
    · exact (h3' (lessB_conn a1 e)).elim
    · rfl
  by_cases e : i = j - 1
  · subst e; exact a2
  · have a3 : lessB l[j - 1] l[i] = false := List.pairwise_iff_getElem.1 h i (j - 1) hil hj1 (by omega)
    simp only [lessB, decide_eq_false_iff_not, decide_eq_true_eq] at *
    omega
def setI (l : List Id) : List Id := compI (sortI l)
theorem setI_mem {l : List Id} {x : Id} : x ∈ setI l ↔ x ∈ l := compI_mem.trans sortI_mem
theorem setI_asc (l : List Id) : Asc (setI l) := compI_asc (sortI_sorted l)
theorem sortI_asc {l : List Id} (h : l.Nodup) : Asc (sortI l) := by
  have h1 : (sortI l).Nodup := (List.mergeSort_perm l _).nodup_iff.2 h
  exact (List.Pairwise.and (sortI_sorted l) h1).imp fun {a b} ⟨h1, h2⟩ => by
    cases e : lessB a b
    · exact (h2 (lessB_conn e h1)).elim
    · rfl
/-! finding -/
theorem idxF_take {α : Type} (p : α → Bool) : ∀ (l : List α) (k i : Nat), 0 ≤ idxF p (l.take k) i → idxF p l i = idxF p (l.take k) i ∧ idxF p l i < i + k
  | [], k, i, h => by simp [idxF] at h
  | x :: l, 0, i, h => by simp [idxF] at h
  | x :: l, k + 1, i, h => by
    simp only [List.take_succ_cons, idxF] at h ⊢
    split
    · exact ⟨rfl, by omega⟩
    · rename_i hx
      rw [if_neg hx] at h
      have := idxF_take p l k (i + 1) h
      exact ⟨this.1, by omega⟩
theorem idxF_spec {α : Type} [Inhabited α] (p : α → Bool) : ∀ (l : List α) (i : Nat), 0 ≤ idxF p l i → ∃ k : Nat, idxF p l i = i + k ∧ k < l.length ∧ p (nth l k) = true
  | [], i, h => by simp [idxF] at h
  | x :: l, i, h => by
    simp only [idxF] at h ⊢
    split
    · rename_i hx
      exact ⟨0, by simp, by simp, by simpa [nth] using hx⟩
    · rename_i hx
      rw [if_neg hx] at h
      obtain ⟨k, h1, h2, h3⟩ := idxF_spec p l (i + 1) h
      exact ⟨k + 1, by omega, by simp; omega, by simpa [nth] using h3⟩
theorem findE_take {l : List Entry} {k : Nat} {x : Id} (h : 0 ≤ findE (l.take k) x) : findE l x = findE (l.take k) x ∧ findE l x < k := by
  have := idxF_take (fun e : Entry => decide (e.id = x)) l k 0 h
  exact ⟨this.1, by have := this.2; unfold findE; omega⟩
theorem findE_spec {l : List Entry} {x : Id} (h : 0 ≤ findE l x) : ∃ k : Nat, findE l x = k ∧ k < l.length ∧ (nth l k).id = x := by
  obtain ⟨k, h1, h2, h3⟩ := idxF_spec _ l 0 h
  exact ⟨k, by rw [findE, h1]; simp, h2, by simpa using h3⟩
theorem findE_neg {l : List Entry} {x : Id} : findE l x < 0 ↔ ∀ e ∈ l, e.id ≠ x := by
  rcases idxF_ge (fun e : Entry => decide (e.id = x)) l 0 with ⟨h1, h2⟩ | ⟨h1, h2⟩
  · rw [findE, h1]
    rw [List.any_eq_false] at h2
    exact ⟨fun _ e he => by simpa using h2 e he, fun _ => by omega⟩
  · rw [List.any_eq_true] at h2
    obtain ⟨e, he, hx⟩ := h2
    exact ⟨fun h => by rw [findE] at h; omega, fun h => (h e he (by simpa using hx)).elim⟩
/-! right logs -/
structure LogOk (l : List Entry) : Prop where
  len : l.length ≤ 40
  chk : ∀ k, k < l.length → checkEntry (nth l k) = 0
  new : ∀ k, k < l.length → findE (l.take k) (nth l k).id < 0
  num : ∀ k, k < l.length → (cntR (l.take k) (nth l k).id.r : Int) + 1 = (nth l k).id.n
  lnk : ∀ k, k < l.length → ∀ x ∈ (nth l k).ls, 0 ≤ findE (l.take k) x
theorem log_ok {l : List Entry} : checkLog l = 0 ↔ LogOk l := by
  have key : ∀ k, logErr l k = 0 ↔ checkEntry (nth l k) = 0 ∧ findE (l.take k) (nth l k).id < 0 ∧ (cntR (l.take k) (nth l k).id.r : Int) + 1 = (nth l k).id.n ∧ ∀ x ∈ (nth l k).ls, 0 ≤ findE (l.take k) x := by
    intro k
    unfold logErr
    split
    · rename_i h; exact ⟨fun e => (h e).elim, fun e => (h e.1).elim⟩
    · rename_i h0
      have h0' : checkEntry (nth l k) = 0 := by simpa using h0
      split
      · rename_i h; exact ⟨fun e => (by cases e), fun e => by omega⟩
      · rename_i h1
        split
        · rename_i h; exact ⟨fun e => (by cases e), fun e => (h e.2.2.1).elim⟩
        · rename_i h2
          have h2' : (cntR (l.take k) (nth l k).id.r : Int) + 1 = (nth l k).id.n := by simpa using h2
          have hr : readyB (l.take k) (nth l k) = true ↔ ∀ x ∈ (nth l k).ls, 0 ≤ findE (l.take k) x := by
            simp only [readyB, h2', decide_true, Bool.true_and, Bool.not_eq_true', List.any_eq_false, decide_eq_true_eq]
            exact ⟨fun h x hx => by have := h x hx; omega, fun h x hx => by have := h x hx; omega⟩
          rw [← hr]
          split
          · rename_i h; exact ⟨fun e => (by cases e), fun e => by rw [h] at e; simp at e⟩
          · rename_i h; exact ⟨fun _ => ⟨h0', by omega, h2', by simpa using h⟩, fun _ => rfl⟩
  unfold checkLog
  split
  · rename_i h; exact ⟨fun e => (by cases e), fun e => by have := e.len; omega⟩
  · rename_i h
    rw [firstNZ_zero]
    exact ⟨fun e => ⟨by omega, fun k hk => ((key k).1 (e k hk)).1, fun k hk => ((key k).1 (e k hk)).2.1, fun k hk => ((key k).1 (e k hk)).2.2.1, fun k hk => ((key k).1 (e k hk)).2.2.2⟩,
      fun e k hk => (key k).2 ⟨e.chk k hk, e.new k hk, e.num k hk, e.lnk k hk⟩⟩
theorem LogOk.id_ok {l : List Entry} (h : LogOk l) {k : Nat} (hk : k < l.length) : okId (nth l k).id = true := (check_ok_bounds (h.chk k hk)).1
theorem LogOk.links {l : List Entry} (h : LogOk l) {k : Nat} (hk : k < l.length) : (nth l k).ls.length ≤ 6 := (check_ok_bounds (h.chk k hk)).2.2.2.1
theorem LogOk.link_lt {l : List Entry} (h : LogOk l) {k : Nat} (hk : k < l.length) {x : Id} (hx : x ∈ (nth l k).ls) : 0 ≤ findE l x ∧ findE l x < k := by
  have h1 := h.lnk k hk x hx
  have h2 := findE_take h1
  exact ⟨by omega, h2.2⟩
theorem LogOk.inj {l : List Entry} (h : LogOk l) {i k : Nat} (hi : i < l.length) (hk : k < l.length) (e : (nth l i).id = (nth l k).id) : i = k := by
  have aux : ∀ i k, i < k → k < l.length → (nth l i).id = (nth l k).id → False := fun i k hik hk e => by
    have := findE_neg.1 (h.new k hk) (nth l i) (by rw [List.mem_take_iff_getElem]; exact ⟨i, by omega, by rw [nth_eq _ _ (by omega)]⟩)
    exact this e
  rcases Nat.lt_trichotomy i k with h1 | h1 | h1
  · exact (aux i k h1 hk e).elim
  · exact h1
  · exact (aux k i h1 hi e.symm).elim
theorem LogOk.find {l : List Entry} (h : LogOk l) {k : Nat} (hk : k < l.length) : findE l (nth l k).id = k := by
  have h0 : ¬ findE l (nth l k).id < 0 := fun hn => findE_neg.1 hn (nth l k) (by rw [nth_eq _ _ hk]; exact List.getElem_mem hk) rfl
  obtain ⟨j, h1, h2, h3⟩ := findE_spec (by omega : 0 ≤ findE l (nth l k).id)
  rw [h1, h.inj h2 hk h3]
theorem LogOk.reg {l : List Entry} (h : LogOk l) : okReg l := by
  intro e he
  obtain ⟨k, hk, rfl⟩ := List.getElem_of_mem he
  rw [← nth_eq l k hk]
  exact reg_of_check (h.chk k hk)
/-! pasts -/
def pastAt (ps : List (List Id)) (l : List Entry) (x : Id) : List Id := nth ps (findE l x).toNat
def allOf (ps : List (List Id)) (l : List Entry) (ls : List Id) : List Id := ls.flatMap fun x => x :: pastAt ps l x
def pastsTo (l : List Entry) : Nat → List (List Id)
  | 0 => []
  | k + 1 => pastsTo l k ++ [setI (allOf (pastsTo l k) l (nth l k).ls)]
def pasts (l : List Entry) : List (List Id) := pastsTo l l.length
def pastOf (l : List Entry) (k : Nat) : List Id := nth (pasts l) k
@[simp] theorem pastsTo_length (l : List Entry) : ∀ k, (pastsTo l k).length = k
  | 0 => rfl
  | k + 1 => by simp [pastsTo, pastsTo_length l k]
theorem pastsTo_nth (l : List Entry) {i k : Nat} (h : i < k) : nth (pastsTo l k) i = nth (pastsTo l (i + 1)) i := by
  induction k with
  | zero => omega
  | succ k ih =>
    by_cases e : i = k
    · rw [e]
    · rw [← ih (by omega), nth_eq _ _ (by simp; omega), nth_eq _ _ (by simp; omega)]
      simp only [pastsTo]
      rw [List.getElem_append_left]
theorem nth_last (l : List Entry) (k : Nat) : nth (pastsTo l (k + 1)) k = setI (allOf (pastsTo l k) l (nth l k).ls) := by
  rw [nth_eq _ _ (by simp)]
  simp only [pastsTo]
  rw [List.getElem_append_right (by simp)]
  simp
theorem allOf_to {l : List Entry} (h : LogOk l) {k m : Nat} (hk : k < l.length) (hm : k ≤ m) : allOf (pastsTo l m) l (nth l k).ls = allOf (pastsTo l k) l (nth l k).ls := by
  unfold allOf
  have : ∀ x ∈ (nth l k).ls, pastAt (pastsTo l m) l x = pastAt (pastsTo l k) l x := fun x hx => by
    have := h.link_lt hk hx
    unfold pastAt
    rw [pastsTo_nth l (by omega : (findE l x).toNat < m), pastsTo_nth l (by omega : (findE l x).toNat < k)]
  rw [List.flatMap_def, List.flatMap_def]
  congr 1
  exact List.map_congr_left fun x hx => by rw [this x hx]
theorem pastOf_eq {l : List Entry} (h : LogOk l) {k : Nat} (hk : k < l.length) : pastOf l k = setI (allOf (pasts l) l (nth l k).ls) := by
  unfold pastOf pasts
  rw [pastsTo_nth l hk, nth_last, allOf_to h hk (Nat.le_of_lt hk)]
theorem pastOf_asc {l : List Entry} (h : LogOk l) {k : Nat} (hk : k < l.length) : Asc (pastOf l k) := by
  rw [pastOf_eq h hk]; exact setI_asc _
theorem mem_pastOf {l : List Entry} (h : LogOk l) {k : Nat} (hk : k < l.length) {y : Id} : y ∈ pastOf l k ↔ ∃ x ∈ (nth l k).ls, y = x ∨ y ∈ pastOf l (findE l x).toNat := by
  rw [pastOf_eq h hk, setI_mem, allOf, List.mem_flatMap]
  simp only [List.mem_cons]
  rfl
theorem pastOf_lt {l : List Entry} (h : LogOk l) : ∀ (k : Nat), k < l.length → ∀ y ∈ pastOf l k, ∃ j, j < k ∧ (nth l j).id = y := by
  intro k
  induction k using Nat.strongRecOn with
  | _ k ih =>
    intro hk y hy
    obtain ⟨x, hx, he⟩ := (mem_pastOf h hk).1 hy
    obtain ⟨h1, h2⟩ := h.link_lt hk hx
    obtain ⟨j, h3, h4, h5⟩ := findE_spec h1
    rcases he with rfl | he
    · exact ⟨j, by omega, h5⟩
    · obtain ⟨i, h6, h7⟩ := ih (findE l x).toNat (by omega) (by omega) y he
      exact ⟨i, by omega, h7⟩
theorem pastOf_ok {l : List Entry} (h : LogOk l) {k : Nat} (hk : k < l.length) : ∀ y ∈ pastOf l k, okId y = true := by
  intro y hy
  obtain ⟨j, h1, rfl⟩ := pastOf_lt h k hk y hy
  exact h.id_ok (by omega)
theorem pastOf_len {l : List Entry} (h : LogOk l) {k : Nat} (hk : k < l.length) : (pastOf l k).length ≤ 40 := asc_len (pastOf_asc h hk) (pastOf_ok h hk)
end Go.Proofs.YtfdolehffjmdmaaGreatDoor
/- A struct that nobody writes any more: its pointer shows its cells, and its object is let go. -/
namespace Go.Proofs.YtfdolehffjmdmaaGreatDoor
open Go.RowKit
theorem weak_rptr {x : Cx} {nt : Nat} {st : St} (t id : Nat) {cells : List PV} {H' : List AObj} {cells' : List PV} (h : st.env t = .ptr id 0) (hid : st.heap[id]? = some (.box cells)) (hc : cells.map (frz st.heap) = cells') (hp : cells'.all PV.isPure = true) (hH : st.heap.set id .gone = H') :
    Weak x nt st (st.put (some t) (.rptr cells') H') := by
  subst hc; subst hH
  intro a w ⟨⟨C, hr, he⟩, hdf, hs⟩
  have hlt : id < st.heap.length := (List.getElem?_eq_some_iff.1 hid).1
  obtain ⟨cs, T, g1, g2, g3⟩ := hr.obj id _ hid
  have hb : C.blk id < w.heap.size := (Array.getElem?_eq_some_iff.1 g1).1
  have hmp : ∀ p v, RepP (Stab x C st.heap w) w p v → RepP (Stab x C (st.heap.set id .gone) w) w p v := by
    intro p v h
    refine h.mono (fun b o h => ⟨h.1, h.2.1, fun i ob1 hi => ?_⟩) fun b o h => rfl
    by_cases e : i = id
    · subst e; rw [List.getElem?_set_self hlt] at hi; cases hi; trivial
    · rw [List.getElem?_set_ne (Ne.symm e)] at hi; exact h.2.2 i ob1 hi
  obtain ⟨k1, k2⟩ := hr.change (C' := C) hid (ob' := .gone) (step_refl w) rfl (fun _ => rfl) (fun _ _ => ⟨rfl, rfl⟩) (.inl ⟨rfl, rfl⟩)
    (fun b o hb hf => trivial) (fun b o hb hf => rfl) (fun b hb => hb.elim) (fun _ _ => trivial)
  have hfz := frz_cells (vs := cells) (us := cs.toList) hr (fun j q u hq hu => g3 j q u hq (by rw [← Array.getElem?_toList]; exact hu)) hp
  refine ⟨⟨C, k1, fun u => ?_⟩, hdf, hs⟩
  simp only [St.put, Option.some.injEq]
  by_cases e : t = u
  · subst e
    rw [if_pos rfl]
    have := he t
    rw [h] at this
    rw [this.ptr_inv.1]
    refine .rptr _ (C.blk id) 0 (fun j => cs[j]!) (fun j p hj => ?_) fun j p hj => ?_
    all_goals
      have hjl : j < cs.size := by
        have := (List.getElem?_eq_some_iff.1 hj).1
        rw [List.length_map] at this; omega
    · refine ⟨⟨?_, hb, fun i ob1 hi => ?_⟩, ?_⟩
      · rcases hr.mine id _ _ hid rfl with h | h
        · exact .inr (.inl h)
        · exact .inr (.inr h)
      · by_cases e : i = id
        · subst e; rw [List.getElem?_set_self hlt] at hi; cases hi; trivial
        · rw [List.getElem?_set_ne (Ne.symm e)] at hi
          exact AObj.free_of_not (fun hb => e (hr.apart i id ob1 _ _ hi hid hb rfl)) _
      · simp [World.cell?, g1, hjl]
    · exact hmp _ _ (hfz j p _ hj (by simp [hjl])).2
  · rw [if_neg e]; exact k2 _ _ (he u)
end Go.Proofs.YtfdolehffjmdmaaGreatDoor
