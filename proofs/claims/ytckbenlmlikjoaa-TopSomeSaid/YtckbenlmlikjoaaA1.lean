/- The told code of the functions (printed by an own tool). -/
import Derived.Test.YtckbenlmlikjoaaT0
import Derived.Test.YtckbenlmlikjoaaProg
import Derived.KernelRfl
set_option maxRecDepth 100000
namespace Go.VL.A
open Go.Proofs.Try
/-! ### metaprune/metaprunetop.TopSome -/
noncomputable def X3 : Cx := { P := prog, N := 92, own := fun d => List.contains [] d, loud := fun d => List.contains [] d, kl := fun i => List.getD [([6], []), ([17, 18], []), ([0, 1, 2, 19], []), ([1, 2, 19, 20, 21, 22, 23, 24, 25, 26], []), ([0, 9, 27, 28, 29, 30, 31], []), ([32, 33, 34, 35, 36, 37], []), ([38, 39, 40, 41, 42], []), ([43, 44, 45, 46, 47, 48, 49, 50, 51], []), ([11, 14, 15, 52, 53, 54, 55, 56, 57, 58, 59, 60], []), ([7, 8, 10, 12, 13, 61], [7, 8, 12]), ([61, 62], []), ([7, 8, 10, 12, 13, 63, 64, 65], [7, 8, 12]), ([7, 63, 66, 67, 68, 69, 70, 71], [7]), ([8, 10, 11, 12, 13, 16, 72, 73, 74, 75, 76, 77, 78, 79, 80, 81, 82, 83, 84, 85, 86, 87, 88, 89, 90, 91], [8, 12])] i ([], []) }
noncomputable def vc3_0 : VC := (.seq (.dops (.take ⟨some 72, none, .mv (.s 13)⟩ (.take ⟨some 73, none, .bin .eql (.s 72) (.c (.int .i64 0))⟩ (.take ⟨some 74, none, .mv (.s 73)⟩ (.take ⟨some 75, some (74, true), .mv (.s 11)⟩ (.take ⟨some 76, some (74, true), .bin .eql (.s 75) (.c (.int .i64 0))⟩ (.take ⟨some 77, none, .pick (.s 74) (.s 76) (.c (.bool false))⟩ (.take ⟨some 78, none, .mv (.s 77)⟩ (.take ⟨some 79, some (78, true), .mv (.s 16)⟩ (.take ⟨some 80, none, .pick (.s 78) (.s 79) (.c (.bool false))⟩ (.take ⟨some 81, none, .mv (.s 80)⟩ (.take ⟨some 82, some (81, true), .mv (.s 10)⟩ (.take ⟨some 83, some (81, true), .un .not (.s 82)⟩ (.take ⟨some 84, some (81, true), .mv (.s 83)⟩ (.take ⟨some 85, some (84, false), .load true 2 (.s 12)⟩ (.take ⟨some 86, some (84, false), .call 12 [(.s 85), (.c (.int .i64 2000))]⟩ (.take ⟨some 87, some (84, false), .load true 2 (.s 8)⟩ (.take ⟨some 88, some (84, false), .call 12 [(.s 87), (.c (.int .i64 2000))]⟩ (.take ⟨some 89, some (84, false), .bin .leq (.s 86) (.s 88)⟩ (.take ⟨some 90, some (81, true), .pick (.s 84) (.c (.bool true)) (.s 89)⟩ (.take ⟨some 91, none, .pick (.s 81) (.s 90) (.c (.bool false))⟩ (.take ⟨some 6, none, .mv (.s 91)⟩ .done))))))))))))))))))))) [8, 10, 11, 12, 13, 16, 72, 73, 74, 75, 76, 77, 78, 79, 80, 81, 82, 83, 84, 85, 86, 87, 88, 89, 90, 91] [8, 12]) .ret)
noncomputable def vc3_1 : VC := (.seq (.ops [⟨some 67, none, .load true 3 (.s 7)⟩, ⟨some 68, none, .load true 2 (.s 12)⟩, ⟨some 69, none, .call 9 [(.s 67), (.s 68)]⟩, ⟨some 66, none, .mv (.s 69)⟩, ⟨some 70, none, .extract (.s 66) 0⟩, ⟨some 71, none, .extract (.s 66) 1⟩, ⟨some 16, none, .mv (.s 70)⟩, ⟨some 11, none, .mv (.s 71)⟩] [7, 63, 66, 67, 68, 69, 70, 71] [7]) vc3_0)
noncomputable def vc3_2 : VC := (.seq (.ops [⟨some 64, none, .mv (.s 10)⟩, ⟨some 65, none, .un .not (.s 64)⟩, ⟨some 6, none, .mv (.s 65)⟩] [7, 8, 10, 12, 13, 63, 64, 65] [7, 8, 12]) .ret)
noncomputable def vc3_3 : VC := (.cond (.s 63) vc3_2 .skip)
noncomputable def vc3_4 : VC := (.seq (.seq (.ops [⟨some 62, none, .mv (.s 13)⟩, ⟨some 63, none, .bin .eql (.s 62) (.c (.int .i64 7))⟩] [61, 62] []) vc3_3) vc3_1)
noncomputable def vc3_5 : VC := (.seq (.ops [⟨some 6, none, .mv (.c (.bool false))⟩] [7, 8, 10, 12, 13, 61] [7, 8, 12]) .ret)
noncomputable def vc3_6 : VC := (.cond (.s 61) vc3_5 .skip)
noncomputable def vc3_7 : VC := (.seq (.seq (.ops [⟨some 52, none, .mv (.s 11)⟩, ⟨some 53, none, .bin .neq (.s 52) (.c (.int .i64 0))⟩, ⟨some 54, none, .mv (.s 53)⟩, ⟨some 55, some (54, false), .mv (.s 15)⟩, ⟨some 56, some (54, false), .bin .neq (.s 55) (.c (.int .i64 0))⟩, ⟨some 57, none, .pick (.s 54) (.c (.bool true)) (.s 56)⟩, ⟨some 58, none, .mv (.s 57)⟩, ⟨some 59, some (58, false), .mv (.s 14)⟩, ⟨some 60, some (58, false), .un .not (.s 59)⟩, ⟨some 61, none, .pick (.s 58) (.c (.bool true)) (.s 60)⟩] [11, 14, 15, 52, 53, 54, 55, 56, 57, 58, 59, 60] []) vc3_6) vc3_4)
noncomputable def vc3_8 : VC := (.seq (.ops [⟨some 44, none, .build [(.str ⟨#[]⟩), .nilS, (.int .i64 0)] [(0, (1, (.c (.str ⟨#[97]⟩))))]⟩, ⟨some 45, none, .bslice false 39 3 [(.s 44)]⟩, ⟨some 46, none, .bslice false 3 1 [(.c (.int .i64 0))]⟩, ⟨some 47, none, .build [(.int .i64 0), .nilS, .nilS] [(0, (1, (.c (.int .i64 1)))), (1, (1, (.s 45))), (2, (1, (.s 46)))]⟩, ⟨some 48, none, .call 11 [(.c (.str ⟨#[97]⟩))]⟩, ⟨some 49, none, .call 9 [(.s 47), (.s 48)]⟩, ⟨some 43, none, .mv (.s 49)⟩, ⟨some 50, none, .extract (.s 43) 0⟩, ⟨some 51, none, .extract (.s 43) 1⟩, ⟨some 14, none, .mv (.s 50)⟩, ⟨some 15, none, .mv (.s 51)⟩] [43, 44, 45, 46, 47, 48, 49, 50, 51] []) vc3_7)
noncomputable def vc3_9 : VC := (.seq (.ops [⟨some 39, none, .load true 3 (.s 7)⟩, ⟨some 40, none, .call 10 [(.s 39)]⟩, ⟨some 38, none, .mv (.s 40)⟩, ⟨some 41, none, .extract (.s 38) 0⟩, ⟨some 42, none, .extract (.s 38) 1⟩, ⟨some 12, none, .alloc 30 [(.str ⟨#[]⟩), .nilS]⟩, ⟨none, none, .store 2 (.s 12) (.s 41)⟩, ⟨some 13, none, .mv (.s 42)⟩] [38, 39, 40, 41, 42] []) vc3_8)
noncomputable def vc3_10 : VC := (.seq (.ops [⟨some 33, none, .load true 3 (.s 7)⟩, ⟨some 34, none, .load true 2 (.s 8)⟩, ⟨some 35, none, .call 9 [(.s 33), (.s 34)]⟩, ⟨some 32, none, .mv (.s 35)⟩, ⟨some 36, none, .extract (.s 32) 0⟩, ⟨some 37, none, .extract (.s 32) 1⟩, ⟨some 10, none, .mv (.s 36)⟩, ⟨some 11, none, .mv (.s 37)⟩] [32, 33, 34, 35, 36, 37] []) vc3_9)
noncomputable def vc3_11 : VC := (.seq (.ops [⟨some 28, none, .mv (.s 0)⟩, ⟨some 29, none, .call 8 [(.s 28), (.c (.int .i64 80)), (.c (.int .i64 14))]⟩, ⟨some 27, none, .mv (.s 29)⟩, ⟨some 30, none, .extract (.s 27) 0⟩, ⟨some 31, none, .extract (.s 27) 1⟩, ⟨some 8, none, .alloc 30 [(.str ⟨#[]⟩), .nilS]⟩, ⟨none, none, .store 2 (.s 8) (.s 30)⟩, ⟨some 9, none, .mv (.s 31)⟩] [0, 9, 27, 28, 29, 30, 31] []) vc3_10)
noncomputable def vc3_12 : VC := (.seq (.ops [⟨some 20, none, .mv (.s 0)⟩, ⟨some 21, none, .mv (.s 1)⟩, ⟨some 22, none, .call 7 [(.s 21), (.c (.int .i64 4))]⟩, ⟨some 23, none, .bin .add (.c (.int .i64 1)) (.s 22)⟩, ⟨some 24, none, .mv (.s 2)⟩, ⟨some 25, none, .call 7 [(.s 24), (.c (.int .i64 12))]⟩, ⟨some 26, none, .call 6 [(.s 20), (.c (.int .i64 0)), (.s 23), (.s 25)]⟩, ⟨some 7, none, .alloc 25 [(.int .i64 0), .nilS, .nilS]⟩, ⟨none, none, .store 3 (.s 7) (.s 26)⟩] [1, 2, 19, 20, 21, 22, 23, 24, 25, 26] []) vc3_11)
noncomputable def vc3_13 : VC := (.seq (.ops [⟨some 6, none, .mv (.c (.bool true))⟩] [0, 1, 2, 19] []) .ret)
noncomputable def vc3_14 : VC := (.cond (.s 19) vc3_13 .skip)
noncomputable def vc3_15 : VC := (.seq (.seq (.ops [⟨some 17, none, .mv (.s 0)⟩, ⟨some 18, none, .len (.s 17)⟩, ⟨some 19, none, .bin .gtr (.s 18) (.c (.int .i64 256))⟩] [17, 18] []) vc3_14) vc3_12)
noncomputable def vc3 : VC := (.seq (.ops [⟨some 6, none, .mv (.c (.bool false))⟩] [6] []) vc3_15)
theorem cc3 : f3.body.bind (cCode X3) = some vc3 := by kernel_rfl
theorem cr3 : f3.results.toList.mapM (cRes prog) = some [(.mv (.s 6))] := by kernel_rfl
/-! ### metaprune/metapruneref.AutoFrom -/
noncomputable def X6 : Cx := { P := prog, N := 96, own := fun d => List.contains [] d, loud := fun d => List.contains [] d, kl := fun i => List.getD [([], []), ([16, 17], []), ([], []), ([18, 19], []), ([21, 22], []), ([20, 23, 24, 25, 26, 27, 28], []), ([29, 30, 31, 32, 33], []), ([11, 34, 35, 36, 37, 38, 39, 40, 41, 42, 43, 44, 45, 46, 47, 48], []), ([], []), ([49, 50], []), ([52, 53], []), ([51, 54, 55, 56, 57, 58, 59, 60, 61, 62, 63, 64, 65, 66, 67, 68, 69], []), ([12, 13, 14, 51, 70, 71, 72, 73, 74, 75], [13]), ([3, 10, 20], []), ([76, 77], []), ([79, 80, 88], []), ([78, 81, 82, 83, 84, 85, 86, 87], []), ([88, 89, 90, 91, 92, 93, 94], []), ([0, 1, 2, 9, 15, 78, 95], [9])] i ([], []) }
noncomputable def vc6_0 : VC := (.seq (.ops [⟨some 95, none, .load true 3 (.s 9)⟩, ⟨none, none, .store 3 (.s 8) (.s 95)⟩] [0, 1, 2, 9, 15, 78, 95] [9]) .ret)
noncomputable def vc6_1 : VC := (.ops [⟨some 79, none, .mv (.s 15)⟩, ⟨some 80, none, .bin .add (.s 79) (.c (.int .i64 1))⟩, ⟨some 15, none, .mv (.s 80)⟩] [79, 80, 88] [])
noncomputable def vc6_2 : VC := (.ops [⟨some 89, none, .faddr 2 (.s 9)⟩, ⟨some 90, none, .load false 1 (.s 89)⟩, ⟨some 91, none, .mv (.s 15)⟩, ⟨some 92, none, .bslice false 3 1 [(.s 91)]⟩, ⟨some 93, none, .append 3 1 8 (.s 90) (.s 92)⟩, ⟨some 94, none, .faddr 2 (.s 9)⟩, ⟨none, none, .store 1 (.s 94) (.s 93)⟩] [88, 89, 90, 91, 92, 93, 94] [])
noncomputable def vc6_3 : VC := (.cond (.s 88) vc6_2 .skip)
noncomputable def vc6_4 : VC := (.seq (.ops [⟨some 81, none, .mv (.s 0)⟩, ⟨some 82, none, .mv (.s 1)⟩, ⟨some 83, none, .mv (.s 15)⟩, ⟨some 84, none, .bin .add (.s 82) (.s 83)⟩, ⟨some 85, none, .bin .add (.s 84) (.c (.int .i64 3))⟩, ⟨some 86, none, .call 18 [(.s 81), (.s 85)]⟩, ⟨some 87, none, .call 7 [(.s 86), (.c (.int .i64 3))]⟩, ⟨some 88, none, .bin .eql (.s 87) (.c (.int .i64 0))⟩] [78, 81, 82, 83, 84, 85, 86, 87] []) vc6_3)
noncomputable def vc6_5 : VC := (.seq (.block 5 vc6_4) vc6_1)
noncomputable def vc6_6 : VC := (.cond (.s 78) .skip (.exit 4))
noncomputable def vc6_l0 : VC := (.seq (.seq (.ops [⟨some 76, none, .mv (.s 15)⟩, ⟨some 77, none, .mv (.s 2)⟩, ⟨some 78, none, .bin .lss (.s 76) (.s 77)⟩] [76, 77] []) vc6_6) vc6_5)
noncomputable def vc6_7 : VC := (.block 4 (.loop vc6_l0))
noncomputable def vc6_8 : VC := (.seq (.seq (.ops [⟨some 15, none, .mv (.c (.int .i64 0))⟩] [3, 10, 20] []) vc6_7) vc6_0)
noncomputable def vc6_9 : VC := (.ops [⟨some 21, none, .mv (.s 10)⟩, ⟨some 22, none, .bin .add (.s 21) (.c (.int .i64 1))⟩, ⟨some 10, none, .mv (.s 22)⟩] [21, 22] [])
noncomputable def vc6_10 : VC := (.ops [⟨some 70, none, .faddr 1 (.s 9)⟩, ⟨some 71, none, .load false 1 (.s 70)⟩, ⟨some 72, none, .load true 3 (.s 13)⟩, ⟨some 73, none, .bslice false 39 3 [(.s 72)]⟩, ⟨some 74, none, .append 39 3 48 (.s 71) (.s 73)⟩, ⟨some 75, none, .faddr 1 (.s 9)⟩, ⟨none, none, .store 1 (.s 75) (.s 74)⟩] [12, 13, 14, 51, 70, 71, 72, 73, 74, 75] [13])
noncomputable def vc6_11 : VC := (.ops [⟨some 52, none, .mv (.s 14)⟩, ⟨some 53, none, .bin .add (.s 52) (.c (.int .i64 1))⟩, ⟨some 14, none, .mv (.s 53)⟩] [52, 53] [])
noncomputable def vc6_12 : VC := (.dops (.take ⟨some 54, none, .faddr 1 (.s 13)⟩ (.take ⟨some 55, none, .load false 1 (.s 54)⟩ (.take ⟨some 56, none, .mv (.s 0)⟩ (.take ⟨some 57, none, .mv (.s 1)⟩ (.take ⟨some 58, none, .mv (.s 10)⟩ (.take ⟨some 59, none, .bin .mul (.c (.int .i64 4)) (.s 58)⟩ (.take ⟨some 60, none, .bin .add (.s 57) (.s 59)⟩ (.take ⟨some 61, none, .bin .add (.s 60) (.c (.int .i64 2))⟩ (.take ⟨some 62, none, .mv (.s 14)⟩ (.take ⟨some 63, none, .bin .add (.s 61) (.s 62)⟩ (.take ⟨some 64, none, .call 18 [(.s 56), (.s 63)]⟩ (.take ⟨some 65, none, .mv (.s 2)⟩ (.take ⟨some 66, none, .call 7 [(.s 64), (.s 65)]⟩ (.take ⟨some 67, none, .bslice false 3 1 [(.s 66)]⟩ (.alt false ⟨some 68, none, .append 3 1 8 (.s 55) (.s 67)⟩ (.take ⟨some 69, none, .faddr 1 (.s 13)⟩ (.alt false ⟨none, none, .store 1 (.s 69) (.s 68)⟩ .done .stop)) .stop))))))))))))))) [51, 54, 55, 56, 57, 58, 59, 60, 61, 62, 63, 64, 65, 66, 67, 68, 69] [])
noncomputable def vc6_13 : VC := (.seq (.block 3 vc6_12) vc6_11)
noncomputable def vc6_14 : VC := (.cond (.s 51) .skip (.exit 2))
noncomputable def vc6_l2 : VC := (.seq (.seq (.ops [⟨some 49, none, .mv (.s 14)⟩, ⟨some 50, none, .mv (.s 12)⟩, ⟨some 51, none, .bin .lss (.s 49) (.s 50)⟩] [49, 50] []) vc6_14) vc6_13)
noncomputable def vc6_15 : VC := (.block 2 (.loop vc6_l2))
noncomputable def vc6_16 : VC := (.seq (.seq (.ops [⟨some 14, none, .mv (.c (.int .i64 0))⟩] [] []) vc6_15) vc6_10)
noncomputable def vc6_17 : VC := (.seq (.dops (.take ⟨some 34, none, .bslice false 9 1 [(.c (.str ⟨#[97]⟩)), (.c (.str ⟨#[98]⟩)), (.c (.str ⟨#[104]⟩)), (.c (.str ⟨#[102]⟩))]⟩ (.take ⟨some 35, none, .mv (.s 11)⟩ (.take ⟨some 36, none, .call 7 [(.s 35), (.c (.int .i64 4))]⟩ (.take ⟨some 37, none, .iaddr 1 (.s 34) (.s 36)⟩ (.take ⟨some 38, none, .load false 1 (.s 37)⟩ (.take ⟨some 39, none, .mv (.s 0)⟩ (.take ⟨some 40, none, .mv (.s 1)⟩ (.take ⟨some 41, none, .mv (.s 10)⟩ (.take ⟨some 42, none, .bin .mul (.c (.int .i64 4)) (.s 41)⟩ (.take ⟨some 43, none, .bin .add (.s 40) (.s 42)⟩ (.take ⟨some 44, none, .bin .add (.s 43) (.c (.int .i64 1))⟩ (.take ⟨some 45, none, .call 18 [(.s 39), (.s 44)]⟩ (.take ⟨some 46, none, .mv (.s 2)⟩ (.take ⟨some 47, none, .call 7 [(.s 45), (.s 46)]⟩ (.take ⟨some 48, none, .build [(.str ⟨#[]⟩), .nilS, (.int .i64 0)] [(0, (1, (.s 38))), (2, (1, (.s 47)))]⟩ (.alt false ⟨some 13, none, .alloc 39 [(.str ⟨#[]⟩), .nilS, (.int .i64 0)]⟩ (.alt false ⟨none, none, .store 3 (.s 13) (.s 48)⟩ .done .stop) .stop)))))))))))))))) [11, 34, 35, 36, 37, 38, 39, 40, 41, 42, 43, 44, 45, 46, 47, 48] []) vc6_16)
noncomputable def vc6_18 : VC := (.seq (.ops [⟨some 29, none, .bslice false 3 1 [(.c (.int .i64 0)), (.c (.int .i64 0)), (.c (.int .i64 1)), (.c (.int .i64 2))]⟩, ⟨some 30, none, .mv (.s 11)⟩, ⟨some 31, none, .call 7 [(.s 30), (.c (.int .i64 4))]⟩, ⟨some 32, none, .iaddr 1 (.s 29) (.s 31)⟩, ⟨some 33, none, .load false 1 (.s 32)⟩, ⟨some 12, none, .mv (.s 33)⟩] [29, 30, 31, 32, 33] []) vc6_17)
noncomputable def vc6_19 : VC := (.seq (.ops [⟨some 23, none, .mv (.s 0)⟩, ⟨some 24, none, .mv (.s 1)⟩, ⟨some 25, none, .mv (.s 10)⟩, ⟨some 26, none, .bin .mul (.c (.int .i64 4)) (.s 25)⟩, ⟨some 27, none, .bin .add (.s 24) (.s 26)⟩, ⟨some 28, none, .call 18 [(.s 23), (.s 27)]⟩, ⟨some 11, none, .mv (.s 28)⟩] [20, 23, 24, 25, 26, 27, 28] []) vc6_18)
noncomputable def vc6_20 : VC := (.seq (.block 1 vc6_19) vc6_9)
noncomputable def vc6_21 : VC := (.cond (.s 20) .skip (.exit 0))
noncomputable def vc6_l1 : VC := (.seq (.seq (.ops [⟨some 18, none, .mv (.s 10)⟩, ⟨some 19, none, .mv (.s 3)⟩, ⟨some 20, none, .bin .lss (.s 18) (.s 19)⟩] [18, 19] []) vc6_21) vc6_20)
noncomputable def vc6_22 : VC := (.block 0 (.loop vc6_l1))
noncomputable def vc6_23 : VC := (.seq (.seq (.ops [⟨some 10, none, .mv (.c (.int .i64 0))⟩] [] []) vc6_22) vc6_8)
noncomputable def vc6_24 : VC := (.seq (.ops [⟨some 16, none, .mv (.s 2)⟩, ⟨some 17, none, .build [(.int .i64 0), .nilS, .nilS] [(0, (1, (.s 16)))]⟩, ⟨some 9, none, .alloc 25 [(.int .i64 0), .nilS, .nilS]⟩, ⟨none, none, .store 3 (.s 9) (.s 17)⟩] [16, 17] []) vc6_23)
noncomputable def vc6 : VC := (.seq (.ops [⟨some 8, none, .alloc 25 [(.int .i64 0), .nilS, .nilS]⟩] [] []) vc6_24)
theorem cc6 : f6.body.bind (cCode X6) = some vc6 := by kernel_rfl
theorem cr6 : f6.results.toList.mapM (cRes prog) = some [(.load true 3 (.s 8))] := by kernel_rfl
/-! ### metaprune/metapruneref.Pick -/
noncomputable def X7 : Cx := { P := prog, N := 13, own := fun d => List.contains [] d, loud := fun d => List.contains [] d, kl := fun i => List.getD [([4], []), ([5], []), ([6, 7, 8, 9], []), ([0, 1, 6, 10, 11, 12], [])] i ([], []) }
noncomputable def vc7_0 : VC := (.seq (.ops [⟨some 10, none, .mv (.s 0)⟩, ⟨some 11, none, .mv (.s 1)⟩, ⟨some 12, none, .bin .rem (.s 10) (.s 11)⟩, ⟨some 4, none, .mv (.s 12)⟩] [0, 1, 6, 10, 11, 12] []) .ret)
noncomputable def vc7_1 : VC := (.ops [⟨some 7, none, .mv (.s 0)⟩, ⟨some 8, none, .bin .add (.s 7) (.c (.int .i64 1))⟩, ⟨some 9, none, .un .neg (.s 8)⟩, ⟨some 0, none, .mv (.s 9)⟩] [6, 7, 8, 9] [])
noncomputable def vc7_2 : VC := (.cond (.s 6) vc7_1 .skip)
noncomputable def vc7_3 : VC := (.seq (.seq (.ops [⟨some 5, none, .mv (.s 0)⟩, ⟨some 6, none, .bin .lss (.s 5) (.c (.int .i64 0))⟩] [5] []) vc7_2) vc7_0)
noncomputable def vc7 : VC := (.seq (.ops [⟨some 4, none, .mv (.c (.int .i64 0))⟩] [4] []) vc7_3)
theorem cc7 : f7.body.bind (cCode X7) = some vc7 := by kernel_rfl
theorem cr7 : f7.results.toList.mapM (cRes prog) = some [(.mv (.s 4))] := by kernel_rfl
/-! ### metaprune/metapruneref.Ground -/
noncomputable def X8 : Cx := { P := prog, N := 71, own := fun d => List.contains [] d, loud := fun d => List.contains [] d, kl := fun i => List.getD [([7], []), ([14, 15, 16], []), ([17, 18], []), ([19, 20, 21, 22, 23, 24], []), ([0, 1, 2, 8, 25, 26, 27, 28, 29, 30, 31, 32, 33], []), ([8, 25, 34, 35, 36], []), ([0, 1, 2, 37, 38, 39, 40, 41, 42, 43, 44, 45], []), ([9, 10, 46, 47, 48, 49], [9]), ([1, 37, 50, 51, 52, 53, 54, 55, 56, 57], []), ([0, 2, 58, 59, 60, 61, 62, 63, 64, 65], []), ([11, 12, 13, 66, 67, 68, 69, 70], [11, 13])] i ([], []) }
noncomputable def vc8_0 : VC := (.seq (.ops [⟨some 66, none, .load true 2 (.s 11)⟩, ⟨some 67, none, .load true 2 (.s 13)⟩, ⟨some 68, none, .bslice false 30 2 [(.s 66), (.s 67)]⟩, ⟨some 69, none, .build [(.str ⟨#[]⟩), .nilS] [(0, (1, (.c (.str ⟨#[102]⟩)))), (1, (1, (.s 68)))]⟩, ⟨some 70, none, .mv (.s 12)⟩, ⟨none, none, .store 2 (.s 6) (.s 69)⟩, ⟨some 7, none, .mv (.s 70)⟩] [11, 12, 13, 66, 67, 68, 69, 70] [11, 13]) .ret)
noncomputable def vc8_1 : VC := (.seq (.ops [⟨some 59, none, .mv (.s 0)⟩, ⟨some 60, none, .mv (.s 12)⟩, ⟨some 61, none, .mv (.s 2)⟩, ⟨some 62, none, .bin .quo (.s 61) (.c (.int .i64 2))⟩, ⟨some 63, none, .call 8 [(.s 59), (.s 60), (.s 62)]⟩, ⟨some 58, none, .mv (.s 63)⟩, ⟨some 64, none, .extract (.s 58) 0⟩, ⟨some 65, none, .extract (.s 58) 1⟩, ⟨some 13, none, .alloc 30 [(.str ⟨#[]⟩), .nilS]⟩, ⟨none, none, .store 2 (.s 13) (.s 64)⟩, ⟨some 12, none, .mv (.s 65)⟩] [0, 2, 58, 59, 60, 61, 62, 63, 64, 65] []) vc8_0)
noncomputable def vc8_2 : VC := (.seq (.ops [⟨some 51, none, .mv (.s 0)⟩, ⟨some 52, none, .mv (.s 1)⟩, ⟨some 53, none, .mv (.s 2)⟩, ⟨some 54, none, .bin .quo (.s 53) (.c (.int .i64 2))⟩, ⟨some 55, none, .call 8 [(.s 51), (.s 52), (.s 54)]⟩, ⟨some 50, none, .mv (.s 55)⟩, ⟨some 56, none, .extract (.s 50) 0⟩, ⟨some 57, none, .extract (.s 50) 1⟩, ⟨some 11, none, .alloc 30 [(.str ⟨#[]⟩), .nilS]⟩, ⟨none, none, .store 2 (.s 11) (.s 56)⟩, ⟨some 12, none, .mv (.s 57)⟩] [1, 37, 50, 51, 52, 53, 54, 55, 56, 57] []) vc8_1)
noncomputable def vc8_3 : VC := (.seq (.ops [⟨some 46, none, .load true 2 (.s 9)⟩, ⟨some 47, none, .bslice false 30 2 [(.s 46)]⟩, ⟨some 48, none, .build [(.str ⟨#[]⟩), .nilS] [(0, (1, (.c (.str ⟨#[104]⟩)))), (1, (1, (.s 47)))]⟩, ⟨some 49, none, .mv (.s 10)⟩, ⟨none, none, .store 2 (.s 6) (.s 48)⟩, ⟨some 7, none, .mv (.s 49)⟩] [9, 10, 46, 47, 48, 49] [9]) .ret)
noncomputable def vc8_4 : VC := (.seq (.ops [⟨some 39, none, .mv (.s 0)⟩, ⟨some 40, none, .mv (.s 1)⟩, ⟨some 41, none, .mv (.s 2)⟩, ⟨some 42, none, .bin .sub (.s 41) (.c (.int .i64 1))⟩, ⟨some 43, none, .call 8 [(.s 39), (.s 40), (.s 42)]⟩, ⟨some 38, none, .mv (.s 43)⟩, ⟨some 44, none, .extract (.s 38) 0⟩, ⟨some 45, none, .extract (.s 38) 1⟩, ⟨some 9, none, .alloc 30 [(.str ⟨#[]⟩), .nilS]⟩, ⟨none, none, .store 2 (.s 9) (.s 44)⟩, ⟨some 10, none, .mv (.s 45)⟩] [0, 1, 2, 37, 38, 39, 40, 41, 42, 43, 44, 45] []) vc8_3)
noncomputable def vc8_5 : VC := (.cond (.s 37) vc8_4 .skip)
noncomputable def vc8_6 : VC := (.seq (.seq (.ops [⟨some 34, none, .mv (.s 8)⟩, ⟨some 35, none, .bin .quo (.s 34) (.c (.int .i64 5))⟩, ⟨some 36, none, .call 7 [(.s 35), (.c (.int .i64 2))]⟩, ⟨some 37, none, .bin .eql (.s 36) (.c (.int .i64 0))⟩] [8, 25, 34, 35, 36] []) vc8_5) vc8_2)
noncomputable def vc8_7 : VC := (.seq (.ops [⟨some 26, none, .bslice false 9 1 [(.c (.str ⟨#[97]⟩)), (.c (.str ⟨#[98]⟩))]⟩, ⟨some 27, none, .mv (.s 8)⟩, ⟨some 28, none, .bin .quo (.s 27) (.c (.int .i64 5))⟩, ⟨some 29, none, .call 7 [(.s 28), (.c (.int .i64 2))]⟩, ⟨some 30, none, .iaddr 1 (.s 26) (.s 29)⟩, ⟨some 31, none, .load false 1 (.s 30)⟩, ⟨some 32, none, .call 11 [(.s 31)]⟩, ⟨some 33, none, .mv (.s 1)⟩, ⟨none, none, .store 2 (.s 6) (.s 32)⟩, ⟨some 7, none, .mv (.s 33)⟩] [0, 1, 2, 8, 25, 26, 27, 28, 29, 30, 31, 32, 33] []) .ret)
noncomputable def vc8_8 : VC := (.cond (.s 25) vc8_7 .skip)
noncomputable def vc8_9 : VC := (.seq (.seq (.ops [⟨some 19, none, .mv (.s 2)⟩, ⟨some 20, none, .bin .lss (.s 19) (.c (.int .i64 3))⟩, ⟨some 21, none, .mv (.s 20)⟩, ⟨some 22, some (21, false), .mv (.s 8)⟩, ⟨some 23, some (21, false), .call 7 [(.s 22), (.c (.int .i64 5))]⟩, ⟨some 24, some (21, false), .bin .lss (.s 23) (.c (.int .i64 2))⟩, ⟨some 25, none, .pick (.s 21) (.c (.bool true)) (.s 24)⟩] [19, 20, 21, 22, 23, 24] []) vc8_8) vc8_6)
noncomputable def vc8_10 : VC := (.seq (.ops [⟨some 17, none, .mv (.s 1)⟩, ⟨some 18, none, .bin .add (.s 17) (.c (.int .i64 1))⟩, ⟨some 1, none, .mv (.s 18)⟩] [17, 18] []) vc8_9)
noncomputable def vc8_11 : VC := (.seq (.ops [⟨some 14, none, .mv (.s 0)⟩, ⟨some 15, none, .mv (.s 1)⟩, ⟨some 16, none, .call 18 [(.s 14), (.s 15)]⟩, ⟨some 8, none, .mv (.s 16)⟩] [14, 15, 16] []) vc8_10)
noncomputable def vc8 : VC := (.seq (.ops [⟨some 6, none, .alloc 30 [(.str ⟨#[]⟩), .nilS]⟩, ⟨some 7, none, .mv (.c (.int .i64 0))⟩] [7] []) vc8_11)
theorem cc8 : f8.body.bind (cCode X8) = some vc8 := by kernel_rfl
theorem cr8 : f8.results.toList.mapM (cRes prog) = some [(.load true 2 (.s 6)), (.mv (.s 7))] := by kernel_rfl
/-! ### metaprune/auto.Accepts -/
noncomputable def X9 : Cx := { P := prog, N := 31, own := fun d => List.contains [] d, loud := fun d => List.contains [] d, kl := fun i => List.getD [([0, 1, 4, 5], []), ([7, 8], []), ([9], []), ([10, 11, 12], []), ([10, 13, 14, 15, 16, 17, 18, 19], []), ([20], []), ([20, 21], []), ([2, 3, 6, 22, 23], [2, 3]), ([2, 3, 6, 22, 24, 25, 26, 27, 28, 29, 30], [2, 3])] i ([], []) }
noncomputable def vc9_0 : VC := (.seq (.dops (.take ⟨some 24, none, .load true 3 (.s 2)⟩ (.take ⟨some 25, none, .load true 2 (.s 3)⟩ (.take ⟨some 26, none, .call 22 [(.s 24), (.s 25)]⟩ (.take ⟨some 27, none, .load true 3 (.s 2)⟩ (.take ⟨some 28, none, .call 23 [(.s 27)]⟩ (.take ⟨some 29, none, .bin .and (.s 26) (.s 28)⟩ (.take ⟨some 30, none, .bin .neq (.s 29) (.c (.int .u64 0))⟩ (.take ⟨some 4, none, .mv (.s 30)⟩ (.take ⟨some 5, none, .mv (.c (.int .i64 0))⟩ .done))))))))) [2, 3, 6, 22, 24, 25, 26, 27, 28, 29, 30] [2, 3]) .ret)
noncomputable def vc9_1 : VC := (.seq (.ops [⟨some 23, none, .mv (.s 6)⟩, ⟨some 4, none, .mv (.c (.bool false))⟩, ⟨some 5, none, .mv (.s 23)⟩] [2, 3, 6, 22, 23] [2, 3]) .ret)
noncomputable def vc9_2 : VC := (.cond (.s 22) vc9_1 .skip)
noncomputable def vc9_3 : VC := (.seq (.seq (.ops [⟨some 21, none, .mv (.s 6)⟩, ⟨some 22, none, .bin .neq (.s 21) (.c (.int .i64 0))⟩] [20, 21] []) vc9_2) vc9_0)
noncomputable def vc9_4 : VC := (.ops [⟨some 6, none, .mv (.c (.int .i64 15))⟩] [20] [])
noncomputable def vc9_5 : VC := (.cond (.s 20) vc9_4 .skip)
noncomputable def vc9_6 : VC := (.seq (.seq (.ops [⟨some 13, none, .mv (.s 6)⟩, ⟨some 14, none, .bin .eql (.s 13) (.c (.int .i64 0))⟩, ⟨some 15, none, .mv (.s 14)⟩, ⟨some 16, some (15, true), .load true 2 (.s 3)⟩, ⟨some 17, some (15, true), .call 21 [(.s 16)]⟩, ⟨some 18, some (15, true), .len (.s 17)⟩, ⟨some 19, some (15, true), .bin .gtr (.s 18) (.c (.int .i64 0))⟩, ⟨some 20, none, .pick (.s 15) (.s 19) (.c (.bool false))⟩] [10, 13, 14, 15, 16, 17, 18, 19] []) vc9_5) vc9_3)
noncomputable def vc9_7 : VC := (.ops [⟨some 11, none, .load true 2 (.s 3)⟩, ⟨some 12, none, .call 20 [(.s 11)]⟩, ⟨some 6, none, .mv (.s 12)⟩] [10, 11, 12] [])
noncomputable def vc9_8 : VC := (.cond (.s 10) vc9_7 .skip)
noncomputable def vc9_9 : VC := (.seq (.seq (.ops [⟨some 9, none, .mv (.s 6)⟩, ⟨some 10, none, .bin .eql (.s 9) (.c (.int .i64 0))⟩] [9] []) vc9_8) vc9_6)
noncomputable def vc9_10 : VC := (.seq (.ops [⟨some 7, none, .load true 3 (.s 2)⟩, ⟨some 8, none, .call 19 [(.s 7)]⟩, ⟨some 6, none, .mv (.s 8)⟩] [7, 8] []) vc9_9)
noncomputable def vc9 : VC := (.seq (.ops [⟨some 2, none, .box 25 (.s 0)⟩, ⟨some 3, none, .box 30 (.s 1)⟩, ⟨some 4, none, .mv (.c (.bool false))⟩, ⟨some 5, none, .mv (.c (.int .i64 0))⟩] [0, 1, 4, 5] []) vc9_10)
theorem cc9 : f9.body.bind (cCode X9) = some vc9 := by kernel_rfl
theorem cr9 : f9.results.toList.mapM (cRes prog) = some [(.mv (.s 4)), (.mv (.s 5))] := by kernel_rfl
/-! ### metaprune/auto.Some -/
noncomputable def X10 : Cx := { P := prog, N := 132, own := fun d => List.contains [] d, loud := fun d => List.contains [] d, kl := fun i => List.getD [([0, 3], []), ([15, 16], []), ([17], []), ([1, 4, 18, 19, 20], [1]), ([4, 18, 21, 22, 23], []), ([], []), ([6, 26, 27, 28, 29], []), ([24], []), ([25], []), ([], []), ([29, 30, 31], []), ([32, 33, 34], []), ([35], []), ([], []), ([39, 40, 41], []), ([42, 43, 44, 45], []), ([11, 36, 37, 38, 46, 47], []), ([11, 46, 48, 49, 50, 51, 52, 53, 54, 55, 56, 57, 58, 59, 60], []), ([61], []), ([36, 37, 38, 39, 62, 63, 64, 65, 66, 67, 68], []), ([69, 70, 71, 72, 73, 74, 75, 76, 77, 78, 79, 80, 81, 82, 83, 84, 85], []), ([6, 8, 9, 86, 87, 88, 89, 90], [8, 9]), ([], []), ([8, 9, 69, 86, 91], [8, 9]), ([24], []), ([1, 92], [1]), ([], []), ([96, 97, 98], []), ([99, 100, 101, 102, 103, 104, 105, 106, 107, 108, 109, 110, 111, 112, 113, 114, 115, 116, 117, 118], []), ([14, 119, 120, 121, 122, 123], []), ([14, 119, 124], []), ([5, 93, 94, 95, 96, 125], []), ([12, 126, 127], []), ([12, 126, 128, 129, 130, 131], [])] i ([], []) }
noncomputable def vc10_0 : VC := (.seq (.ops [⟨some 128, none, .mv (.s 12)⟩, ⟨some 129, none, .nilck (.s 128)⟩, ⟨some 130, none, .load true 2 (.s 129)⟩, ⟨some 131, none, .call 26 [(.s 130)]⟩, ⟨none, none, .store 2 (.s 2) (.s 131)⟩, ⟨some 3, none, .mv (.c (.int .i64 0))⟩] [12, 126, 128, 129, 130, 131] []) .ret)
noncomputable def vc10_1 : VC := (.seq (.ops [⟨some 127, none, .build [(.str ⟨#[]⟩), .nilS] []⟩, ⟨none, none, .store 2 (.s 2) (.s 127)⟩, ⟨some 3, none, .mv (.c (.int .i64 7))⟩] [12, 126, 127] []) .ret)
noncomputable def vc10_2 : VC := (.cond (.s 126) vc10_1 .skip)
noncomputable def vc10_3 : VC := (.seq (.seq (.ops [⟨some 125, none, .mv (.s 12)⟩, ⟨some 126, none, .eqn .ptr false (.s 125)⟩] [5, 93, 94, 95, 96, 125] []) vc10_2) vc10_0)
noncomputable def vc10_4 : VC := (.ops [⟨some 124, none, .bin .add (.s 95) (.c (.int .i64 1))⟩, ⟨some 95, none, .mv (.s 124)⟩] [14, 119, 124] [])
noncomputable def vc10_5 : VC := (.ops [⟨some 120, none, .mv (.s 5)⟩, ⟨some 121, none, .mv (.s 14)⟩, ⟨some 122, none, .iaddr 1 (.s 120) (.s 121)⟩, ⟨some 123, none, .load false 1 (.s 122)⟩, ⟨some 12, none, .mv (.s 123)⟩] [14, 119, 120, 121, 122, 123] [])
noncomputable def vc10_6 : VC := (.cond (.s 119) vc10_5 .skip)
noncomputable def vc10_7 : VC := (.seq (.dops (.take ⟨some 99, none, .mv (.s 5)⟩ (.take ⟨some 100, none, .mv (.s 14)⟩ (.take ⟨some 101, none, .iaddr 1 (.s 99) (.s 100)⟩ (.take ⟨some 102, none, .load false 1 (.s 101)⟩ (.take ⟨some 103, none, .eqn .ptr true (.s 102)⟩ (.take ⟨some 104, none, .mv (.s 103)⟩ (.take ⟨some 105, some (104, true), .mv (.s 12)⟩ (.take ⟨some 106, some (104, true), .eqn .ptr false (.s 105)⟩ (.take ⟨some 107, some (104, true), .mv (.s 106)⟩ (.take ⟨some 108, some (107, false), .mv (.s 5)⟩ (.take ⟨some 109, some (107, false), .mv (.s 14)⟩ (.take ⟨some 110, some (107, false), .iaddr 1 (.s 108) (.s 109)⟩ (.take ⟨some 111, some (107, false), .load false 1 (.s 110)⟩ (.take ⟨some 112, some (107, false), .nilck (.s 111)⟩ (.take ⟨some 113, some (107, false), .load true 2 (.s 112)⟩ (.take ⟨some 114, some (107, false), .mv (.s 12)⟩ (.take ⟨some 115, some (107, false), .nilck (.s 114)⟩ (.take ⟨some 116, some (107, false), .load true 2 (.s 115)⟩ (.take ⟨some 117, some (107, false), .call 25 [(.s 113), (.s 116)]⟩ (.take ⟨some 118, some (104, true), .pick (.s 107) (.c (.bool true)) (.s 117)⟩ (.take ⟨some 119, none, .pick (.s 104) (.s 118) (.c (.bool false))⟩ .done))))))))))))))))))))) [99, 100, 101, 102, 103, 104, 105, 106, 107, 108, 109, 110, 111, 112, 113, 114, 115, 116, 117, 118] []) vc10_6)
noncomputable def vc10_8 : VC := (.seq (.ops [⟨some 97, none, .iaddr 1 (.s 93) (.s 95)⟩, ⟨some 98, none, .load false 1 (.s 97)⟩, ⟨some 14, none, .mv (.s 98)⟩] [96, 97, 98] []) vc10_7)
noncomputable def vc10_9 : VC := (.seq (.block 7 vc10_8) vc10_4)
noncomputable def vc10_10 : VC := (.seq (.cond (.s 96) .skip (.exit 6)) vc10_9)
noncomputable def vc10_l0 : VC := (.seq (.ops [⟨some 96, none, .bin .lss (.s 95) (.s 94)⟩] [] []) vc10_10)
noncomputable def vc10_11 : VC := (.block 6 (.loop vc10_l0))
noncomputable def vc10_12 : VC := (.seq (.seq (.ops [⟨some 92, none, .faddr 2 (.s 1)⟩, ⟨some 93, none, .load false 1 (.s 92)⟩, ⟨some 94, none, .len (.s 93)⟩, ⟨some 95, none, .mv (.c (.int .i64 0))⟩] [1, 92] [1]) vc10_11) vc10_3)
noncomputable def vc10_13 : VC := (.seq (.ops [⟨some 12, none, .mv (.c .nilPtr)⟩] [24] []) vc10_12)
noncomputable def vc10_14 : VC := (.ops [⟨some 91, none, .bin .add (.s 28) (.c (.int .i64 1))⟩, ⟨some 28, none, .mv (.s 91)⟩] [8, 9, 69, 86, 91] [8, 9])
noncomputable def vc10_15 : VC := (.ops [⟨some 6, none, .mv (.c (.bool true))⟩] [] [])
noncomputable def vc10_16 : VC := (.seq (.ops [⟨some 87, none, .mv (.s 5)⟩, ⟨some 88, none, .faddr 2 (.s 8)⟩, ⟨some 89, none, .load false 1 (.s 88)⟩, ⟨some 90, none, .iaddr 1 (.s 87) (.s 89)⟩, ⟨none, none, .store 1 (.s 90) (.s 9)⟩] [6, 8, 9, 86, 87, 88, 89, 90] [8, 9]) vc10_15)
noncomputable def vc10_17 : VC := (.cond (.s 86) vc10_16 .skip)
noncomputable def vc10_18 : VC := (.seq (.dops (.take ⟨some 70, none, .mv (.s 5)⟩ (.take ⟨some 71, none, .faddr 2 (.s 8)⟩ (.take ⟨some 72, none, .load false 1 (.s 71)⟩ (.take ⟨some 73, none, .iaddr 1 (.s 70) (.s 72)⟩ (.take ⟨some 74, none, .load false 1 (.s 73)⟩ (.take ⟨some 75, none, .eqn .ptr false (.s 74)⟩ (.take ⟨some 76, none, .mv (.s 75)⟩ (.take ⟨some 77, some (76, false), .load true 2 (.s 9)⟩ (.take ⟨some 78, some (76, false), .mv (.s 5)⟩ (.take ⟨some 79, some (76, false), .faddr 2 (.s 8)⟩ (.take ⟨some 80, some (76, false), .load false 1 (.s 79)⟩ (.take ⟨some 81, some (76, false), .iaddr 1 (.s 78) (.s 80)⟩ (.take ⟨some 82, some (76, false), .load false 1 (.s 81)⟩ (.take ⟨some 83, some (76, false), .nilck (.s 82)⟩ (.take ⟨some 84, some (76, false), .load true 2 (.s 83)⟩ (.take ⟨some 85, some (76, false), .call 25 [(.s 77), (.s 84)]⟩ (.take ⟨some 86, none, .pick (.s 76) (.c (.bool true)) (.s 85)⟩ .done))))))))))))))))) [69, 70, 71, 72, 73, 74, 75, 76, 77, 78, 79, 80, 81, 82, 83, 84, 85] []) vc10_17)
noncomputable def vc10_19 : VC := (.cond (.s 69) (.exit 3) .skip)
noncomputable def vc10_20 : VC := (.seq (.seq (.ops [⟨some 62, none, .faddr 0 (.s 9)⟩, ⟨some 63, none, .load false 1 (.s 62)⟩, ⟨some 64, none, .bin .eql (.s 63) (.c (.str ⟨#[]⟩))⟩, ⟨some 65, none, .mv (.s 64)⟩, ⟨some 66, some (65, false), .load true 2 (.s 9)⟩, ⟨some 67, some (65, false), .call 24 [(.s 66)]⟩, ⟨some 68, some (65, false), .bin .gtr (.s 67) (.c (.int .i64 2000))⟩, ⟨some 69, none, .pick (.s 65) (.c (.bool true)) (.s 68)⟩] [36, 37, 38, 39, 62, 63, 64, 65, 66, 67, 68] []) vc10_19) vc10_18)
noncomputable def vc10_21 : VC := (.ops [⟨some 61, none, .bin .add (.s 38) (.c (.int .i64 1))⟩, ⟨some 38, none, .mv (.s 61)⟩] [61] [])
noncomputable def vc10_22 : VC := (.dops (.take ⟨some 48, none, .faddr 1 (.s 9)⟩ (.take ⟨some 49, none, .load false 1 (.s 48)⟩ (.take ⟨some 50, none, .mv (.s 5)⟩ (.take ⟨some 51, none, .mv (.s 11)⟩ (.take ⟨some 52, none, .iaddr 1 (.s 50) (.s 51)⟩ (.take ⟨some 53, none, .load false 1 (.s 52)⟩ (.take ⟨some 54, none, .nilck (.s 53)⟩ (.take ⟨some 55, none, .load true 2 (.s 54)⟩ (.take ⟨some 56, none, .len (.s 49)⟩ (.take ⟨some 57, none, .bslice false 30 2 [(.c (.agg [(.str ⟨#[]⟩), .nilS]))]⟩ (.alt false ⟨some 58, none, .append 30 2 40 (.s 49) (.s 57)⟩ (.alt true ⟨some 59, none, .iaddr 2 (.s 58) (.s 56)⟩ (.alt false ⟨none, none, .store 2 (.s 59) (.s 55)⟩ (.take ⟨some 60, none, .faddr 1 (.s 9)⟩ (.alt false ⟨none, none, .store 1 (.s 60) (.s 58)⟩ .done .stop)) (.alt true ⟨some 60, none, .faddr 1 (.s 9)⟩ (.alt false ⟨none, none, .store 2 (.s 59) (.s 55)⟩ (.alt false ⟨none, none, .store 1 (.s 60) (.s 58)⟩ .done .stop) (.alt false ⟨none, none, .store 1 (.s 60) (.s 58)⟩ (.alt false ⟨none, none, .store 2 (.s 59) (.s 55)⟩ .done .stop) .stop)) .stop)) (.alt true ⟨some 60, none, .faddr 1 (.s 9)⟩ (.alt true ⟨some 59, none, .iaddr 2 (.s 58) (.s 56)⟩ (.alt false ⟨none, none, .store 2 (.s 59) (.s 55)⟩ (.alt false ⟨none, none, .store 1 (.s 60) (.s 58)⟩ .done .stop) (.alt false ⟨none, none, .store 1 (.s 60) (.s 58)⟩ (.alt false ⟨none, none, .store 2 (.s 59) (.s 55)⟩ .done .stop) .stop)) (.alt false ⟨none, none, .store 1 (.s 60) (.s 58)⟩ (.take ⟨some 59, none, .iaddr 2 (.s 58) (.s 56)⟩ (.alt false ⟨none, none, .store 2 (.s 59) (.s 55)⟩ .done .stop)) .stop)) .stop)) .stop))))))))))) [11, 46, 48, 49, 50, 51, 52, 53, 54, 55, 56, 57, 58, 59, 60] [])
noncomputable def vc10_23 : VC := (.seq (.ops [⟨some 47, none, .faddr 0 (.s 9)⟩, ⟨none, none, .store 1 (.s 47) (.c (.str ⟨#[]⟩))⟩] [11, 36, 37, 38, 46, 47] []) (.exit 4))
noncomputable def vc10_24 : VC := (.cond (.s 46) vc10_23 .skip)
noncomputable def vc10_25 : VC := (.seq (.seq (.ops [⟨some 42, none, .mv (.s 5)⟩, ⟨some 43, none, .mv (.s 11)⟩, ⟨some 44, none, .iaddr 1 (.s 42) (.s 43)⟩, ⟨some 45, none, .load false 1 (.s 44)⟩, ⟨some 46, none, .eqn .ptr false (.s 45)⟩] [42, 43, 44, 45] []) vc10_24) vc10_22)
noncomputable def vc10_26 : VC := (.seq (.ops [⟨some 40, none, .iaddr 1 (.s 36) (.s 38)⟩, ⟨some 41, none, .load false 1 (.s 40)⟩, ⟨some 11, none, .mv (.s 41)⟩] [39, 40, 41] []) vc10_25)
noncomputable def vc10_27 : VC := (.seq (.block 5 vc10_26) vc10_21)
noncomputable def vc10_28 : VC := (.seq (.cond (.s 39) .skip (.exit 4)) vc10_27)
noncomputable def vc10_l3 : VC := (.seq (.ops [⟨some 39, none, .bin .lss (.s 38) (.s 37)⟩] [] []) vc10_28)
noncomputable def vc10_29 : VC := (.block 4 (.loop vc10_l3))
noncomputable def vc10_30 : VC := (.seq (.seq (.ops [⟨some 35, none, .faddr 1 (.s 8)⟩, ⟨some 36, none, .load false 1 (.s 35)⟩, ⟨some 37, none, .len (.s 36)⟩, ⟨some 38, none, .mv (.c (.int .i64 0))⟩] [35] []) vc10_29) vc10_20)
noncomputable def vc10_31 : VC := (.seq (.ops [⟨some 32, none, .faddr 0 (.s 8)⟩, ⟨some 33, none, .load false 1 (.s 32)⟩, ⟨some 34, none, .build [(.str ⟨#[]⟩), .nilS] [(0, (1, (.s 33)))]⟩, ⟨some 9, none, .alloc 30 [(.str ⟨#[]⟩), .nilS]⟩, ⟨none, none, .store 2 (.s 9) (.s 34)⟩] [32, 33, 34] []) vc10_30)
noncomputable def vc10_32 : VC := (.seq (.ops [⟨some 30, none, .iaddr 3 (.s 26) (.s 28)⟩, ⟨some 31, none, .load true 3 (.s 30)⟩, ⟨some 8, none, .alloc 39 [(.str ⟨#[]⟩), .nilS, (.int .i64 0)]⟩, ⟨none, none, .store 3 (.s 8) (.s 31)⟩] [29, 30, 31] []) vc10_31)
noncomputable def vc10_33 : VC := (.seq (.block 3 vc10_32) vc10_14)
noncomputable def vc10_34 : VC := (.seq (.cond (.s 29) .skip (.exit 2)) vc10_33)
noncomputable def vc10_l2 : VC := (.seq (.ops [⟨some 29, none, .bin .lss (.s 28) (.s 27)⟩] [] []) vc10_34)
noncomputable def vc10_35 : VC := (.block 2 (.loop vc10_l2))
noncomputable def vc10_36 : VC := (.seq (.ops [⟨some 25, none, .faddr 1 (.s 1)⟩, ⟨some 26, none, .load false 1 (.s 25)⟩, ⟨some 27, none, .len (.s 26)⟩, ⟨some 28, none, .mv (.c (.int .i64 0))⟩] [25] []) vc10_35)
noncomputable def vc10_37 : VC := (.seq (.ops [⟨some 6, none, .mv (.c (.bool false))⟩] [24] []) vc10_36)
noncomputable def vc10_38 : VC := (.block 1 vc10_37)
noncomputable def vc10_39 : VC := (.cond (.s 24) .skip (.exit 0))
noncomputable def vc10_l1 : VC := (.seq (.seq (.ops [⟨some 24, none, .mv (.s 6)⟩] [6, 26, 27, 28, 29] []) vc10_39) vc10_38)
noncomputable def vc10_40 : VC := (.block 0 (.loop vc10_l1))
noncomputable def vc10_41 : VC := (.seq (.seq (.ops [⟨some 6, none, .mv (.c (.bool true))⟩] [] []) vc10_40) vc10_13)
noncomputable def vc10_42 : VC := (.seq (.ops [⟨some 21, none, .faddr 0 (.s 1)⟩, ⟨some 22, none, .load false 1 (.s 21)⟩, ⟨some 23, none, .mkslice 59 1 8 [.nilPtr] (.s 22) (.s 22)⟩, ⟨some 5, none, .mv (.s 23)⟩] [4, 18, 21, 22, 23] []) vc10_41)
noncomputable def vc10_43 : VC := (.seq (.ops [⟨some 19, none, .build [(.str ⟨#[]⟩), .nilS] []⟩, ⟨some 20, none, .mv (.s 4)⟩, ⟨none, none, .store 2 (.s 2) (.s 19)⟩, ⟨some 3, none, .mv (.s 20)⟩] [1, 4, 18, 19, 20] [1]) .ret)
noncomputable def vc10_44 : VC := (.cond (.s 18) vc10_43 .skip)
noncomputable def vc10_45 : VC := (.seq (.ops [⟨some 17, none, .mv (.s 4)⟩, ⟨some 18, none, .bin .neq (.s 17) (.c (.int .i64 0))⟩] [17] []) vc10_44)
noncomputable def vc10_46 : VC := (.seq (.seq (.ops [⟨some 15, none, .load true 3 (.s 1)⟩, ⟨some 16, none, .call 19 [(.s 15)]⟩, ⟨some 4, none, .mv (.s 16)⟩] [15, 16] []) vc10_45) vc10_42)
noncomputable def vc10 : VC := (.seq (.ops [⟨some 1, none, .box 25 (.s 0)⟩, ⟨some 2, none, .alloc 30 [(.str ⟨#[]⟩), .nilS]⟩, ⟨some 3, none, .mv (.c (.int .i64 0))⟩] [0, 3] []) vc10_46)
theorem cc10 : f10.body.bind (cCode X10) = some vc10 := by kernel_rfl
theorem cr10 : f10.results.toList.mapM (cRes prog) = some [(.load true 2 (.s 2)), (.mv (.s 3))] := by kernel_rfl
/-! ### metaprune/metapruneref.Leaf -/
noncomputable def X11 : Cx := { P := prog, N := 5, own := fun d => List.contains [] d, loud := fun d => List.contains [] d, kl := fun i => List.getD [([], []), ([0, 3, 4], [])] i ([], []) }
noncomputable def vc11_0 : VC := (.seq (.ops [⟨some 3, none, .mv (.s 0)⟩, ⟨some 4, none, .build [(.str ⟨#[]⟩), .nilS] [(0, (1, (.s 3)))]⟩, ⟨none, none, .store 2 (.s 2) (.s 4)⟩] [0, 3, 4] []) .ret)
noncomputable def vc11 : VC := (.seq (.ops [⟨some 2, none, .alloc 30 [(.str ⟨#[]⟩), .nilS]⟩] [] []) vc11_0)
theorem cc11 : f11.body.bind (cCode X11) = some vc11 := by kernel_rfl
theorem cr11 : f11.results.toList.mapM (cRes prog) = some [(.load true 2 (.s 2))] := by kernel_rfl
/-! ### metaprune/metapruneref.Size -/
noncomputable def X12 : Cx := { P := prog, N := 36, own := fun d => List.contains [] d, loud := fun d => List.contains [] d, kl := fun i => List.getD [([0, 4], []), ([], []), ([], []), ([7, 8, 9, 10, 11, 12, 13, 14, 15], []), ([17, 18], []), ([16, 19, 20, 21, 22, 23, 24, 25, 26, 27, 28, 29], []), ([2, 6, 16, 30, 31], [2]), ([1, 5, 32, 33, 34], []), ([1, 5, 32, 35], [])] i ([], []) }
noncomputable def vc12_0 : VC := (.seq (.ops [⟨some 35, none, .mv (.s 5)⟩, ⟨some 4, none, .mv (.s 35)⟩] [1, 5, 32, 35] []) .ret)
noncomputable def vc12_1 : VC := (.seq (.ops [⟨some 33, none, .mv (.s 1)⟩, ⟨some 34, none, .bin .add (.s 33) (.c (.int .i64 1))⟩, ⟨some 4, none, .mv (.s 34)⟩] [1, 5, 32, 33, 34] []) .ret)
noncomputable def vc12_2 : VC := (.cond (.s 32) vc12_1 .skip)
noncomputable def vc12_3 : VC := (.seq (.seq (.ops [⟨some 30, none, .mv (.s 5)⟩, ⟨some 31, none, .mv (.s 1)⟩, ⟨some 32, none, .bin .gtr (.s 30) (.s 31)⟩] [2, 6, 16, 30, 31] [2]) vc12_2) vc12_0)
noncomputable def vc12_4 : VC := (.ops [⟨some 17, none, .mv (.s 6)⟩, ⟨some 18, none, .bin .add (.s 17) (.c (.int .i64 1))⟩, ⟨some 6, none, .mv (.s 18)⟩] [17, 18] [])
noncomputable def vc12_5 : VC := (.ops [⟨some 19, none, .mv (.s 5)⟩, ⟨some 20, none, .faddr 1 (.s 2)⟩, ⟨some 21, none, .load false 1 (.s 20)⟩, ⟨some 22, none, .mv (.s 6)⟩, ⟨some 23, none, .iaddr 2 (.s 21) (.s 22)⟩, ⟨some 24, none, .load true 2 (.s 23)⟩, ⟨some 25, none, .mv (.s 1)⟩, ⟨some 26, none, .mv (.s 5)⟩, ⟨some 27, none, .bin .sub (.s 25) (.s 26)⟩, ⟨some 28, none, .call 12 [(.s 24), (.s 27)]⟩, ⟨some 29, none, .bin .add (.s 19) (.s 28)⟩, ⟨some 5, none, .mv (.s 29)⟩] [16, 19, 20, 21, 22, 23, 24, 25, 26, 27, 28, 29] [])
noncomputable def vc12_6 : VC := (.seq (.block 1 vc12_5) vc12_4)
noncomputable def vc12_7 : VC := (.cond (.s 16) .skip (.exit 0))
noncomputable def vc12_l0 : VC := (.seq (.seq (.ops [⟨some 7, none, .mv (.s 6)⟩, ⟨some 8, none, .faddr 1 (.s 2)⟩, ⟨some 9, none, .load false 1 (.s 8)⟩, ⟨some 10, none, .len (.s 9)⟩, ⟨some 11, none, .bin .lss (.s 7) (.s 10)⟩, ⟨some 12, none, .mv (.s 11)⟩, ⟨some 13, some (12, true), .mv (.s 5)⟩, ⟨some 14, some (12, true), .mv (.s 1)⟩, ⟨some 15, some (12, true), .bin .leq (.s 13) (.s 14)⟩, ⟨some 16, none, .pick (.s 12) (.s 15) (.c (.bool false))⟩] [7, 8, 9, 10, 11, 12, 13, 14, 15] []) vc12_7) vc12_6)
noncomputable def vc12_8 : VC := (.block 0 (.loop vc12_l0))
noncomputable def vc12_9 : VC := (.seq (.seq (.ops [⟨some 6, none, .mv (.c (.int .i64 0))⟩] [] []) vc12_8) vc12_3)
noncomputable def vc12_10 : VC := (.seq (.ops [⟨some 5, none, .mv (.c (.int .i64 1))⟩] [] []) vc12_9)
noncomputable def vc12 : VC := (.seq (.ops [⟨some 2, none, .box 30 (.s 0)⟩, ⟨some 4, none, .mv (.c (.int .i64 0))⟩] [0, 4] []) vc12_10)
theorem cc12 : f12.body.bind (cCode X12) = some vc12 := by kernel_rfl
theorem cr12 : f12.results.toList.mapM (cRes prog) = some [(.mv (.s 4))] := by kernel_rfl
/-! ### metaprune/metapruneref.Raw -/
noncomputable def X18 : Cx := { P := prog, N := 24, own := fun d => List.contains [] d, loud := fun d => List.contains [] d, kl := fun i => List.getD [([4], []), ([5, 6], []), ([0, 1, 7, 8, 9], []), ([0, 1, 7, 10, 11, 12, 13, 14, 15, 16, 17, 18, 19, 20, 21, 22, 23], [])] i ([], []) }
noncomputable def vc18_0 : VC := (.seq (.dops (.take ⟨some 10, none, .mv (.s 0)⟩ (.take ⟨some 11, none, .mv (.s 1)⟩ (.take ⟨some 12, none, .mv (.s 0)⟩ (.take ⟨some 13, none, .len (.s 12)⟩ (.take ⟨some 14, none, .bin .rem (.s 11) (.s 13)⟩ (.take ⟨some 15, none, .iaddr 1 (.s 10) (.s 14)⟩ (.take ⟨some 16, none, .load false 1 (.s 15)⟩ (.take ⟨some 17, none, .call 7 [(.s 16), (.c (.int .i64 1000003))]⟩ (.take ⟨some 18, none, .mv (.s 1)⟩ (.take ⟨some 19, none, .mv (.s 0)⟩ (.take ⟨some 20, none, .len (.s 19)⟩ (.take ⟨some 21, none, .bin .quo (.s 18) (.s 20)⟩ (.take ⟨some 22, none, .bin .mul (.s 21) (.c (.int .i64 7919))⟩ (.take ⟨some 23, none, .bin .add (.s 17) (.s 22)⟩ (.take ⟨some 4, none, .mv (.s 23)⟩ .done))))))))))))))) [0, 1, 7, 10, 11, 12, 13, 14, 15, 16, 17, 18, 19, 20, 21, 22, 23] []) .ret)
noncomputable def vc18_1 : VC := (.seq (.ops [⟨some 8, none, .mv (.s 1)⟩, ⟨some 9, none, .bin .mul (.s 8) (.c (.int .i64 31))⟩, ⟨some 4, none, .mv (.s 9)⟩] [0, 1, 7, 8, 9] []) .ret)
noncomputable def vc18_2 : VC := (.cond (.s 7) vc18_1 .skip)
noncomputable def vc18_3 : VC := (.seq (.seq (.ops [⟨some 5, none, .mv (.s 0)⟩, ⟨some 6, none, .len (.s 5)⟩, ⟨some 7, none, .bin .eql (.s 6) (.c (.int .i64 0))⟩] [5, 6] []) vc18_2) vc18_0)
noncomputable def vc18 : VC := (.seq (.ops [⟨some 4, none, .mv (.c (.int .i64 0))⟩] [4] []) vc18_3)
theorem cc18 : f18.body.bind (cCode X18) = some vc18 := by kernel_rfl
theorem cr18 : f18.results.toList.mapM (cRes prog) = some [(.mv (.s 4))] := by kernel_rfl
/-! ### metaprune/auto.Check -/
noncomputable def X19 : Cx := { P := prog, N := 5, own := fun d => List.contains [] d, loud := fun d => List.contains [] d, kl := fun i => List.getD [([0, 2], []), ([1, 3, 4], [1])] i ([], []) }
noncomputable def vc19_0 : VC := (.seq (.ops [⟨some 3, none, .load true 3 (.s 1)⟩, ⟨some 4, none, .call 34 [(.s 3), (.c (.int .i64 8)), (.c (.int .i64 40))]⟩, ⟨some 2, none, .mv (.s 4)⟩] [1, 3, 4] [1]) .ret)
noncomputable def vc19 : VC := (.seq (.ops [⟨some 1, none, .box 25 (.s 0)⟩, ⟨some 2, none, .mv (.c (.int .i64 0))⟩] [0, 2] []) vc19_0)
theorem cc19 : f19.body.bind (cCode X19) = some vc19 := by kernel_rfl
theorem cr19 : f19.results.toList.mapM (cRes prog) = some [(.mv (.s 2))] := by kernel_rfl
/-! ### metaprune/term.Check -/
noncomputable def X20 : Cx := { P := prog, N := 8, own := fun d => List.contains [] d, loud := fun d => List.contains [] d, kl := fun i => List.getD [([0, 2], []), ([3, 4], []), ([1, 5], [1]), ([1, 5, 6, 7], [1])] i ([], []) }
noncomputable def vc20_0 : VC := (.seq (.ops [⟨some 6, none, .load true 2 (.s 1)⟩, ⟨some 7, none, .call 36 [(.s 6)]⟩, ⟨some 2, none, .mv (.s 7)⟩] [1, 5, 6, 7] [1]) .ret)
noncomputable def vc20_1 : VC := (.seq (.ops [⟨some 2, none, .mv (.c (.int .i64 3))⟩] [1, 5] [1]) .ret)
noncomputable def vc20_2 : VC := (.cond (.s 5) vc20_1 .skip)
noncomputable def vc20_3 : VC := (.seq (.seq (.ops [⟨some 3, none, .load true 2 (.s 1)⟩, ⟨some 4, none, .call 35 [(.s 3), (.c (.int .i64 200))]⟩, ⟨some 5, none, .bin .lss (.s 4) (.c (.int .i64 0))⟩] [3, 4] []) vc20_2) vc20_0)
noncomputable def vc20 : VC := (.seq (.ops [⟨some 1, none, .box 30 (.s 0)⟩, ⟨some 2, none, .mv (.c (.int .i64 0))⟩] [0, 2] []) vc20_3)
theorem cc20 : f20.body.bind (cCode X20) = some vc20 := by kernel_rfl
theorem cr20 : f20.results.toList.mapM (cRes prog) = some [(.mv (.s 2))] := by kernel_rfl
/-! ### metaprune/term.Vars -/
noncomputable def X21 : Cx := { P := prog, N := 5, own := fun d => List.contains [] d, loud := fun d => List.contains [] d, kl := fun i => List.getD [([0, 2], []), ([1, 3, 4], [1])] i ([], []) }
noncomputable def vc21_0 : VC := (.seq (.ops [⟨some 3, none, .load true 2 (.s 1)⟩, ⟨some 4, none, .call 37 [(.s 3), (.c .nilS)]⟩, ⟨some 2, none, .mv (.s 4)⟩] [1, 3, 4] [1]) .ret)
noncomputable def vc21 : VC := (.seq (.ops [⟨some 1, none, .box 30 (.s 0)⟩, ⟨some 2, none, .mv (.c .nilS)⟩] [0, 2] []) vc21_0)
theorem cc21 : f21.body.bind (cCode X21) = some vc21 := by kernel_rfl
theorem cr21 : f21.results.toList.mapM (cRes prog) = some [(.mv (.s 2))] := by kernel_rfl
/-! ### metaprune/auto.run -/
noncomputable def X22 : Cx := { P := prog, N := 27, own := fun d => List.contains [] d, loud := fun d => List.contains [] d, kl := fun i => List.getD [([0, 1, 4], []), ([], []), ([8], []), ([], []), ([12, 13, 14], []), ([7, 15, 16, 17, 18, 19, 20], [7]), ([21], []), ([2, 3, 5, 9, 10, 11, 12, 22, 23, 24, 25, 26], [2, 3])] i ([], []) }
noncomputable def vc22_0 : VC := (.seq (.ops [⟨some 22, none, .load true 3 (.s 2)⟩, ⟨some 23, none, .faddr 0 (.s 3)⟩, ⟨some 24, none, .load false 1 (.s 23)⟩, ⟨some 25, none, .mv (.s 5)⟩, ⟨some 26, none, .call 32 [(.s 22), (.s 24), (.s 25)]⟩, ⟨some 4, none, .mv (.s 26)⟩] [2, 3, 5, 9, 10, 11, 12, 22, 23, 24, 25, 26] [2, 3]) .ret)
noncomputable def vc22_1 : VC := (.ops [⟨some 21, none, .bin .add (.s 11) (.c (.int .i64 1))⟩, ⟨some 11, none, .mv (.s 21)⟩] [21] [])
noncomputable def vc22_2 : VC := (.ops [⟨some 15, none, .mv (.s 5)⟩, ⟨some 16, none, .load true 3 (.s 2)⟩, ⟨some 17, none, .load true 2 (.s 7)⟩, ⟨some 18, none, .call 22 [(.s 16), (.s 17)]⟩, ⟨some 19, none, .bslice false 55 1 [(.s 18)]⟩, ⟨some 20, none, .append 55 1 8 (.s 15) (.s 19)⟩, ⟨some 5, none, .mv (.s 20)⟩] [7, 15, 16, 17, 18, 19, 20] [7])
noncomputable def vc22_3 : VC := (.seq (.ops [⟨some 13, none, .iaddr 2 (.s 9) (.s 11)⟩, ⟨some 14, none, .load true 2 (.s 13)⟩, ⟨some 7, none, .alloc 30 [(.str ⟨#[]⟩), .nilS]⟩, ⟨none, none, .store 2 (.s 7) (.s 14)⟩] [12, 13, 14] []) vc22_2)
noncomputable def vc22_4 : VC := (.seq (.block 1 vc22_3) vc22_1)
noncomputable def vc22_5 : VC := (.seq (.cond (.s 12) .skip (.exit 0)) vc22_4)
noncomputable def vc22_l0 : VC := (.seq (.ops [⟨some 12, none, .bin .lss (.s 11) (.s 10)⟩] [] []) vc22_5)
noncomputable def vc22_6 : VC := (.block 0 (.loop vc22_l0))
noncomputable def vc22_7 : VC := (.seq (.seq (.ops [⟨some 8, none, .faddr 1 (.s 3)⟩, ⟨some 9, none, .load false 1 (.s 8)⟩, ⟨some 10, none, .len (.s 9)⟩, ⟨some 11, none, .mv (.c (.int .i64 0))⟩] [8] []) vc22_6) vc22_0)
noncomputable def vc22_8 : VC := (.seq (.ops [⟨some 5, none, .mv (.c .nilS)⟩] [] []) vc22_7)
noncomputable def vc22 : VC := (.seq (.ops [⟨some 2, none, .box 25 (.s 0)⟩, ⟨some 3, none, .box 30 (.s 1)⟩, ⟨some 4, none, .mv (.c (.int .u64 0))⟩] [0, 1, 4] []) vc22_8)
theorem cc22 : f22.body.bind (cCode X22) = some vc22 := by kernel_rfl
theorem cr22 : f22.results.toList.mapM (cRes prog) = some [(.mv (.s 4))] := by kernel_rfl
/-! ### metaprune/auto.lasts -/
noncomputable def X23 : Cx := { P := prog, N := 19, own := fun d => List.contains [] d, loud := fun d => List.contains [] d, kl := fun i => List.getD [([0, 2], []), ([], []), ([1, 6], [1]), ([], []), ([10, 11, 12], []), ([5, 13, 14, 15, 16], []), ([17], []), ([3, 7, 8, 9, 10, 18], [])] i ([], []) }
noncomputable def vc23_0 : VC := (.seq (.ops [⟨some 18, none, .mv (.s 3)⟩, ⟨some 2, none, .mv (.s 18)⟩] [3, 7, 8, 9, 10, 18] []) .ret)
noncomputable def vc23_1 : VC := (.ops [⟨some 17, none, .bin .add (.s 9) (.c (.int .i64 1))⟩, ⟨some 9, none, .mv (.s 17)⟩] [17] [])
noncomputable def vc23_2 : VC := (.ops [⟨some 13, none, .mv (.s 3)⟩, ⟨some 14, none, .mv (.s 5)⟩, ⟨some 15, none, .bin .shl (.c (.int .u64 1)) (.s 14)⟩, ⟨some 16, none, .bin .or (.s 13) (.s 15)⟩, ⟨some 3, none, .mv (.s 16)⟩] [5, 13, 14, 15, 16] [])
noncomputable def vc23_3 : VC := (.seq (.ops [⟨some 11, none, .iaddr 1 (.s 7) (.s 9)⟩, ⟨some 12, none, .load false 1 (.s 11)⟩, ⟨some 5, none, .mv (.s 12)⟩] [10, 11, 12] []) vc23_2)
noncomputable def vc23_4 : VC := (.seq (.block 1 vc23_3) vc23_1)
noncomputable def vc23_5 : VC := (.seq (.cond (.s 10) .skip (.exit 0)) vc23_4)
noncomputable def vc23_l0 : VC := (.seq (.ops [⟨some 10, none, .bin .lss (.s 9) (.s 8)⟩] [] []) vc23_5)
noncomputable def vc23_6 : VC := (.block 0 (.loop vc23_l0))
noncomputable def vc23_7 : VC := (.seq (.seq (.ops [⟨some 6, none, .faddr 2 (.s 1)⟩, ⟨some 7, none, .load false 1 (.s 6)⟩, ⟨some 8, none, .len (.s 7)⟩, ⟨some 9, none, .mv (.c (.int .i64 0))⟩] [1, 6] [1]) vc23_6) vc23_0)
noncomputable def vc23_8 : VC := (.seq (.ops [⟨some 3, none, .mv (.c (.int .u64 0))⟩] [] []) vc23_7)
noncomputable def vc23 : VC := (.seq (.ops [⟨some 1, none, .box 25 (.s 0)⟩, ⟨some 2, none, .mv (.c (.int .u64 0))⟩] [0, 2] []) vc23_8)
theorem cc23 : f23.body.bind (cCode X23) = some vc23 := by kernel_rfl
theorem cr23 : f23.results.toList.mapM (cRes prog) = some [(.mv (.s 2))] := by kernel_rfl
/-! ### metaprune/term.Size -/
noncomputable def X24 : Cx := { P := prog, N := 19, own := fun d => List.contains [] d, loud := fun d => List.contains [] d, kl := fun i => List.getD [([0, 2], []), ([], []), ([1, 6], [1]), ([], []), ([10, 11, 12], []), ([5, 13, 14, 15, 16], [5]), ([17], []), ([3, 7, 8, 9, 10, 18], [])] i ([], []) }
noncomputable def vc24_0 : VC := (.seq (.ops [⟨some 18, none, .mv (.s 3)⟩, ⟨some 2, none, .mv (.s 18)⟩] [3, 7, 8, 9, 10, 18] []) .ret)
noncomputable def vc24_1 : VC := (.ops [⟨some 17, none, .bin .add (.s 9) (.c (.int .i64 1))⟩, ⟨some 9, none, .mv (.s 17)⟩] [17] [])
noncomputable def vc24_2 : VC := (.ops [⟨some 13, none, .mv (.s 3)⟩, ⟨some 14, none, .load true 2 (.s 5)⟩, ⟨some 15, none, .call 24 [(.s 14)]⟩, ⟨some 16, none, .bin .add (.s 13) (.s 15)⟩, ⟨some 3, none, .mv (.s 16)⟩] [5, 13, 14, 15, 16] [5])
noncomputable def vc24_3 : VC := (.seq (.ops [⟨some 11, none, .iaddr 2 (.s 7) (.s 9)⟩, ⟨some 12, none, .load true 2 (.s 11)⟩, ⟨some 5, none, .alloc 30 [(.str ⟨#[]⟩), .nilS]⟩, ⟨none, none, .store 2 (.s 5) (.s 12)⟩] [10, 11, 12] []) vc24_2)
noncomputable def vc24_4 : VC := (.seq (.block 1 vc24_3) vc24_1)
noncomputable def vc24_5 : VC := (.seq (.cond (.s 10) .skip (.exit 0)) vc24_4)
noncomputable def vc24_l0 : VC := (.seq (.ops [⟨some 10, none, .bin .lss (.s 9) (.s 8)⟩] [] []) vc24_5)
noncomputable def vc24_6 : VC := (.block 0 (.loop vc24_l0))
noncomputable def vc24_7 : VC := (.seq (.seq (.ops [⟨some 6, none, .faddr 1 (.s 1)⟩, ⟨some 7, none, .load false 1 (.s 6)⟩, ⟨some 8, none, .len (.s 7)⟩, ⟨some 9, none, .mv (.c (.int .i64 0))⟩] [1, 6] [1]) vc24_6) vc24_0)
noncomputable def vc24_8 : VC := (.seq (.ops [⟨some 3, none, .mv (.c (.int .i64 1))⟩] [] []) vc24_7)
noncomputable def vc24 : VC := (.seq (.ops [⟨some 1, none, .box 30 (.s 0)⟩, ⟨some 2, none, .mv (.c (.int .i64 0))⟩] [0, 2] []) vc24_8)
theorem cc24 : f24.body.bind (cCode X24) = some vc24 := by kernel_rfl
theorem cr24 : f24.results.toList.mapM (cRes prog) = some [(.mv (.s 2))] := by kernel_rfl
/-! ### metaprune/auto.less -/
noncomputable def X25 : Cx := { P := prog, N := 20, own := fun d => List.contains [] d, loud := fun d => List.contains [] d, kl := fun i => List.getD [([0, 1, 4], []), ([6, 7, 8, 9, 10], []), ([11], []), ([2, 3, 5, 12, 13, 14], [2, 3]), ([2, 3, 5, 12, 15, 16, 17, 18, 19], [2, 3])] i ([], []) }
noncomputable def vc25_0 : VC := (.seq (.dops (.take ⟨some 15, none, .load true 2 (.s 2)⟩ (.take ⟨some 16, none, .call 38 [(.s 15)]⟩ (.take ⟨some 17, none, .load true 2 (.s 3)⟩ (.take ⟨some 18, none, .call 38 [(.s 17)]⟩ (.take ⟨some 19, none, .bin .lss (.s 16) (.s 18)⟩ (.take ⟨some 4, none, .mv (.s 19)⟩ .done)))))) [2, 3, 5, 12, 15, 16, 17, 18, 19] [2, 3]) .ret)
noncomputable def vc25_1 : VC := (.seq (.ops [⟨some 13, none, .mv (.s 5)⟩, ⟨some 14, none, .bin .lss (.s 13) (.c (.int .i64 0))⟩, ⟨some 4, none, .mv (.s 14)⟩] [2, 3, 5, 12, 13, 14] [2, 3]) .ret)
noncomputable def vc25_2 : VC := (.cond (.s 12) vc25_1 .skip)
noncomputable def vc25_3 : VC := (.seq (.ops [⟨some 11, none, .mv (.s 5)⟩, ⟨some 12, none, .bin .neq (.s 11) (.c (.int .i64 0))⟩] [11] []) vc25_2)
noncomputable def vc25_4 : VC := (.seq (.seq (.dops (.take ⟨some 6, none, .load true 2 (.s 2)⟩ (.take ⟨some 7, none, .call 24 [(.s 6)]⟩ (.take ⟨some 8, none, .load true 2 (.s 3)⟩ (.take ⟨some 9, none, .call 24 [(.s 8)]⟩ (.take ⟨some 10, none, .bin .sub (.s 7) (.s 9)⟩ (.take ⟨some 5, none, .mv (.s 10)⟩ .done)))))) [6, 7, 8, 9, 10] []) vc25_3) vc25_0)
noncomputable def vc25 : VC := (.seq (.ops [⟨some 2, none, .box 30 (.s 0)⟩, ⟨some 3, none, .box 30 (.s 1)⟩, ⟨some 4, none, .mv (.c (.bool false))⟩] [0, 1, 4] []) vc25_4)
theorem cc25 : f25.body.bind (cCode X25) = some vc25 := by kernel_rfl
theorem cr25 : f25.results.toList.mapM (cRes prog) = some [(.mv (.s 4))] := by kernel_rfl
/-! ### metaprune/term.Copy -/
noncomputable def X26 : Cx := { P := prog, N := 25, own := fun d => List.contains [] d, loud := fun d => List.contains [] d, kl := fun i => List.getD [([0], []), ([6, 7, 8], []), ([1, 9], [1]), ([], []), ([13, 14, 15], []), ([5, 16, 17, 18, 19, 20, 21, 22], [5]), ([23], []), ([3, 10, 11, 12, 13, 24], [3])] i ([], []) }
noncomputable def vc26_0 : VC := (.seq (.ops [⟨some 24, none, .load true 2 (.s 3)⟩, ⟨none, none, .store 2 (.s 2) (.s 24)⟩] [3, 10, 11, 12, 13, 24] [3]) .ret)
noncomputable def vc26_1 : VC := (.ops [⟨some 23, none, .bin .add (.s 12) (.c (.int .i64 1))⟩, ⟨some 12, none, .mv (.s 23)⟩] [23] [])
noncomputable def vc26_2 : VC := (.dops (.take ⟨some 16, none, .faddr 1 (.s 3)⟩ (.take ⟨some 17, none, .load false 1 (.s 16)⟩ (.take ⟨some 18, none, .load true 2 (.s 5)⟩ (.take ⟨some 19, none, .call 26 [(.s 18)]⟩ (.take ⟨some 20, none, .bslice false 30 2 [(.s 19)]⟩ (.alt false ⟨some 21, none, .append 30 2 40 (.s 17) (.s 20)⟩ (.take ⟨some 22, none, .faddr 1 (.s 3)⟩ (.alt false ⟨none, none, .store 1 (.s 22) (.s 21)⟩ .done .stop)) .stop)))))) [5, 16, 17, 18, 19, 20, 21, 22] [5])
noncomputable def vc26_3 : VC := (.seq (.ops [⟨some 14, none, .iaddr 2 (.s 10) (.s 12)⟩, ⟨some 15, none, .load true 2 (.s 14)⟩, ⟨some 5, none, .alloc 30 [(.str ⟨#[]⟩), .nilS]⟩, ⟨none, none, .store 2 (.s 5) (.s 15)⟩] [13, 14, 15] []) vc26_2)
noncomputable def vc26_4 : VC := (.seq (.block 1 vc26_3) vc26_1)
noncomputable def vc26_5 : VC := (.seq (.cond (.s 13) .skip (.exit 0)) vc26_4)
noncomputable def vc26_l0 : VC := (.seq (.ops [⟨some 13, none, .bin .lss (.s 12) (.s 11)⟩] [] []) vc26_5)
noncomputable def vc26_6 : VC := (.block 0 (.loop vc26_l0))
noncomputable def vc26_7 : VC := (.seq (.seq (.ops [⟨some 9, none, .faddr 1 (.s 1)⟩, ⟨some 10, none, .load false 1 (.s 9)⟩, ⟨some 11, none, .len (.s 10)⟩, ⟨some 12, none, .mv (.c (.int .i64 0))⟩] [1, 9] [1]) vc26_6) vc26_0)
noncomputable def vc26_8 : VC := (.seq (.ops [⟨some 6, none, .faddr 0 (.s 1)⟩, ⟨some 7, none, .load false 1 (.s 6)⟩, ⟨some 8, none, .build [(.str ⟨#[]⟩), .nilS] [(0, (1, (.s 7)))]⟩, ⟨some 3, none, .alloc 30 [(.str ⟨#[]⟩), .nilS]⟩, ⟨none, none, .store 2 (.s 3) (.s 8)⟩] [6, 7, 8] []) vc26_7)
noncomputable def vc26 : VC := (.seq (.ops [⟨some 1, none, .box 30 (.s 0)⟩, ⟨some 2, none, .alloc 30 [(.str ⟨#[]⟩), .nilS]⟩] [0] []) vc26_8)
theorem cc26 : f26.body.bind (cCode X26) = some vc26 := by kernel_rfl
theorem cr26 : f26.results.toList.mapM (cRes prog) = some [(.load true 2 (.s 2))] := by kernel_rfl
/-! ### metaprune/auto.after -/
noncomputable def X32 : Cx := { P := prog, N := 60, own := fun d => List.contains [] d, loud := fun d => List.contains [] d, kl := fun i => List.getD [([0, 6], []), ([], []), ([3, 13], [3]), ([], []), ([17, 18, 19], []), ([20, 21, 22, 23, 24, 25, 26, 27, 28, 29, 30], []), ([31], []), ([32], []), ([], []), ([36, 37, 38, 39], []), ([11, 12, 40, 41, 42, 43, 44, 45, 46, 47, 48, 49, 50], []), ([51], []), ([10, 33, 34, 35, 36], []), ([9, 52, 53, 54, 55, 56, 57], [9]), ([9, 31, 52, 58], [9]), ([1, 2, 7, 14, 15, 16, 17, 59], [])] i ([], []) }
noncomputable def vc32_0 : VC := (.seq (.ops [⟨some 59, none, .mv (.s 7)⟩, ⟨some 6, none, .mv (.s 59)⟩] [1, 2, 7, 14, 15, 16, 17, 59] []) .ret)
noncomputable def vc32_1 : VC := (.ops [⟨some 58, none, .bin .add (.s 16) (.c (.int .i64 1))⟩, ⟨some 16, none, .mv (.s 58)⟩] [9, 31, 52, 58] [9])
noncomputable def vc32_2 : VC := (.ops [⟨some 53, none, .mv (.s 7)⟩, ⟨some 54, none, .faddr 2 (.s 9)⟩, ⟨some 55, none, .load false 1 (.s 54)⟩, ⟨some 56, none, .bin .shl (.c (.int .u64 1)) (.s 55)⟩, ⟨some 57, none, .bin .or (.s 53) (.s 56)⟩, ⟨some 7, none, .mv (.s 57)⟩] [9, 52, 53, 54, 55, 56, 57] [9])
noncomputable def vc32_3 : VC := (.cond (.s 52) vc32_2 .skip)
noncomputable def vc32_4 : VC := (.seq (.ops [⟨some 52, none, .mv (.s 10)⟩] [10, 33, 34, 35, 36] []) vc32_3)
noncomputable def vc32_5 : VC := (.ops [⟨some 51, none, .bin .add (.s 35) (.c (.int .i64 1))⟩, ⟨some 35, none, .mv (.s 51)⟩] [51] [])
noncomputable def vc32_6 : VC := (.ops [⟨some 40, none, .mv (.s 10)⟩, ⟨some 41, none, .mv (.s 40)⟩, ⟨some 42, some (41, true), .mv (.s 2)⟩, ⟨some 43, some (41, true), .mv (.s 11)⟩, ⟨some 44, some (41, true), .iaddr 1 (.s 42) (.s 43)⟩, ⟨some 45, some (41, true), .load false 1 (.s 44)⟩, ⟨some 46, some (41, true), .mv (.s 12)⟩, ⟨some 47, some (41, true), .bin .shr (.s 45) (.s 46)⟩, ⟨some 48, some (41, true), .bin .and (.s 47) (.c (.int .u64 1))⟩, ⟨some 49, some (41, true), .bin .eql (.s 48) (.c (.int .u64 1))⟩, ⟨some 50, none, .pick (.s 41) (.s 49) (.c (.bool false))⟩, ⟨some 10, none, .mv (.s 50)⟩] [11, 12, 40, 41, 42, 43, 44, 45, 46, 47, 48, 49, 50] [])
noncomputable def vc32_7 : VC := (.seq (.ops [⟨some 37, none, .mv (.s 35)⟩, ⟨some 38, none, .iaddr 1 (.s 33) (.s 35)⟩, ⟨some 39, none, .load false 1 (.s 38)⟩, ⟨some 11, none, .mv (.s 37)⟩, ⟨some 12, none, .mv (.s 39)⟩] [36, 37, 38, 39] []) vc32_6)
noncomputable def vc32_8 : VC := (.seq (.block 3 vc32_7) vc32_5)
noncomputable def vc32_9 : VC := (.seq (.cond (.s 36) .skip (.exit 2)) vc32_8)
noncomputable def vc32_l1 : VC := (.seq (.ops [⟨some 36, none, .bin .lss (.s 35) (.s 34)⟩] [] []) vc32_9)
noncomputable def vc32_10 : VC := (.block 2 (.loop vc32_l1))
noncomputable def vc32_11 : VC := (.seq (.seq (.ops [⟨some 32, none, .faddr 1 (.s 9)⟩, ⟨some 33, none, .load false 1 (.s 32)⟩, ⟨some 34, none, .len (.s 33)⟩, ⟨some 35, none, .mv (.c (.int .i64 0))⟩] [32] []) vc32_10) vc32_4)
noncomputable def vc32_12 : VC := (.seq (.ops [⟨some 10, none, .mv (.c (.bool true))⟩] [31] []) vc32_11)
noncomputable def vc32_13 : VC := (.cond (.s 31) (.exit 1) .skip)
noncomputable def vc32_14 : VC := (.seq (.seq (.ops [⟨some 20, none, .faddr 0 (.s 9)⟩, ⟨some 21, none, .load false 1 (.s 20)⟩, ⟨some 22, none, .mv (.s 1)⟩, ⟨some 23, none, .bin .neq (.s 21) (.s 22)⟩, ⟨some 24, none, .mv (.s 23)⟩, ⟨some 25, some (24, false), .faddr 1 (.s 9)⟩, ⟨some 26, some (24, false), .load false 1 (.s 25)⟩, ⟨some 27, some (24, false), .len (.s 26)⟩, ⟨some 28, some (24, false), .mv (.s 2)⟩, ⟨some 29, some (24, false), .len (.s 28)⟩, ⟨some 30, some (24, false), .bin .neq (.s 27) (.s 29)⟩, ⟨some 31, none, .pick (.s 24) (.c (.bool true)) (.s 30)⟩] [20, 21, 22, 23, 24, 25, 26, 27, 28, 29, 30] []) vc32_13) vc32_12)
noncomputable def vc32_15 : VC := (.seq (.ops [⟨some 18, none, .iaddr 3 (.s 14) (.s 16)⟩, ⟨some 19, none, .load true 3 (.s 18)⟩, ⟨some 9, none, .alloc 39 [(.str ⟨#[]⟩), .nilS, (.int .i64 0)]⟩, ⟨none, none, .store 3 (.s 9) (.s 19)⟩] [17, 18, 19] []) vc32_14)
noncomputable def vc32_16 : VC := (.seq (.block 1 vc32_15) vc32_1)
noncomputable def vc32_17 : VC := (.seq (.cond (.s 17) .skip (.exit 0)) vc32_16)
noncomputable def vc32_l0 : VC := (.seq (.ops [⟨some 17, none, .bin .lss (.s 16) (.s 15)⟩] [] []) vc32_17)
noncomputable def vc32_18 : VC := (.block 0 (.loop vc32_l0))
noncomputable def vc32_19 : VC := (.seq (.seq (.ops [⟨some 13, none, .faddr 1 (.s 3)⟩, ⟨some 14, none, .load false 1 (.s 13)⟩, ⟨some 15, none, .len (.s 14)⟩, ⟨some 16, none, .mv (.c (.int .i64 0))⟩] [3, 13] [3]) vc32_18) vc32_0)
noncomputable def vc32_20 : VC := (.seq (.ops [⟨some 7, none, .mv (.c (.int .u64 0))⟩] [] []) vc32_19)
noncomputable def vc32 : VC := (.seq (.ops [⟨some 3, none, .box 25 (.s 0)⟩, ⟨some 6, none, .mv (.c (.int .u64 0))⟩] [0, 6] []) vc32_20)
theorem cc32 : f32.body.bind (cCode X32) = some vc32 := by kernel_rfl
theorem cr32 : f32.results.toList.mapM (cRes prog) = some [(.mv (.s 6))] := by kernel_rfl
/-! ### slices.Clone[[]int,int] -/
noncomputable def X33 : Cx := { P := prog, N := 8, own := fun d => List.contains [5] d, loud := fun d => List.contains [] d, kl := fun i => List.getD [([2], []), ([3], []), ([0, 4], []), ([0, 4, 5, 6, 7], [])] i ([], []) }
noncomputable def vc33_0 : VC := (.seq (.ops [⟨some 5, none, .bslice true 3 1 []⟩, ⟨some 6, none, .mv (.s 0)⟩, ⟨some 7, none, .append 3 1 8 (.s 5) (.s 6)⟩, ⟨some 2, none, .mv (.s 7)⟩] [0, 4, 5, 6, 7] []) .ret)
noncomputable def vc33_1 : VC := (.seq (.ops [⟨some 2, none, .mv (.c .nilS)⟩] [0, 4] []) .ret)
noncomputable def vc33_2 : VC := (.cond (.s 4) vc33_1 .skip)
noncomputable def vc33_3 : VC := (.seq (.seq (.ops [⟨some 3, none, .mv (.s 0)⟩, ⟨some 4, none, .eqn .slice false (.s 3)⟩] [3] []) vc33_2) vc33_0)
noncomputable def vc33 : VC := (.seq (.ops [⟨some 2, none, .mv (.c .nilS)⟩] [2] []) vc33_3)
theorem cc33 : f33.body.bind (cCode X33) = some vc33 := by kernel_rfl
theorem cr33 : f33.results.toList.mapM (cRes prog) = some [(.mv (.s 2))] := by kernel_rfl
/-! ### metaprune/auto.Bounded -/
noncomputable def X34 : Cx := { P := prog, N := 73, own := fun d => List.contains [] d, loud := fun d => List.contains [49] d, kl := fun i => List.getD [([0, 6], []), ([1, 2, 11, 12, 13, 14, 15, 16, 17, 18, 19, 20, 21, 22, 23, 24, 25], []), ([3, 26], [3]), ([26, 27], []), ([], []), ([31, 32, 33], []), ([34, 35, 36, 37, 38, 39, 40, 41], []), ([3, 8, 28, 29, 30, 42], [3, 8]), ([42, 43, 44, 45], []), ([3, 8, 28, 29, 30, 46], [3, 8]), ([8, 46, 47, 48, 49, 50, 51, 52], [8]), ([], []), ([56, 57, 58], []), ([10, 59, 60, 61, 62, 63, 64, 65], []), ([3, 28, 29, 30, 53, 54, 55, 66], [3]), ([66, 67], []), ([53, 54, 55, 56, 68], []), ([3, 28, 29, 30, 31, 69, 70, 71], [3]), ([72], []), ([72], [])] i ([], []) }
noncomputable def vc34_0 : VC := (.seq (.ops [⟨some 6, none, .mv (.c (.int .i64 0))⟩] [72] []) .ret)
noncomputable def vc34_1 : VC := (.seq (.ops [⟨some 6, none, .mv (.c (.int .i64 10))⟩] [72] []) .ret)
noncomputable def vc34_2 : VC := (.cond (.s 72) vc34_1 .skip)
noncomputable def vc34_3 : VC := (.seq (.seq (.ops [⟨some 69, none, .faddr 2 (.s 3)⟩, ⟨some 70, none, .load false 1 (.s 69)⟩, ⟨some 71, none, .mkfn 45 [(.s 3)]⟩, ⟨some 72, none, .call 44 [(.s 70), (.s 71)]⟩] [3, 28, 29, 30, 31, 69, 70, 71] [3]) vc34_2) vc34_0)
noncomputable def vc34_4 : VC := (.ops [⟨some 68, none, .bin .add (.s 30) (.c (.int .i64 1))⟩, ⟨some 30, none, .mv (.s 68)⟩] [53, 54, 55, 56, 68] [])
noncomputable def vc34_5 : VC := (.ops [⟨some 67, none, .bin .add (.s 55) (.c (.int .i64 1))⟩, ⟨some 55, none, .mv (.s 67)⟩] [66, 67] [])
noncomputable def vc34_6 : VC := (.seq (.ops [⟨some 6, none, .mv (.c (.int .i64 10))⟩] [3, 28, 29, 30, 53, 54, 55, 66] [3]) .ret)
noncomputable def vc34_7 : VC := (.cond (.s 66) vc34_6 .skip)
noncomputable def vc34_8 : VC := (.seq (.ops [⟨some 59, none, .mv (.s 10)⟩, ⟨some 60, none, .bin .lss (.s 59) (.c (.int .i64 0))⟩, ⟨some 61, none, .mv (.s 60)⟩, ⟨some 62, some (61, false), .mv (.s 10)⟩, ⟨some 63, some (61, false), .faddr 0 (.s 3)⟩, ⟨some 64, some (61, false), .load false 1 (.s 63)⟩, ⟨some 65, some (61, false), .bin .geq (.s 62) (.s 64)⟩, ⟨some 66, none, .pick (.s 61) (.c (.bool true)) (.s 65)⟩] [10, 59, 60, 61, 62, 63, 64, 65] []) vc34_7)
noncomputable def vc34_9 : VC := (.seq (.ops [⟨some 57, none, .iaddr 1 (.s 53) (.s 55)⟩, ⟨some 58, none, .load false 1 (.s 57)⟩, ⟨some 10, none, .mv (.s 58)⟩] [56, 57, 58] []) vc34_8)
noncomputable def vc34_10 : VC := (.seq (.block 3 vc34_9) vc34_5)
noncomputable def vc34_11 : VC := (.seq (.cond (.s 56) .skip (.exit 2)) vc34_10)
noncomputable def vc34_l1 : VC := (.seq (.ops [⟨some 56, none, .bin .lss (.s 55) (.s 54)⟩] [] []) vc34_11)
noncomputable def vc34_12 : VC := (.block 2 (.loop vc34_l1))
noncomputable def vc34_13 : VC := (.seq (.dops (.take ⟨some 47, none, .faddr 1 (.s 8)⟩ (.take ⟨some 48, none, .load false 1 (.s 47)⟩ (.alt false ⟨some 49, none, .call 33 [(.s 48)]⟩ (.take ⟨some 50, none, .faddr 2 (.s 8)⟩ (.take ⟨some 51, none, .load false 1 (.s 50)⟩ (.take ⟨some 52, none, .bslice false 3 1 [(.s 51)]⟩ (.take ⟨some 55, none, .mv (.c (.int .i64 0))⟩ (.alt false ⟨some 53, none, .append 3 1 8 (.s 49) (.s 52)⟩ (.take ⟨some 54, none, .len (.s 53)⟩ .done) .stop))))) (.alt true ⟨some 50, none, .faddr 2 (.s 8)⟩ (.alt false ⟨some 49, none, .call 33 [(.s 48)]⟩ (.take ⟨some 51, none, .load false 1 (.s 50)⟩ (.take ⟨some 52, none, .bslice false 3 1 [(.s 51)]⟩ (.take ⟨some 55, none, .mv (.c (.int .i64 0))⟩ (.alt false ⟨some 53, none, .append 3 1 8 (.s 49) (.s 52)⟩ (.take ⟨some 54, none, .len (.s 53)⟩ .done) .stop)))) (.alt true ⟨some 51, none, .load false 1 (.s 50)⟩ (.alt false ⟨some 49, none, .call 33 [(.s 48)]⟩ (.take ⟨some 52, none, .bslice false 3 1 [(.s 51)]⟩ (.take ⟨some 55, none, .mv (.c (.int .i64 0))⟩ (.alt false ⟨some 53, none, .append 3 1 8 (.s 49) (.s 52)⟩ (.take ⟨some 54, none, .len (.s 53)⟩ .done) .stop))) (.alt true ⟨some 52, none, .bslice false 3 1 [(.s 51)]⟩ (.alt false ⟨some 49, none, .call 33 [(.s 48)]⟩ (.take ⟨some 55, none, .mv (.c (.int .i64 0))⟩ (.alt false ⟨some 53, none, .append 3 1 8 (.s 49) (.s 52)⟩ (.take ⟨some 54, none, .len (.s 53)⟩ .done) .stop)) (.alt true ⟨some 55, none, .mv (.c (.int .i64 0))⟩ (.alt false ⟨some 49, none, .call 33 [(.s 48)]⟩ (.alt false ⟨some 53, none, .append 3 1 8 (.s 49) (.s 52)⟩ (.take ⟨some 54, none, .len (.s 53)⟩ .done) .stop) .stop) .stop)) (.alt true ⟨some 55, none, .mv (.c (.int .i64 0))⟩ (.alt false ⟨some 49, none, .call 33 [(.s 48)]⟩ (.take ⟨some 52, none, .bslice false 3 1 [(.s 51)]⟩ (.alt false ⟨some 53, none, .append 3 1 8 (.s 49) (.s 52)⟩ (.take ⟨some 54, none, .len (.s 53)⟩ .done) .stop)) (.alt true ⟨some 52, none, .bslice false 3 1 [(.s 51)]⟩ (.alt false ⟨some 49, none, .call 33 [(.s 48)]⟩ (.alt false ⟨some 53, none, .append 3 1 8 (.s 49) (.s 52)⟩ (.take ⟨some 54, none, .len (.s 53)⟩ .done) .stop) .stop) .stop)) .stop))) (.alt true ⟨some 55, none, .mv (.c (.int .i64 0))⟩ (.alt false ⟨some 49, none, .call 33 [(.s 48)]⟩ (.take ⟨some 51, none, .load false 1 (.s 50)⟩ (.take ⟨some 52, none, .bslice false 3 1 [(.s 51)]⟩ (.alt false ⟨some 53, none, .append 3 1 8 (.s 49) (.s 52)⟩ (.take ⟨some 54, none, .len (.s 53)⟩ .done) .stop))) (.alt true ⟨some 51, none, .load false 1 (.s 50)⟩ (.alt false ⟨some 49, none, .call 33 [(.s 48)]⟩ (.take ⟨some 52, none, .bslice false 3 1 [(.s 51)]⟩ (.alt false ⟨some 53, none, .append 3 1 8 (.s 49) (.s 52)⟩ (.take ⟨some 54, none, .len (.s 53)⟩ .done) .stop)) (.alt true ⟨some 52, none, .bslice false 3 1 [(.s 51)]⟩ (.alt false ⟨some 49, none, .call 33 [(.s 48)]⟩ (.alt false ⟨some 53, none, .append 3 1 8 (.s 49) (.s 52)⟩ (.take ⟨some 54, none, .len (.s 53)⟩ .done) .stop) .stop) .stop)) .stop)) .stop))) (.alt true ⟨some 55, none, .mv (.c (.int .i64 0))⟩ (.alt false ⟨some 49, none, .call 33 [(.s 48)]⟩ (.take ⟨some 50, none, .faddr 2 (.s 8)⟩ (.take ⟨some 51, none, .load false 1 (.s 50)⟩ (.take ⟨some 52, none, .bslice false 3 1 [(.s 51)]⟩ (.alt false ⟨some 53, none, .append 3 1 8 (.s 49) (.s 52)⟩ (.take ⟨some 54, none, .len (.s 53)⟩ .done) .stop)))) (.alt true ⟨some 50, none, .faddr 2 (.s 8)⟩ (.alt false ⟨some 49, none, .call 33 [(.s 48)]⟩ (.take ⟨some 51, none, .load false 1 (.s 50)⟩ (.take ⟨some 52, none, .bslice false 3 1 [(.s 51)]⟩ (.alt false ⟨some 53, none, .append 3 1 8 (.s 49) (.s 52)⟩ (.take ⟨some 54, none, .len (.s 53)⟩ .done) .stop))) (.alt true ⟨some 51, none, .load false 1 (.s 50)⟩ (.alt false ⟨some 49, none, .call 33 [(.s 48)]⟩ (.take ⟨some 52, none, .bslice false 3 1 [(.s 51)]⟩ (.alt false ⟨some 53, none, .append 3 1 8 (.s 49) (.s 52)⟩ (.take ⟨some 54, none, .len (.s 53)⟩ .done) .stop)) (.alt true ⟨some 52, none, .bslice false 3 1 [(.s 51)]⟩ (.alt false ⟨some 49, none, .call 33 [(.s 48)]⟩ (.alt false ⟨some 53, none, .append 3 1 8 (.s 49) (.s 52)⟩ (.take ⟨some 54, none, .len (.s 53)⟩ .done) .stop) .stop) .stop)) .stop)) .stop)) .stop))))) [8, 46, 47, 48, 49, 50, 51, 52] [8]) vc34_12)
noncomputable def vc34_14 : VC := (.seq (.ops [⟨some 6, none, .mv (.c (.int .i64 3))⟩] [3, 8, 28, 29, 30, 46] [3, 8]) .ret)
noncomputable def vc34_15 : VC := (.cond (.s 46) vc34_14 .skip)
noncomputable def vc34_16 : VC := (.seq (.seq (.ops [⟨some 43, none, .faddr 1 (.s 8)⟩, ⟨some 44, none, .load false 1 (.s 43)⟩, ⟨some 45, none, .len (.s 44)⟩, ⟨some 46, none, .bin .gtr (.s 45) (.c (.int .i64 4))⟩] [42, 43, 44, 45] []) vc34_15) vc34_13)
noncomputable def vc34_17 : VC := (.seq (.ops [⟨some 6, none, .mv (.c (.int .i64 1))⟩] [3, 8, 28, 29, 30, 42] [3, 8]) .ret)
noncomputable def vc34_18 : VC := (.cond (.s 42) vc34_17 .skip)
noncomputable def vc34_19 : VC := (.seq (.seq (.ops [⟨some 34, none, .faddr 0 (.s 8)⟩, ⟨some 35, none, .load false 1 (.s 34)⟩, ⟨some 36, none, .call 42 [(.s 35)]⟩, ⟨some 37, none, .un .not (.s 36)⟩, ⟨some 38, none, .mv (.s 37)⟩, ⟨some 39, some (38, false), .faddr 0 (.s 8)⟩, ⟨some 40, some (38, false), .load false 1 (.s 39)⟩, ⟨some 41, some (38, false), .call 43 [(.s 40)]⟩, ⟨some 42, none, .pick (.s 38) (.c (.bool true)) (.s 41)⟩] [34, 35, 36, 37, 38, 39, 40, 41] []) vc34_18) vc34_16)
noncomputable def vc34_20 : VC := (.seq (.ops [⟨some 32, none, .iaddr 3 (.s 28) (.s 30)⟩, ⟨some 33, none, .load true 3 (.s 32)⟩, ⟨some 8, none, .alloc 39 [(.str ⟨#[]⟩), .nilS, (.int .i64 0)]⟩, ⟨none, none, .store 3 (.s 8) (.s 33)⟩] [31, 32, 33] []) vc34_19)
noncomputable def vc34_21 : VC := (.seq (.block 1 vc34_20) vc34_4)
noncomputable def vc34_22 : VC := (.seq (.cond (.s 31) .skip (.exit 0)) vc34_21)
noncomputable def vc34_l0 : VC := (.seq (.ops [⟨some 31, none, .bin .lss (.s 30) (.s 29)⟩] [] []) vc34_22)
noncomputable def vc34_23 : VC := (.block 0 (.loop vc34_l0))
noncomputable def vc34_24 : VC := (.seq (.seq (.ops [⟨some 27, none, .faddr 1 (.s 3)⟩, ⟨some 28, none, .load false 1 (.s 27)⟩, ⟨some 29, none, .len (.s 28)⟩, ⟨some 30, none, .mv (.c (.int .i64 0))⟩] [26, 27] []) vc34_23) vc34_3)
noncomputable def vc34_25 : VC := (.seq (.ops [⟨some 6, none, .mv (.c (.int .i64 3))⟩] [3, 26] [3]) .ret)
noncomputable def vc34_26 : VC := (.cond (.s 26) vc34_25 .skip)
noncomputable def vc34_27 : VC := (.seq (.seq (.ops [⟨some 11, none, .faddr 0 (.s 3)⟩, ⟨some 12, none, .load false 1 (.s 11)⟩, ⟨some 13, none, .bin .lss (.s 12) (.c (.int .i64 0))⟩, ⟨some 14, none, .mv (.s 13)⟩, ⟨some 15, some (14, false), .faddr 0 (.s 3)⟩, ⟨some 16, some (14, false), .load false 1 (.s 15)⟩, ⟨some 17, some (14, false), .mv (.s 1)⟩, ⟨some 18, some (14, false), .bin .gtr (.s 16) (.s 17)⟩, ⟨some 19, none, .pick (.s 14) (.c (.bool true)) (.s 18)⟩, ⟨some 20, none, .mv (.s 19)⟩, ⟨some 21, some (20, false), .faddr 1 (.s 3)⟩, ⟨some 22, some (20, false), .load false 1 (.s 21)⟩, ⟨some 23, some (20, false), .len (.s 22)⟩, ⟨some 24, some (20, false), .mv (.s 2)⟩, ⟨some 25, some (20, false), .bin .gtr (.s 23) (.s 24)⟩, ⟨some 26, none, .pick (.s 20) (.c (.bool true)) (.s 25)⟩] [1, 2, 11, 12, 13, 14, 15, 16, 17, 18, 19, 20, 21, 22, 23, 24, 25] []) vc34_26) vc34_24)
noncomputable def vc34 : VC := (.seq (.ops [⟨some 3, none, .box 25 (.s 0)⟩, ⟨some 6, none, .mv (.c (.int .i64 0))⟩] [0, 6] []) vc34_27)
theorem cc34 : f34.body.bind (cCode X34) = some vc34 := by kernel_rfl
theorem cr34 : f34.results.toList.mapM (cRes prog) = some [(.mv (.s 6))] := by kernel_rfl
/-! ### metaprune/term.within -/
noncomputable def X35 : Cx := { P := prog, N := 23, own := fun d => List.contains [] d, loud := fun d => List.contains [] d, kl := fun i => List.getD [([0, 4], []), ([7, 8], []), ([2, 9], [2]), ([], []), ([13, 14, 15], []), ([16], []), ([6, 17, 18, 19, 20], [6]), ([21], []), ([1, 6, 10, 11, 12, 13, 17, 22], [6])] i ([], []) }
noncomputable def vc35_0 : VC := (.seq (.ops [⟨some 22, none, .mv (.s 1)⟩, ⟨some 4, none, .mv (.s 22)⟩] [1, 6, 10, 11, 12, 13, 17, 22] [6]) .ret)
noncomputable def vc35_1 : VC := (.ops [⟨some 21, none, .bin .add (.s 12) (.c (.int .i64 1))⟩, ⟨some 12, none, .mv (.s 21)⟩] [21] [])
noncomputable def vc35_2 : VC := (.ops [⟨some 18, none, .load true 2 (.s 6)⟩, ⟨some 19, none, .mv (.s 1)⟩, ⟨some 20, none, .call 35 [(.s 18), (.s 19)]⟩, ⟨some 1, none, .mv (.s 20)⟩] [6, 17, 18, 19, 20] [6])
noncomputable def vc35_3 : VC := (.cond (.s 17) (.exit 0) .skip)
noncomputable def vc35_4 : VC := (.seq (.seq (.ops [⟨some 16, none, .mv (.s 1)⟩, ⟨some 17, none, .bin .lss (.s 16) (.c (.int .i64 0))⟩] [16] []) vc35_3) vc35_2)
noncomputable def vc35_5 : VC := (.seq (.ops [⟨some 14, none, .iaddr 2 (.s 10) (.s 12)⟩, ⟨some 15, none, .load true 2 (.s 14)⟩, ⟨some 6, none, .alloc 30 [(.str ⟨#[]⟩), .nilS]⟩, ⟨none, none, .store 2 (.s 6) (.s 15)⟩] [13, 14, 15] []) vc35_4)
noncomputable def vc35_6 : VC := (.seq (.block 1 vc35_5) vc35_1)
noncomputable def vc35_7 : VC := (.seq (.cond (.s 13) .skip (.exit 0)) vc35_6)
noncomputable def vc35_l0 : VC := (.seq (.ops [⟨some 13, none, .bin .lss (.s 12) (.s 11)⟩] [] []) vc35_7)
noncomputable def vc35_8 : VC := (.block 0 (.loop vc35_l0))
noncomputable def vc35_9 : VC := (.seq (.seq (.ops [⟨some 9, none, .faddr 1 (.s 2)⟩, ⟨some 10, none, .load false 1 (.s 9)⟩, ⟨some 11, none, .len (.s 10)⟩, ⟨some 12, none, .mv (.c (.int .i64 0))⟩] [2, 9] [2]) vc35_8) vc35_0)
noncomputable def vc35_10 : VC := (.seq (.ops [⟨some 7, none, .mv (.s 1)⟩, ⟨some 8, none, .bin .sub (.s 7) (.c (.int .i64 1))⟩, ⟨some 1, none, .mv (.s 8)⟩] [7, 8] []) vc35_9)
noncomputable def vc35 : VC := (.seq (.ops [⟨some 2, none, .box 30 (.s 0)⟩, ⟨some 4, none, .mv (.c (.int .i64 0))⟩] [0, 4] []) vc35_10)
theorem cc35 : f35.body.bind (cCode X35) = some vc35 := by kernel_rfl
theorem cr35 : f35.results.toList.mapM (cRes prog) = some [(.mv (.s 4))] := by kernel_rfl
/-! ### metaprune/term.check -/
noncomputable def X36 : Cx := { P := prog, N := 32, own := fun d => List.contains [] d, loud := fun d => List.contains [] d, kl := fun i => List.getD [([0, 2], []), ([6, 7, 8], []), ([1, 9], [1]), ([9, 10, 11, 12, 13, 14, 15, 16, 17], []), ([1, 18], [1]), ([1, 18, 19], [1]), ([], []), ([23, 24, 25], []), ([4, 26, 27], [4]), ([28], []), ([5, 20, 21, 22, 29, 30], []), ([5, 29, 31], []), ([20, 21, 22, 23], [])] i ([], []) }
noncomputable def vc36_0 : VC := (.seq (.ops [⟨some 2, none, .mv (.c (.int .i64 0))⟩] [20, 21, 22, 23] []) .ret)
noncomputable def vc36_1 : VC := (.ops [⟨some 31, none, .bin .add (.s 22) (.c (.int .i64 1))⟩, ⟨some 22, none, .mv (.s 31)⟩] [5, 29, 31] [])
noncomputable def vc36_2 : VC := (.seq (.ops [⟨some 30, none, .mv (.s 5)⟩, ⟨some 2, none, .mv (.s 30)⟩] [5, 20, 21, 22, 29, 30] []) .ret)
noncomputable def vc36_3 : VC := (.cond (.s 29) vc36_2 .skip)
noncomputable def vc36_4 : VC := (.seq (.ops [⟨some 28, none, .mv (.s 5)⟩, ⟨some 29, none, .bin .neq (.s 28) (.c (.int .i64 0))⟩] [28] []) vc36_3)
noncomputable def vc36_5 : VC := (.seq (.ops [⟨some 26, none, .load true 2 (.s 4)⟩, ⟨some 27, none, .call 36 [(.s 26)]⟩, ⟨some 5, none, .mv (.s 27)⟩] [4, 26, 27] [4]) vc36_4)
noncomputable def vc36_6 : VC := (.seq (.ops [⟨some 24, none, .iaddr 2 (.s 20) (.s 22)⟩, ⟨some 25, none, .load true 2 (.s 24)⟩, ⟨some 4, none, .alloc 30 [(.str ⟨#[]⟩), .nilS]⟩, ⟨none, none, .store 2 (.s 4) (.s 25)⟩] [23, 24, 25] []) vc36_5)
noncomputable def vc36_7 : VC := (.seq (.block 1 vc36_6) vc36_1)
noncomputable def vc36_8 : VC := (.seq (.cond (.s 23) .skip (.exit 0)) vc36_7)
noncomputable def vc36_l0 : VC := (.seq (.ops [⟨some 23, none, .bin .lss (.s 22) (.s 21)⟩] [] []) vc36_8)
noncomputable def vc36_9 : VC := (.block 0 (.loop vc36_l0))
noncomputable def vc36_10 : VC := (.seq (.seq (.ops [⟨some 19, none, .faddr 1 (.s 1)⟩, ⟨some 20, none, .load false 1 (.s 19)⟩, ⟨some 21, none, .len (.s 20)⟩, ⟨some 22, none, .mv (.c (.int .i64 0))⟩] [1, 18, 19] [1]) vc36_9) vc36_0)
noncomputable def vc36_11 : VC := (.seq (.ops [⟨some 2, none, .mv (.c (.int .i64 2))⟩] [1, 18] [1]) .ret)
noncomputable def vc36_12 : VC := (.cond (.s 18) vc36_11 .skip)
noncomputable def vc36_13 : VC := (.seq (.seq (.ops [⟨some 10, none, .faddr 0 (.s 1)⟩, ⟨some 11, none, .load false 1 (.s 10)⟩, ⟨some 12, none, .call 43 [(.s 11)]⟩, ⟨some 13, none, .mv (.s 12)⟩, ⟨some 14, some (13, true), .faddr 1 (.s 1)⟩, ⟨some 15, some (13, true), .load false 1 (.s 14)⟩, ⟨some 16, some (13, true), .len (.s 15)⟩, ⟨some 17, some (13, true), .bin .gtr (.s 16) (.c (.int .i64 0))⟩, ⟨some 18, none, .pick (.s 13) (.s 17) (.c (.bool false))⟩] [9, 10, 11, 12, 13, 14, 15, 16, 17] []) vc36_12) vc36_10)
noncomputable def vc36_14 : VC := (.seq (.ops [⟨some 2, none, .mv (.c (.int .i64 1))⟩] [1, 9] [1]) .ret)
noncomputable def vc36_15 : VC := (.cond (.s 9) vc36_14 .skip)
noncomputable def vc36_16 : VC := (.seq (.seq (.ops [⟨some 6, none, .faddr 0 (.s 1)⟩, ⟨some 7, none, .load false 1 (.s 6)⟩, ⟨some 8, none, .call 42 [(.s 7)]⟩, ⟨some 9, none, .un .not (.s 8)⟩] [6, 7, 8] []) vc36_15) vc36_13)
noncomputable def vc36 : VC := (.seq (.ops [⟨some 1, none, .box 30 (.s 0)⟩, ⟨some 2, none, .mv (.c (.int .i64 0))⟩] [0, 2] []) vc36_16)
theorem cc36 : f36.body.bind (cCode X36) = some vc36 := by kernel_rfl
theorem cr36 : f36.results.toList.mapM (cRes prog) = some [(.mv (.s 2))] := by kernel_rfl
/-! ### metaprune/term.vars -/
noncomputable def X37 : Cx := { P := prog, N := 34, own := fun d => List.contains [] d, loud := fun d => List.contains [] d, kl := fun i => List.getD [([0, 4], []), ([7, 8, 9, 10, 11, 12, 13, 14, 15], []), ([16, 17, 18, 19, 20, 21], []), ([2, 16, 22], [2]), ([], []), ([26, 27, 28], []), ([6, 29, 30, 31], [6]), ([32], []), ([1, 23, 24, 25, 26, 33], [])] i ([], []) }
noncomputable def vc37_0 : VC := (.seq (.ops [⟨some 33, none, .mv (.s 1)⟩, ⟨some 4, none, .mv (.s 33)⟩] [1, 23, 24, 25, 26, 33] []) .ret)
noncomputable def vc37_1 : VC := (.ops [⟨some 32, none, .bin .add (.s 25) (.c (.int .i64 1))⟩, ⟨some 25, none, .mv (.s 32)⟩] [32] [])
noncomputable def vc37_2 : VC := (.ops [⟨some 29, none, .load true 2 (.s 6)⟩, ⟨some 30, none, .mv (.s 1)⟩, ⟨some 31, none, .call 37 [(.s 29), (.s 30)]⟩, ⟨some 1, none, .mv (.s 31)⟩] [6, 29, 30, 31] [6])
noncomputable def vc37_3 : VC := (.seq (.ops [⟨some 27, none, .iaddr 2 (.s 23) (.s 25)⟩, ⟨some 28, none, .load true 2 (.s 27)⟩, ⟨some 6, none, .alloc 30 [(.str ⟨#[]⟩), .nilS]⟩, ⟨none, none, .store 2 (.s 6) (.s 28)⟩] [26, 27, 28] []) vc37_2)
noncomputable def vc37_4 : VC := (.seq (.block 1 vc37_3) vc37_1)
noncomputable def vc37_5 : VC := (.seq (.cond (.s 26) .skip (.exit 0)) vc37_4)
noncomputable def vc37_l0 : VC := (.seq (.ops [⟨some 26, none, .bin .lss (.s 25) (.s 24)⟩] [] []) vc37_5)
noncomputable def vc37_6 : VC := (.block 0 (.loop vc37_l0))
noncomputable def vc37_7 : VC := (.seq (.seq (.ops [⟨some 22, none, .faddr 1 (.s 2)⟩, ⟨some 23, none, .load false 1 (.s 22)⟩, ⟨some 24, none, .len (.s 23)⟩, ⟨some 25, none, .mv (.c (.int .i64 0))⟩] [2, 16, 22] [2]) vc37_6) vc37_0)
noncomputable def vc37_8 : VC := (.ops [⟨some 17, none, .mv (.s 1)⟩, ⟨some 18, none, .faddr 0 (.s 2)⟩, ⟨some 19, none, .load false 1 (.s 18)⟩, ⟨some 20, none, .bslice false 9 1 [(.s 19)]⟩, ⟨some 21, none, .append 9 1 16 (.s 17) (.s 20)⟩, ⟨some 1, none, .mv (.s 21)⟩] [16, 17, 18, 19, 20, 21] [])
noncomputable def vc37_9 : VC := (.cond (.s 16) vc37_8 .skip)
noncomputable def vc37_10 : VC := (.seq (.seq (.ops [⟨some 7, none, .faddr 0 (.s 2)⟩, ⟨some 8, none, .load false 1 (.s 7)⟩, ⟨some 9, none, .call 43 [(.s 8)]⟩, ⟨some 10, none, .mv (.s 9)⟩, ⟨some 11, some (10, true), .mv (.s 1)⟩, ⟨some 12, some (10, true), .faddr 0 (.s 2)⟩, ⟨some 13, some (10, true), .load false 1 (.s 12)⟩, ⟨some 14, some (10, true), .call 46 [(.s 11), (.s 13)]⟩, ⟨some 15, some (10, true), .un .not (.s 14)⟩, ⟨some 16, none, .pick (.s 10) (.s 15) (.c (.bool false))⟩] [7, 8, 9, 10, 11, 12, 13, 14, 15] []) vc37_9) vc37_7)
noncomputable def vc37 : VC := (.seq (.ops [⟨some 2, none, .box 30 (.s 0)⟩, ⟨some 4, none, .mv (.c .nilS)⟩] [0, 4] []) vc37_10)
theorem cc37 : f37.body.bind (cCode X37) = some vc37 := by kernel_rfl
theorem cr37 : f37.results.toList.mapM (cRes prog) = some [(.mv (.s 4))] := by kernel_rfl
/-! ### metaprune/term.Show -/
noncomputable def X38 : Cx := { P := prog, N := 7, own := fun d => List.contains [] d, loud := fun d => List.contains [] d, kl := fun i => List.getD [([0, 2], []), ([], []), ([1, 4, 5], [1]), ([3, 6], [3])] i ([], []) }
noncomputable def vc38_0 : VC := (.seq (.ops [⟨some 6, none, .call 48 [(.s 3)]⟩, ⟨some 2, none, .mv (.s 6)⟩] [3, 6] [3]) .ret)
noncomputable def vc38_1 : VC := (.seq (.ops [⟨some 4, none, .load true 2 (.s 1)⟩, ⟨some 5, none, .call 47 [(.s 3), (.s 4)]⟩] [1, 4, 5] [1]) vc38_0)
noncomputable def vc38_2 : VC := (.seq (.ops [⟨some 3, none, .alloc 97 [.nilPtr, .nilS]⟩] [] []) vc38_1)
noncomputable def vc38 : VC := (.seq (.ops [⟨some 1, none, .box 30 (.s 0)⟩, ⟨some 2, none, .mv (.c (.str ⟨#[]⟩))⟩] [0, 2] []) vc38_2)
theorem cc38 : f38.body.bind (cCode X38) = some vc38 := by kernel_rfl
theorem cr38 : f38.results.toList.mapM (cRes prog) = some [(.mv (.s 2))] := by kernel_rfl
/-! ### metaprune/term.Name -/
noncomputable def X42 : Cx := { P := prog, N := 33, own := fun d => List.contains [] d, loud := fun d => List.contains [] d, kl := fun i => List.getD [([2], []), ([4, 5, 6, 7, 8, 9, 10, 11, 12, 13, 14, 15, 16, 17, 18, 19, 20], []), ([0, 21], []), ([21, 22], []), ([], []), ([25, 26], []), ([3, 27, 28, 29, 30], []), ([0, 23, 24, 31], []), ([31, 32], []), ([0, 23, 24, 25], [])] i ([], []) }
noncomputable def vc42_0 : VC := (.seq (.ops [⟨some 2, none, .mv (.c (.bool true))⟩] [0, 23, 24, 25] []) .ret)
noncomputable def vc42_1 : VC := (.ops [⟨some 32, none, .bin .add (.s 24) (.c (.int .i64 1))⟩, ⟨some 24, none, .mv (.s 32)⟩] [31, 32] [])
noncomputable def vc42_2 : VC := (.seq (.ops [⟨some 2, none, .mv (.c (.bool false))⟩] [0, 23, 24, 31] []) .ret)
noncomputable def vc42_3 : VC := (.cond (.s 31) vc42_2 .skip)
noncomputable def vc42_4 : VC := (.seq (.ops [⟨some 27, none, .mv (.s 0)⟩, ⟨some 28, none, .mv (.s 3)⟩, ⟨some 29, none, .sidx (.s 27) (.s 28)⟩, ⟨some 30, none, .call 51 [(.s 29)]⟩, ⟨some 31, none, .un .not (.s 30)⟩] [3, 27, 28, 29, 30] []) vc42_3)
noncomputable def vc42_5 : VC := (.seq (.ops [⟨some 26, none, .mv (.s 24)⟩, ⟨some 3, none, .mv (.s 26)⟩] [25, 26] []) vc42_4)
noncomputable def vc42_6 : VC := (.seq (.block 1 vc42_5) vc42_1)
noncomputable def vc42_7 : VC := (.seq (.cond (.s 25) .skip (.exit 0)) vc42_6)
noncomputable def vc42_l0 : VC := (.seq (.ops [⟨some 25, none, .bin .lss (.s 24) (.s 23)⟩] [] []) vc42_7)
noncomputable def vc42_8 : VC := (.block 0 (.loop vc42_l0))
noncomputable def vc42_9 : VC := (.seq (.seq (.ops [⟨some 22, none, .mv (.s 0)⟩, ⟨some 23, none, .slen (.s 22)⟩, ⟨some 24, none, .mv (.c (.int .i64 0))⟩] [21, 22] []) vc42_8) vc42_0)
noncomputable def vc42_10 : VC := (.seq (.ops [⟨some 2, none, .mv (.c (.bool false))⟩] [0, 21] []) .ret)
noncomputable def vc42_11 : VC := (.cond (.s 21) vc42_10 .skip)
noncomputable def vc42_12 : VC := (.seq (.seq (.ops [⟨some 4, none, .mv (.s 0)⟩, ⟨some 5, none, .slen (.s 4)⟩, ⟨some 6, none, .bin .lss (.s 5) (.c (.int .i64 1))⟩, ⟨some 7, none, .mv (.s 6)⟩, ⟨some 8, some (7, false), .mv (.s 0)⟩, ⟨some 9, some (7, false), .slen (.s 8)⟩, ⟨some 10, some (7, false), .bin .gtr (.s 9) (.c (.int .i64 8))⟩, ⟨some 11, none, .pick (.s 7) (.c (.bool true)) (.s 10)⟩, ⟨some 12, none, .mv (.s 11)⟩, ⟨some 13, some (12, false), .mv (.s 0)⟩, ⟨some 14, some (12, false), .sidx (.s 13) (.c (.int .i64 0))⟩, ⟨some 15, some (12, false), .bin .geq (.s 14) (.c (.int .u8 48))⟩, ⟨some 16, some (12, false), .mv (.s 15)⟩, ⟨some 17, some (16, true), .mv (.s 0)⟩, ⟨some 18, some (16, true), .sidx (.s 17) (.c (.int .i64 0))⟩, ⟨some 19, some (16, true), .bin .leq (.s 18) (.c (.int .u8 57))⟩, ⟨some 20, some (12, false), .pick (.s 16) (.s 19) (.c (.bool false))⟩, ⟨some 21, none, .pick (.s 12) (.c (.bool true)) (.s 20)⟩] [4, 5, 6, 7, 8, 9, 10, 11, 12, 13, 14, 15, 16, 17, 18, 19, 20] []) vc42_11) vc42_9)
noncomputable def vc42 : VC := (.seq (.ops [⟨some 2, none, .mv (.c (.bool false))⟩] [2] []) vc42_12)
theorem cc42 : f42.body.bind (cCode X42) = some vc42 := by kernel_rfl
theorem cr42 : f42.results.toList.mapM (cRes prog) = some [(.mv (.s 2))] := by kernel_rfl
/-! ### metaprune/term.Variable -/
noncomputable def X43 : Cx := { P := prog, N := 15, own := fun d => List.contains [] d, loud := fun d => List.contains [] d, kl := fun i => List.getD [([2], []), ([0, 3, 4, 5, 6, 7, 8, 9, 10, 11, 12, 13, 14], [])] i ([], []) }
noncomputable def vc43_0 : VC := (.seq (.ops [⟨some 3, none, .mv (.s 0)⟩, ⟨some 4, none, .bin .neq (.s 3) (.c (.str ⟨#[]⟩))⟩, ⟨some 5, none, .mv (.s 4)⟩, ⟨some 6, some (5, true), .mv (.s 0)⟩, ⟨some 7, some (5, true), .sidx (.s 6) (.c (.int .i64 0))⟩, ⟨some 8, some (5, true), .bin .geq (.s 7) (.c (.int .u8 65))⟩, ⟨some 9, none, .pick (.s 5) (.s 8) (.c (.bool false))⟩, ⟨some 10, none, .mv (.s 9)⟩, ⟨some 11, some (10, true), .mv (.s 0)⟩, ⟨some 12, some (10, true), .sidx (.s 11) (.c (.int .i64 0))⟩, ⟨some 13, some (10, true), .bin .leq (.s 12) (.c (.int .u8 90))⟩, ⟨some 14, none, .pick (.s 10) (.s 13) (.c (.bool false))⟩, ⟨some 2, none, .mv (.s 14)⟩] [0, 3, 4, 5, 6, 7, 8, 9, 10, 11, 12, 13, 14] []) .ret)
noncomputable def vc43 : VC := (.seq (.ops [⟨some 2, none, .mv (.c (.bool false))⟩] [2] []) vc43_0)
theorem cc43 : f43.body.bind (cCode X43) = some vc43 := by kernel_rfl
theorem cr43 : f43.results.toList.mapM (cRes prog) = some [(.mv (.s 2))] := by kernel_rfl
/-! ### slices.ContainsFunc[[]int,int] -/
noncomputable def X44 : Cx := { P := prog, N := 9, own := fun d => List.contains [] d, loud := fun d => List.contains [] d, kl := fun i => List.getD [([4], []), ([0, 1, 5, 6, 7, 8], [])] i ([], []) }
noncomputable def vc44_0 : VC := (.seq (.ops [⟨some 5, none, .mv (.s 0)⟩, ⟨some 6, none, .mv (.s 1)⟩, ⟨some 7, none, .call 52 [(.s 5), (.s 6)]⟩, ⟨some 8, none, .bin .geq (.s 7) (.c (.int .i64 0))⟩, ⟨some 4, none, .mv (.s 8)⟩] [0, 1, 5, 6, 7, 8] []) .ret)
noncomputable def vc44 : VC := (.seq (.ops [⟨some 4, none, .mv (.c (.bool false))⟩] [4] []) vc44_0)
theorem cc44 : f44.body.bind (cCode X44) = some vc44 := by kernel_rfl
theorem cr44 : f44.results.toList.mapM (cRes prog) = some [(.mv (.s 4))] := by kernel_rfl
/-! ### metaprune/auto.Bounded$1 -/
noncomputable def X45 : Cx := { P := prog, N := 12, own := fun d => List.contains [] d, loud := fun d => List.contains [] d, kl := fun i => List.getD [([3], []), ([0, 1, 4, 5, 6, 7, 8, 9, 10, 11], [])] i ([], []) }
noncomputable def vc45_0 : VC := (.seq (.ops [⟨some 4, none, .mv (.s 0)⟩, ⟨some 5, none, .bin .lss (.s 4) (.c (.int .i64 0))⟩, ⟨some 6, none, .mv (.s 5)⟩, ⟨some 7, some (6, false), .mv (.s 0)⟩, ⟨some 8, some (6, false), .faddr 0 (.s 1)⟩, ⟨some 9, some (6, false), .load false 1 (.s 8)⟩, ⟨some 10, some (6, false), .bin .geq (.s 7) (.s 9)⟩, ⟨some 11, none, .pick (.s 6) (.c (.bool true)) (.s 10)⟩, ⟨some 3, none, .mv (.s 11)⟩] [0, 1, 4, 5, 6, 7, 8, 9, 10, 11] []) .ret)
noncomputable def vc45 : VC := (.seq (.ops [⟨some 3, none, .mv (.c (.bool false))⟩] [3] []) vc45_0)
theorem cc45 : f45.body.bind (cCode X45) = some vc45 := by kernel_rfl
theorem cr45 : f45.results.toList.mapM (cRes prog) = some [(.mv (.s 3))] := by kernel_rfl
/-! ### slices.Contains[[]string,string] -/
noncomputable def X46 : Cx := { P := prog, N := 9, own := fun d => List.contains [] d, loud := fun d => List.contains [] d, kl := fun i => List.getD [([4], []), ([0, 1, 5, 6, 7, 8], [])] i ([], []) }
noncomputable def vc46_0 : VC := (.seq (.ops [⟨some 5, none, .mv (.s 0)⟩, ⟨some 6, none, .mv (.s 1)⟩, ⟨some 7, none, .call 53 [(.s 5), (.s 6)]⟩, ⟨some 8, none, .bin .geq (.s 7) (.c (.int .i64 0))⟩, ⟨some 4, none, .mv (.s 8)⟩] [0, 1, 5, 6, 7, 8] []) .ret)
noncomputable def vc46 : VC := (.seq (.ops [⟨some 4, none, .mv (.c (.bool false))⟩] [4] []) vc46_0)
theorem cc46 : f46.body.bind (cCode X46) = some vc46 := by kernel_rfl
theorem cr46 : f46.results.toList.mapM (cRes prog) = some [(.mv (.s 4))] := by kernel_rfl
/-! ### metaprune/term.show -/
noncomputable def X47 : Cx := { P := prog, N := 33, own := fun d => List.contains [] d, loud := fun d => List.contains [] d, kl := fun i => List.getD [([1], []), ([6, 7, 8, 9], []), ([10], []), ([], []), ([14, 15, 16, 17], []), ([4, 18, 19, 20, 21, 22], []), ([5, 23, 24, 25], [5]), ([26], []), ([3, 11, 12, 13, 14, 27, 28, 29], [3]), ([0, 30, 31, 32], [])] i ([], []) }
noncomputable def vc47_0 : VC := (.ops [⟨some 31, none, .mv (.s 0)⟩, ⟨some 32, none, .call 55 [(.s 31), (.c (.int .u8 41))]⟩] [0, 30, 31, 32] [])
noncomputable def vc47_1 : VC := (.cond (.s 30) vc47_0 .skip)
noncomputable def vc47_2 : VC := (.seq (.ops [⟨some 27, none, .faddr 1 (.s 3)⟩, ⟨some 28, none, .load false 1 (.s 27)⟩, ⟨some 29, none, .len (.s 28)⟩, ⟨some 30, none, .bin .gtr (.s 29) (.c (.int .i64 0))⟩] [3, 11, 12, 13, 14, 27, 28, 29] [3]) vc47_1)
noncomputable def vc47_3 : VC := (.ops [⟨some 26, none, .bin .add (.s 13) (.c (.int .i64 1))⟩, ⟨some 13, none, .mv (.s 26)⟩] [26] [])
noncomputable def vc47_4 : VC := (.ops [⟨some 23, none, .mv (.s 0)⟩, ⟨some 24, none, .load true 2 (.s 5)⟩, ⟨some 25, none, .call 47 [(.s 23), (.s 24)]⟩] [5, 23, 24, 25] [5])
noncomputable def vc47_5 : VC := (.seq (.ops [⟨some 18, none, .mv (.s 0)⟩, ⟨some 19, none, .mv (.s 4)⟩, ⟨some 20, none, .minmax false (.s 19) (.c (.int .i64 1))⟩, ⟨some 21, none, .sidx (.c (.str ⟨#[40, 44]⟩)) (.s 20)⟩, ⟨some 22, none, .call 55 [(.s 18), (.s 21)]⟩] [4, 18, 19, 20, 21, 22] []) vc47_4)
noncomputable def vc47_6 : VC := (.seq (.ops [⟨some 15, none, .mv (.s 13)⟩, ⟨some 16, none, .iaddr 2 (.s 11) (.s 13)⟩, ⟨some 17, none, .load true 2 (.s 16)⟩, ⟨some 5, none, .alloc 30 [(.str ⟨#[]⟩), .nilS]⟩, ⟨some 4, none, .mv (.s 15)⟩, ⟨none, none, .store 2 (.s 5) (.s 17)⟩] [14, 15, 16, 17] []) vc47_5)
noncomputable def vc47_7 : VC := (.seq (.block 1 vc47_6) vc47_3)
noncomputable def vc47_8 : VC := (.seq (.cond (.s 14) .skip (.exit 0)) vc47_7)
noncomputable def vc47_l0 : VC := (.seq (.ops [⟨some 14, none, .bin .lss (.s 13) (.s 12)⟩] [] []) vc47_8)
noncomputable def vc47_9 : VC := (.block 0 (.loop vc47_l0))
noncomputable def vc47_10 : VC := (.seq (.seq (.ops [⟨some 10, none, .faddr 1 (.s 3)⟩, ⟨some 11, none, .load false 1 (.s 10)⟩, ⟨some 12, none, .len (.s 11)⟩, ⟨some 13, none, .mv (.c (.int .i64 0))⟩] [10] []) vc47_9) vc47_2)
noncomputable def vc47_11 : VC := (.seq (.ops [⟨some 6, none, .mv (.s 0)⟩, ⟨some 7, none, .faddr 0 (.s 3)⟩, ⟨some 8, none, .load false 1 (.s 7)⟩, ⟨some 9, none, .call 54 [(.s 6), (.s 8)]⟩] [6, 7, 8, 9] []) vc47_10)
noncomputable def vc47 : VC := (.seq (.ops [⟨some 3, none, .box 30 (.s 1)⟩] [1] []) vc47_11)
theorem cc47 : f47.body.bind (cCode X47) = some vc47 := by kernel_rfl
theorem cr47 : f47.results.toList.mapM (cRes prog) = some [] := by kernel_rfl
/-! ### metaprune/term.letter -/
noncomputable def X51 : Cx := { P := prog, N := 25, own := fun d => List.contains [] d, loud := fun d => List.contains [] d, kl := fun i => List.getD [([2], []), ([0, 3, 4, 5, 6, 7, 8, 9, 10, 11, 12, 13, 14, 15, 16, 17, 18, 19, 20, 21, 22, 23, 24], [])] i ([], []) }
noncomputable def vc51_0 : VC := (.seq (.ops [⟨some 3, none, .mv (.s 0)⟩, ⟨some 4, none, .bin .geq (.s 3) (.c (.int .u8 97))⟩, ⟨some 5, none, .mv (.s 4)⟩, ⟨some 6, some (5, true), .mv (.s 0)⟩, ⟨some 7, some (5, true), .bin .leq (.s 6) (.c (.int .u8 122))⟩, ⟨some 8, none, .pick (.s 5) (.s 7) (.c (.bool false))⟩, ⟨some 9, none, .mv (.s 8)⟩, ⟨some 10, some (9, false), .mv (.s 0)⟩, ⟨some 11, some (9, false), .bin .geq (.s 10) (.c (.int .u8 65))⟩, ⟨some 12, some (9, false), .mv (.s 11)⟩, ⟨some 13, some (12, true), .mv (.s 0)⟩, ⟨some 14, some (12, true), .bin .leq (.s 13) (.c (.int .u8 90))⟩, ⟨some 15, some (9, false), .pick (.s 12) (.s 14) (.c (.bool false))⟩, ⟨some 16, none, .pick (.s 9) (.c (.bool true)) (.s 15)⟩, ⟨some 17, none, .mv (.s 16)⟩, ⟨some 18, some (17, false), .mv (.s 0)⟩, ⟨some 19, some (17, false), .bin .geq (.s 18) (.c (.int .u8 48))⟩, ⟨some 20, some (17, false), .mv (.s 19)⟩, ⟨some 21, some (20, true), .mv (.s 0)⟩, ⟨some 22, some (20, true), .bin .leq (.s 21) (.c (.int .u8 57))⟩, ⟨some 23, some (17, false), .pick (.s 20) (.s 22) (.c (.bool false))⟩, ⟨some 24, none, .pick (.s 17) (.c (.bool true)) (.s 23)⟩, ⟨some 2, none, .mv (.s 24)⟩] [0, 3, 4, 5, 6, 7, 8, 9, 10, 11, 12, 13, 14, 15, 16, 17, 18, 19, 20, 21, 22, 23, 24] []) .ret)
noncomputable def vc51 : VC := (.seq (.ops [⟨some 2, none, .mv (.c (.bool false))⟩] [2] []) vc51_0)
theorem cc51 : f51.body.bind (cCode X51) = some vc51 := by kernel_rfl
theorem cr51 : f51.results.toList.mapM (cRes prog) = some [(.mv (.s 2))] := by kernel_rfl
/-! ### slices.IndexFunc[[]int,int] -/
noncomputable def X52 : Cx := { P := prog, N := 19, own := fun d => List.contains [] d, loud := fun d => List.contains [] d, kl := fun i => List.getD [([4], []), ([6], []), ([], []), ([9, 10], []), ([11, 12, 13, 14, 15], []), ([0, 1, 5, 7, 8, 16, 17], []), ([5, 16, 18], []), ([0, 1, 7, 8, 9], [])] i ([], []) }
noncomputable def vc52_0 : VC := (.seq (.ops [⟨some 4, none, .mv (.c (.int .i64 (-1)))⟩] [0, 1, 7, 8, 9] []) .ret)
noncomputable def vc52_1 : VC := (.ops [⟨some 18, none, .bin .add (.s 8) (.c (.int .i64 1))⟩, ⟨some 8, none, .mv (.s 18)⟩] [5, 16, 18] [])
noncomputable def vc52_2 : VC := (.seq (.ops [⟨some 17, none, .mv (.s 5)⟩, ⟨some 4, none, .mv (.s 17)⟩] [0, 1, 5, 7, 8, 16, 17] []) .ret)
noncomputable def vc52_3 : VC := (.cond (.s 16) vc52_2 .skip)
noncomputable def vc52_4 : VC := (.seq (.ops [⟨some 11, none, .mv (.s 1)⟩, ⟨some 12, none, .mv (.s 0)⟩, ⟨some 13, none, .mv (.s 5)⟩, ⟨some 14, none, .iaddr 1 (.s 12) (.s 13)⟩, ⟨some 15, none, .load false 1 (.s 14)⟩, ⟨some 16, none, .callv (.s 11) [(.s 15)]⟩] [11, 12, 13, 14, 15] []) vc52_3)
noncomputable def vc52_5 : VC := (.seq (.ops [⟨some 10, none, .mv (.s 8)⟩, ⟨some 5, none, .mv (.s 10)⟩] [9, 10] []) vc52_4)
noncomputable def vc52_6 : VC := (.seq (.block 1 vc52_5) vc52_1)
noncomputable def vc52_7 : VC := (.seq (.cond (.s 9) .skip (.exit 0)) vc52_6)
noncomputable def vc52_l0 : VC := (.seq (.ops [⟨some 9, none, .bin .lss (.s 8) (.s 7)⟩] [] []) vc52_7)
noncomputable def vc52_8 : VC := (.block 0 (.loop vc52_l0))
noncomputable def vc52_9 : VC := (.seq (.seq (.ops [⟨some 6, none, .mv (.s 0)⟩, ⟨some 7, none, .len (.s 6)⟩, ⟨some 8, none, .mv (.c (.int .i64 0))⟩] [6] []) vc52_8) vc52_0)
noncomputable def vc52 : VC := (.seq (.ops [⟨some 4, none, .mv (.c (.int .i64 0))⟩] [4] []) vc52_9)
theorem cc52 : f52.body.bind (cCode X52) = some vc52 := by kernel_rfl
theorem cr52 : f52.results.toList.mapM (cRes prog) = some [(.mv (.s 4))] := by kernel_rfl
/-! ### slices.Index[[]string,string] -/
noncomputable def X53 : Cx := { P := prog, N := 19, own := fun d => List.contains [] d, loud := fun d => List.contains [] d, kl := fun i => List.getD [([4], []), ([6], []), ([], []), ([9, 10], []), ([11, 12, 13, 14, 15], []), ([0, 1, 5, 7, 8, 16, 17], []), ([5, 16, 18], []), ([0, 1, 7, 8, 9], [])] i ([], []) }
noncomputable def vc53_0 : VC := (.seq (.ops [⟨some 4, none, .mv (.c (.int .i64 (-1)))⟩] [0, 1, 7, 8, 9] []) .ret)
noncomputable def vc53_1 : VC := (.ops [⟨some 18, none, .bin .add (.s 8) (.c (.int .i64 1))⟩, ⟨some 8, none, .mv (.s 18)⟩] [5, 16, 18] [])
noncomputable def vc53_2 : VC := (.seq (.ops [⟨some 17, none, .mv (.s 5)⟩, ⟨some 4, none, .mv (.s 17)⟩] [0, 1, 5, 7, 8, 16, 17] []) .ret)
noncomputable def vc53_3 : VC := (.cond (.s 16) vc53_2 .skip)
noncomputable def vc53_4 : VC := (.seq (.ops [⟨some 11, none, .mv (.s 1)⟩, ⟨some 12, none, .mv (.s 0)⟩, ⟨some 13, none, .mv (.s 5)⟩, ⟨some 14, none, .iaddr 1 (.s 12) (.s 13)⟩, ⟨some 15, none, .load false 1 (.s 14)⟩, ⟨some 16, none, .bin .eql (.s 11) (.s 15)⟩] [11, 12, 13, 14, 15] []) vc53_3)
noncomputable def vc53_5 : VC := (.seq (.ops [⟨some 10, none, .mv (.s 8)⟩, ⟨some 5, none, .mv (.s 10)⟩] [9, 10] []) vc53_4)
noncomputable def vc53_6 : VC := (.seq (.block 1 vc53_5) vc53_1)
noncomputable def vc53_7 : VC := (.seq (.cond (.s 9) .skip (.exit 0)) vc53_6)
noncomputable def vc53_l0 : VC := (.seq (.ops [⟨some 9, none, .bin .lss (.s 8) (.s 7)⟩] [] []) vc53_7)
noncomputable def vc53_8 : VC := (.block 0 (.loop vc53_l0))
noncomputable def vc53_9 : VC := (.seq (.seq (.ops [⟨some 6, none, .mv (.s 0)⟩, ⟨some 7, none, .len (.s 6)⟩, ⟨some 8, none, .mv (.c (.int .i64 0))⟩] [6] []) vc53_8) vc53_0)
noncomputable def vc53 : VC := (.seq (.ops [⟨some 4, none, .mv (.c (.int .i64 0))⟩] [4] []) vc53_9)
theorem cc53 : f53.body.bind (cCode X53) = some vc53 := by kernel_rfl
theorem cr53 : f53.results.toList.mapM (cRes prog) = some [(.mv (.s 4))] := by kernel_rfl
/-! ### (*strings.Builder).WriteString -/
noncomputable def X54 : Cx := { P := prog, N := 19, own := fun d => List.contains [] d, loud := fun d => List.contains [] d, kl := fun i => List.getD [([4, 5], []), ([6, 7], []), ([0, 8, 9, 10, 11, 12, 13, 14, 15, 16], []), ([1, 17, 18], [])] i ([], []) }
noncomputable def vc54_0 : VC := (.seq (.ops [⟨some 17, none, .mv (.s 1)⟩, ⟨some 18, none, .slen (.s 17)⟩, ⟨some 4, none, .mv (.s 18)⟩, ⟨some 5, none, .mv (.c .nilIface)⟩] [1, 17, 18] []) .ret)
noncomputable def vc54_1 : VC := (.seq (.ops [⟨some 8, none, .mv (.s 0)⟩, ⟨some 9, none, .mv (.s 0)⟩, ⟨some 10, none, .nilck (.s 9)⟩, ⟨some 11, none, .faddr 1 (.s 10)⟩, ⟨some 12, none, .load false 1 (.s 11)⟩, ⟨some 13, none, .mv (.s 1)⟩, ⟨some 14, none, .appstr 5 (.s 12) (.s 13)⟩, ⟨some 15, none, .nilck (.s 8)⟩, ⟨some 16, none, .faddr 1 (.s 15)⟩, ⟨none, none, .store 1 (.s 16) (.s 14)⟩] [0, 8, 9, 10, 11, 12, 13, 14, 15, 16] []) vc54_0)
noncomputable def vc54_2 : VC := (.seq (.ops [⟨some 6, none, .mv (.s 0)⟩, ⟨some 7, none, .call 66 [(.s 6)]⟩] [6, 7] []) vc54_1)
noncomputable def vc54 : VC := (.seq (.ops [⟨some 4, none, .mv (.c (.int .i64 0))⟩, ⟨some 5, none, .mv (.c .nilIface)⟩] [4, 5] []) vc54_2)
theorem cc54 : f54.body.bind (cCode X54) = some vc54 := by kernel_rfl
theorem cr54 : f54.results.toList.mapM (cRes prog) = some [(.mv (.s 4)), (.mv (.s 5))] := by kernel_rfl
/-! ### (*strings.Builder).WriteByte -/
noncomputable def X55 : Cx := { P := prog, N := 17, own := fun d => List.contains [] d, loud := fun d => List.contains [] d, kl := fun i => List.getD [([4], []), ([5, 6], []), ([0, 1, 7, 8, 9, 10, 11, 12, 13, 14, 15, 16], []), ([], [])] i ([], []) }
noncomputable def vc55_0 : VC := (.seq (.ops [⟨some 4, none, .mv (.c .nilIface)⟩] [] []) .ret)
noncomputable def vc55_1 : VC := (.seq (.ops [⟨some 7, none, .mv (.s 0)⟩, ⟨some 8, none, .mv (.s 0)⟩, ⟨some 9, none, .nilck (.s 8)⟩, ⟨some 10, none, .faddr 1 (.s 9)⟩, ⟨some 11, none, .load false 1 (.s 10)⟩, ⟨some 12, none, .mv (.s 1)⟩, ⟨some 13, none, .bslice false 5 1 [(.s 12)]⟩, ⟨some 14, none, .append 5 1 1 (.s 11) (.s 13)⟩, ⟨some 15, none, .nilck (.s 7)⟩, ⟨some 16, none, .faddr 1 (.s 15)⟩, ⟨none, none, .store 1 (.s 16) (.s 14)⟩] [0, 1, 7, 8, 9, 10, 11, 12, 13, 14, 15, 16] []) vc55_0)
noncomputable def vc55_2 : VC := (.seq (.ops [⟨some 5, none, .mv (.s 0)⟩, ⟨some 6, none, .call 66 [(.s 5)]⟩] [5, 6] []) vc55_1)
noncomputable def vc55 : VC := (.seq (.ops [⟨some 4, none, .mv (.c .nilIface)⟩] [4] []) vc55_2)
theorem cc55 : f55.body.bind (cCode X55) = some vc55 := by kernel_rfl
theorem cr55 : f55.results.toList.mapM (cRes prog) = some [(.mv (.s 4))] := by kernel_rfl
end Go.VL.A
