/- A part of the proof that scrim/scrimlaw21.QueryPixels returns true at every input. -/
import Derived.Test.YtcchpcpanogbpaaGreatDoorK1
set_option linter.unusedSimpArgs false
set_option linter.unusedVariables false
namespace Go.B
open Go
set_option maxRecDepth 1000000
set_option maxHeartbeats 0
theorem k21_2_0 : Known S21_2 13 ([(.str (bs [60,112,62,97,98,60,47,112,62,99]))], (.tup [(.fsl [(.int .i64 (-1)),(.str (bs [114,111,111,116])),(.str (bs [])),.nils,(.fsl [(.int .i64 (1)),(.int .i64 (3))] 0 2 .unk),(.int .i64 (0)),(.str (bs [112])),(.str (bs [])),.nils,(.fsl [(.int .i64 (2))] 0 1 .unk),(.int .i64 (1)),(.str (bs [])),(.str (bs [97,98])),.nils,.nils,(.int .i64 (0)),(.str (bs [])),(.str (bs [99])),.nils,.nils] 0 4 .unk),(.int .i64 (0))])) := known_of (fun g => Nat.beq g 13) 400 fun h => by kernel_rfl
theorem k21_2_1 : Known S21_2 63 ([(.str (bs [112,32]))], (.str (bs [112]))) := known_of (fun g => Nat.beq g 63) 400 fun h => by kernel_rfl
theorem k21_2_2 : Known S21_2 63 ([(.str (bs [100,105,115,112,108,97,121,58,32,98,108,111,99,107,59,32,119,105,100,116,104,58,32,51,112,120]))], (.str (bs [100,105,115,112,108,97,121,58,32,98,108,111,99,107,59,32,119,105,100,116,104,58,32,51,112,120]))) := known_of (fun g => Nat.beq g 63) 400 fun h => by kernel_rfl
theorem k21_2_3 : Known S21_2 63 ([(.str (bs [112]))], (.str (bs [112]))) := known_of (fun g => Nat.beq g 63) 400 fun h => by kernel_rfl
theorem k21_2_4 : Known S21_2 110 ([(.str (bs [112]))], (.fsl [(.str (bs [112]))] 0 1 .unk)) := known_of (fun g => Nat.beq g 110) 400 fun h => by kernel_rfl
theorem k21_2_5 : Known S21_2 113 ([(.str (bs [112]))], (.tup [(.agg [(.str (bs [112])),.nils,.nils,(.bool false),(.bool false)]),(.bool true)])) := known_of (fun g => Nat.beq g 113) 400 fun h => by kernel_rfl
theorem k21_2_6 : Known S21_2 63 ([(.str (bs [100,105,115,112,108,97,121,58,32,98,108,111,99,107]))], (.str (bs [100,105,115,112,108,97,121,58,32,98,108,111,99,107]))) := known_of (fun g => Nat.beq g 63) 400 fun h => by kernel_rfl
theorem k21_2_7 : Known S21_2 63 ([(.str (bs [32,119,105,100,116,104,58,32,51,112,120]))], (.str (bs [119,105,100,116,104,58,32,51,112,120]))) := known_of (fun g => Nat.beq g 63) 400 fun h => by kernel_rfl
theorem k21_2_8 : Known S21_2 63 ([(.str (bs [100,105,115,112,108,97,121]))], (.str (bs [100,105,115,112,108,97,121]))) := known_of (fun g => Nat.beq g 63) 400 fun h => by kernel_rfl
theorem k21_2_9 : Known S21_2 114 ([(.str (bs [100,105,115,112,108,97,121]))], (.tup [(.int .i64 (1)),(.int .i64 (1))])) := known_of (fun g => Nat.beq g 114) 400 fun h => by kernel_rfl
theorem k21_2_10 : Known S21_2 63 ([(.str (bs [32,98,108,111,99,107]))], (.str (bs [98,108,111,99,107]))) := known_of (fun g => Nat.beq g 63) 400 fun h => by kernel_rfl
theorem k21_2_11 : Known S21_2 63 ([(.str (bs [98,108,111,99,107]))], (.str (bs [98,108,111,99,107]))) := known_of (fun g => Nat.beq g 63) 400 fun h => by kernel_rfl
theorem k21_2_12 : Known S21_2 78 ([(.int .i64 (1)),(.agg [(.int .i64 (5)),(.int .i64 (0))])], (.bool true)) := known_of (fun g => Nat.beq g 78) 400 fun h => by kernel_rfl
theorem k21_2_13 : Known S21_2 63 ([(.str (bs [119,105,100,116,104]))], (.str (bs [119,105,100,116,104]))) := known_of (fun g => Nat.beq g 63) 400 fun h => by kernel_rfl
theorem k21_2_14 : Known S21_2 114 ([(.str (bs [119,105,100,116,104]))], (.tup [(.int .i64 (2)),(.int .i64 (1))])) := known_of (fun g => Nat.beq g 114) 400 fun h => by kernel_rfl
theorem k21_2_15 : Known S21_2 63 ([(.str (bs [32,51,112,120]))], (.str (bs [51,112,120]))) := known_of (fun g => Nat.beq g 63) 400 fun h => by kernel_rfl
theorem k21_2_16 : Known S21_2 63 ([(.str (bs [51,112,120]))], (.str (bs [51,112,120]))) := known_of (fun g => Nat.beq g 63) 400 fun h => by kernel_rfl
theorem k21_2_17 : Known S21_2 244 ([(.str (bs [51])),(.int .i64 (9))], (.bool true)) := known_of (fun g => Nat.beq g 244) 400 fun h => by kernel_rfl
theorem k21_2_18 : Known S21_2 245 ([(.str (bs [51])),(.int .i64 (10)),(.int .i64 (64))], (.tup [(.int .i64 (3)),.nili])) := known_of (fun g => Nat.beq g 245) 400 fun h => by kernel_rfl
theorem k21_2_19 : Known S21_2 245 ([(.str (bs [48,48,48,48,48,48])),(.int .i64 (10)),(.int .i64 (64))], (.tup [(.int .i64 (0)),.nili])) := known_of (fun g => Nat.beq g 245) 400 fun h => by kernel_rfl
theorem k21_2_20 : Known S21_2 244 ([(.str (bs [57,57,57,57,57,57,57,57,57])),(.int .i64 (9))], (.bool true)) := known_of (fun g => Nat.beq g 244) 400 fun h => by kernel_rfl
theorem k21_2_21 : Known S21_2 244 ([(.str (bs [57,57,57,57,57,57])),(.int .i64 (6))], (.bool true)) := known_of (fun g => Nat.beq g 244) 400 fun h => by kernel_rfl
theorem k21_2_22 : Known S21_2 245 ([(.str (bs [57,57,57,57,57,57,57,57,57])),(.int .i64 (10)),(.int .i64 (64))], (.tup [(.int .i64 (999999999)),.nili])) := known_of (fun g => Nat.beq g 245) 400 fun h => by kernel_rfl
theorem k21_2_23 : Known S21_2 245 ([(.str (bs [57,57,57,57,57,57])),(.int .i64 (10)),(.int .i64 (64))], (.tup [(.int .i64 (999999)),.nili])) := known_of (fun g => Nat.beq g 245) 400 fun h => by kernel_rfl
theorem k21_2_24 : Known S21_2 136 ([(.int .i64 (1))], (.agg [(.int .i64 (5)),(.int .i64 (1))])) := known_of (fun g => Nat.beq g 136) 400 fun h => by kernel_rfl
theorem k21_2_25 : Known S21_2 136 ([(.int .i64 (2))], (.agg [(.int .i64 (1)),(.int .i64 (0))])) := known_of (fun g => Nat.beq g 136) 400 fun h => by kernel_rfl
theorem k21_2_26 : Known S21_2 136 ([(.int .i64 (3))], (.agg [(.int .i64 (1)),(.int .i64 (0))])) := known_of (fun g => Nat.beq g 136) 400 fun h => by kernel_rfl
theorem k21_2_27 : Known S21_2 136 ([(.int .i64 (4))], (.agg [(.int .i64 (2)),(.int .i64 (0))])) := known_of (fun g => Nat.beq g 136) 400 fun h => by kernel_rfl
theorem k21_2_28 : Known S21_2 136 ([(.int .i64 (5))], (.agg [(.int .i64 (2)),(.int .i64 (0))])) := known_of (fun g => Nat.beq g 136) 400 fun h => by kernel_rfl
theorem k21_2_29 : Known S21_2 136 ([(.int .i64 (6))], (.agg [(.int .i64 (2)),(.int .i64 (0))])) := known_of (fun g => Nat.beq g 136) 400 fun h => by kernel_rfl
theorem k21_2_30 : Known S21_2 136 ([(.int .i64 (7))], (.agg [(.int .i64 (2)),(.int .i64 (0))])) := known_of (fun g => Nat.beq g 136) 400 fun h => by kernel_rfl
theorem k21_2_31 : Known S21_2 136 ([(.int .i64 (8))], (.agg [(.int .i64 (2)),(.int .i64 (0))])) := known_of (fun g => Nat.beq g 136) 400 fun h => by kernel_rfl
theorem k21_2_32 : Known S21_2 136 ([(.int .i64 (9))], (.agg [(.int .i64 (2)),(.int .i64 (0))])) := known_of (fun g => Nat.beq g 136) 400 fun h => by kernel_rfl
theorem k21_2_33 : Known S21_2 136 ([(.int .i64 (10))], (.agg [(.int .i64 (2)),(.int .i64 (0))])) := known_of (fun g => Nat.beq g 136) 400 fun h => by kernel_rfl
theorem k21_2_34 : Known S21_2 136 ([(.int .i64 (11))], (.agg [(.int .i64 (2)),(.int .i64 (0))])) := known_of (fun g => Nat.beq g 136) 400 fun h => by kernel_rfl
theorem k21_2_35 : Known S21_2 136 ([(.int .i64 (12))], (.agg [(.int .i64 (2)),(.int .i64 (0))])) := known_of (fun g => Nat.beq g 136) 400 fun h => by kernel_rfl
theorem k21_2_36 : Known S21_2 136 ([(.int .i64 (13))], (.agg [(.int .i64 (2)),(.int .i64 (0))])) := known_of (fun g => Nat.beq g 136) 400 fun h => by kernel_rfl
theorem k21_2_37 : Known S21_2 136 ([(.int .i64 (14))], (.agg [(.int .i64 (2)),(.int .i64 (0))])) := known_of (fun g => Nat.beq g 136) 400 fun h => by kernel_rfl
theorem k21_2_38 : Known S21_2 136 ([(.int .i64 (15))], (.agg [(.int .i64 (2)),(.int .i64 (0))])) := known_of (fun g => Nat.beq g 136) 400 fun h => by kernel_rfl
theorem k21_2_39 : Known S21_2 136 ([(.int .i64 (16))], (.agg [(.int .i64 (4)),(.int .i64 (0))])) := known_of (fun g => Nat.beq g 136) 400 fun h => by kernel_rfl
theorem k21_2_40 : Known S21_2 136 ([(.int .i64 (17))], (.agg [(.int .i64 (4)),(.int .i64 (16777215))])) := known_of (fun g => Nat.beq g 136) 400 fun h => by kernel_rfl
theorem k21_2_41 : Known S21_2 136 ([(.int .i64 (18))], (.agg [(.int .i64 (2)),(.int .i64 (1024))])) := known_of (fun g => Nat.beq g 136) 400 fun h => by kernel_rfl
theorem k21_2_42 : Known S21_2 136 ([(.int .i64 (19))], (.agg [(.int .i64 (5)),(.int .i64 (0))])) := known_of (fun g => Nat.beq g 136) 400 fun h => by kernel_rfl
theorem k21_2_43 : Known S21_2 136 ([(.int .i64 (20))], (.agg [(.int .i64 (6)),(.int .i64 (0))])) := known_of (fun g => Nat.beq g 136) 400 fun h => by kernel_rfl
theorem k21_2_44 : Known S21_2 136 ([(.int .i64 (21))], (.agg [(.int .i64 (6)),(.int .i64 (64))])) := known_of (fun g => Nat.beq g 136) 400 fun h => by kernel_rfl
theorem k21_2_45 : Known S21_2 136 ([(.int .i64 (22))], (.agg [(.int .i64 (5)),(.int .i64 (0))])) := known_of (fun g => Nat.beq g 136) 400 fun h => by kernel_rfl
theorem k21_2_46 : Known S21_2 136 ([(.int .i64 (23))], (.agg [(.int .i64 (5)),(.int .i64 (0))])) := known_of (fun g => Nat.beq g 136) 400 fun h => by kernel_rfl
theorem k21_2_47 : Known S21_2 136 ([(.int .i64 (24))], (.agg [(.int .i64 (6)),(.int .i64 (0))])) := known_of (fun g => Nat.beq g 136) 400 fun h => by kernel_rfl
theorem k21_2_48 : Known S21_2 136 ([(.int .i64 (25))], (.agg [(.int .i64 (2)),(.int .i64 (0))])) := known_of (fun g => Nat.beq g 136) 400 fun h => by kernel_rfl
theorem k21_2_49 : Known S21_2 136 ([(.int .i64 (26))], (.agg [(.int .i64 (2)),(.int .i64 (0))])) := known_of (fun g => Nat.beq g 136) 400 fun h => by kernel_rfl
theorem k21_2_50 : Known S21_2 63 ([(.str (bs [99]))], (.str (bs [99]))) := known_of (fun g => Nat.beq g 63) 400 fun h => by kernel_rfl
theorem k21_2_51 : Known S21_2 126 ([(.agg [(.int .i64 (0)),(.int .i64 (0)),(.int .i64 (0)),(.int .i64 (0)),(.int .i64 (0)),(.int .i64 (0)),(.int .i64 (0)),(.int .i64 (0)),(.int .i64 (0)),(.int .i64 (0)),(.int .i64 (0)),(.int .i64 (0))])], (.tup [(.int .i64 (0)),(.bool true)])) := known_of (fun g => Nat.beq g 126) 400 fun h => by kernel_rfl
theorem k21_2_52 : Known S21_2 79 ([(.int .i64 (1000000)),(.int .i64 (10))], (.str (bs [49,48,48,48,48,48,48]))) := known_of (fun g => Nat.beq g 79) 400 fun h => by kernel_rfl
def L21_2 : Tbl := [
  (13, [([(.str (bs [60,112,62,97,98,60,47,112,62,99]))], (.tup [(.fsl [(.int .i64 (-1)),(.str (bs [114,111,111,116])),(.str (bs [])),.nils,(.fsl [(.int .i64 (1)),(.int .i64 (3))] 0 2 .unk),(.int .i64 (0)),(.str (bs [112])),(.str (bs [])),.nils,(.fsl [(.int .i64 (2))] 0 1 .unk),(.int .i64 (1)),(.str (bs [])),(.str (bs [97,98])),.nils,.nils,(.int .i64 (0)),(.str (bs [])),(.str (bs [99])),.nils,.nils] 0 4 .unk),(.int .i64 (0))]))]),
  (63, [([(.str (bs [112,32]))], (.str (bs [112]))),
    ([(.str (bs [100,105,115,112,108,97,121,58,32,98,108,111,99,107,59,32,119,105,100,116,104,58,32,51,112,120]))], (.str (bs [100,105,115,112,108,97,121,58,32,98,108,111,99,107,59,32,119,105,100,116,104,58,32,51,112,120]))),
    ([(.str (bs [112]))], (.str (bs [112]))),
    ([(.str (bs [100,105,115,112,108,97,121,58,32,98,108,111,99,107]))], (.str (bs [100,105,115,112,108,97,121,58,32,98,108,111,99,107]))),
    ([(.str (bs [32,119,105,100,116,104,58,32,51,112,120]))], (.str (bs [119,105,100,116,104,58,32,51,112,120]))),
    ([(.str (bs [100,105,115,112,108,97,121]))], (.str (bs [100,105,115,112,108,97,121]))),
    ([(.str (bs [32,98,108,111,99,107]))], (.str (bs [98,108,111,99,107]))),
    ([(.str (bs [98,108,111,99,107]))], (.str (bs [98,108,111,99,107]))),
    ([(.str (bs [119,105,100,116,104]))], (.str (bs [119,105,100,116,104]))),
    ([(.str (bs [32,51,112,120]))], (.str (bs [51,112,120]))),
    ([(.str (bs [51,112,120]))], (.str (bs [51,112,120]))),
    ([(.str (bs [99]))], (.str (bs [99])))]),
  (110, [([(.str (bs [112]))], (.fsl [(.str (bs [112]))] 0 1 .unk))]),
  (113, [([(.str (bs [112]))], (.tup [(.agg [(.str (bs [112])),.nils,.nils,(.bool false),(.bool false)]),(.bool true)]))]),
  (114, [([(.str (bs [100,105,115,112,108,97,121]))], (.tup [(.int .i64 (1)),(.int .i64 (1))])),
    ([(.str (bs [119,105,100,116,104]))], (.tup [(.int .i64 (2)),(.int .i64 (1))]))]),
  (78, [([(.int .i64 (1)),(.agg [(.int .i64 (5)),(.int .i64 (0))])], (.bool true))]),
  (244, [([(.str (bs [51])),(.int .i64 (9))], (.bool true)),
    ([(.str (bs [57,57,57,57,57,57,57,57,57])),(.int .i64 (9))], (.bool true)),
    ([(.str (bs [57,57,57,57,57,57])),(.int .i64 (6))], (.bool true))]),
  (245, [([(.str (bs [51])),(.int .i64 (10)),(.int .i64 (64))], (.tup [(.int .i64 (3)),.nili])),
    ([(.str (bs [48,48,48,48,48,48])),(.int .i64 (10)),(.int .i64 (64))], (.tup [(.int .i64 (0)),.nili])),
    ([(.str (bs [57,57,57,57,57,57,57,57,57])),(.int .i64 (10)),(.int .i64 (64))], (.tup [(.int .i64 (999999999)),.nili])),
    ([(.str (bs [57,57,57,57,57,57])),(.int .i64 (10)),(.int .i64 (64))], (.tup [(.int .i64 (999999)),.nili]))]),
  (136, [([(.int .i64 (1))], (.agg [(.int .i64 (5)),(.int .i64 (1))])),
    ([(.int .i64 (2))], (.agg [(.int .i64 (1)),(.int .i64 (0))])),
    ([(.int .i64 (3))], (.agg [(.int .i64 (1)),(.int .i64 (0))])),
    ([(.int .i64 (4))], (.agg [(.int .i64 (2)),(.int .i64 (0))])),
    ([(.int .i64 (5))], (.agg [(.int .i64 (2)),(.int .i64 (0))])),
    ([(.int .i64 (6))], (.agg [(.int .i64 (2)),(.int .i64 (0))])),
    ([(.int .i64 (7))], (.agg [(.int .i64 (2)),(.int .i64 (0))])),
    ([(.int .i64 (8))], (.agg [(.int .i64 (2)),(.int .i64 (0))])),
    ([(.int .i64 (9))], (.agg [(.int .i64 (2)),(.int .i64 (0))])),
    ([(.int .i64 (10))], (.agg [(.int .i64 (2)),(.int .i64 (0))])),
    ([(.int .i64 (11))], (.agg [(.int .i64 (2)),(.int .i64 (0))])),
    ([(.int .i64 (12))], (.agg [(.int .i64 (2)),(.int .i64 (0))])),
    ([(.int .i64 (13))], (.agg [(.int .i64 (2)),(.int .i64 (0))])),
    ([(.int .i64 (14))], (.agg [(.int .i64 (2)),(.int .i64 (0))])),
    ([(.int .i64 (15))], (.agg [(.int .i64 (2)),(.int .i64 (0))])),
    ([(.int .i64 (16))], (.agg [(.int .i64 (4)),(.int .i64 (0))])),
    ([(.int .i64 (17))], (.agg [(.int .i64 (4)),(.int .i64 (16777215))])),
    ([(.int .i64 (18))], (.agg [(.int .i64 (2)),(.int .i64 (1024))])),
    ([(.int .i64 (19))], (.agg [(.int .i64 (5)),(.int .i64 (0))])),
    ([(.int .i64 (20))], (.agg [(.int .i64 (6)),(.int .i64 (0))])),
    ([(.int .i64 (21))], (.agg [(.int .i64 (6)),(.int .i64 (64))])),
    ([(.int .i64 (22))], (.agg [(.int .i64 (5)),(.int .i64 (0))])),
    ([(.int .i64 (23))], (.agg [(.int .i64 (5)),(.int .i64 (0))])),
    ([(.int .i64 (24))], (.agg [(.int .i64 (6)),(.int .i64 (0))])),
    ([(.int .i64 (25))], (.agg [(.int .i64 (2)),(.int .i64 (0))])),
    ([(.int .i64 (26))], (.agg [(.int .i64 (2)),(.int .i64 (0))]))]),
  (126, [([(.agg [(.int .i64 (0)),(.int .i64 (0)),(.int .i64 (0)),(.int .i64 (0)),(.int .i64 (0)),(.int .i64 (0)),(.int .i64 (0)),(.int .i64 (0)),(.int .i64 (0)),(.int .i64 (0)),(.int .i64 (0)),(.int .i64 (0))])], (.tup [(.int .i64 (0)),(.bool true)]))]),
  (79, [([(.int .i64 (1000000)),(.int .i64 (10))], (.str (bs [49,48,48,48,48,48,48])))])]
theorem ok21_2 : KnownT S21_2 L21_2 := ⟨⟨k21_2_0, trivial⟩, ⟨k21_2_1, k21_2_2, k21_2_3, k21_2_6, k21_2_7, k21_2_8, k21_2_10, k21_2_11, k21_2_13, k21_2_15, k21_2_16, k21_2_50, trivial⟩, ⟨k21_2_4, trivial⟩, ⟨k21_2_5, trivial⟩, ⟨k21_2_9, k21_2_14, trivial⟩, ⟨k21_2_12, trivial⟩, ⟨k21_2_17, k21_2_20, k21_2_21, trivial⟩, ⟨k21_2_18, k21_2_19, k21_2_22, k21_2_23, trivial⟩, ⟨k21_2_24, k21_2_25, k21_2_26, k21_2_27, k21_2_28, k21_2_29, k21_2_30, k21_2_31, k21_2_32, k21_2_33, k21_2_34, k21_2_35, k21_2_36, k21_2_37, k21_2_38, k21_2_39, k21_2_40, k21_2_41, k21_2_42, k21_2_43, k21_2_44, k21_2_45, k21_2_46, k21_2_47, k21_2_48, k21_2_49, trivial⟩, ⟨k21_2_51, trivial⟩, ⟨k21_2_52, trivial⟩, trivial⟩
noncomputable def S21_3 : Conf := S21_2.with L21_2
end Go.B
