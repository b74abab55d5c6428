/- A part of the proof that scrim/scrimlaw21.QueryPixels returns true at every input. -/
import Derived.Test.YtcchpcpanogbpaaGreatDoorK3
set_option linter.unusedSimpArgs false
set_option linter.unusedVariables false
section
namespace Go.B
open Go
set_option maxRecDepth 1000000
set_option maxHeartbeats 0
theorem k21_4_0 : Known S21_4 34 ([(.str (bs [112]))], (.tup [(.fsl [(.fsl [(.str (bs [112])),.nils,.nils,(.bool false),(.bool false)] 0 1 .unk),.nils] 0 1 .unk),(.bool true)])) := known_of (fun g => Nat.beq g 34) 400 fun h => by kernel_rfl
theorem k21_4_1 : Known S21_4 69 ([(.str (bs [100,105,115,112,108,97,121,58,32,98,108,111,99,107]))], (.fsl [(.int .i64 (1)),(.int .i64 (5)),(.int .i64 (0)),(.bool false)] 0 1 .unk)) := known_of (fun g => Nat.beq g 69) 400 fun h => by kernel_rfl
theorem k21_4_2 : Known S21_4 229 ([(.str (bs [51,112,120])),(.str (bs [112,120])),(.int .i64 (2))], (.tup [(.agg [(.int .i64 (2)),(.int .i64 (192))]),(.bool true)])) := known_of (fun g => Nat.beq g 229) 400 fun h => by kernel_rfl
theorem k21_4_3 : Known S21_4 132 ([], (.int .i64 (63999999999))) := known_of (fun g => Nat.beq g 132) 400 fun h => by kernel_rfl
def L21_4 : Tbl := [
  (34, [([(.str (bs [112]))], (.tup [(.fsl [(.fsl [(.str (bs [112])),.nils,.nils,(.bool false),(.bool false)] 0 1 .unk),.nils] 0 1 .unk),(.bool true)]))]),
  (69, [([(.str (bs [100,105,115,112,108,97,121,58,32,98,108,111,99,107]))], (.fsl [(.int .i64 (1)),(.int .i64 (5)),(.int .i64 (0)),(.bool false)] 0 1 .unk))]),
  (229, [([(.str (bs [51,112,120])),(.str (bs [112,120])),(.int .i64 (2))], (.tup [(.agg [(.int .i64 (2)),(.int .i64 (192))]),(.bool true)]))]),
  (132, [([], (.int .i64 (63999999999)))])]
theorem ok21_4 : KnownT S21_4 L21_4 := ⟨⟨k21_4_0, trivial⟩, ⟨k21_4_1, trivial⟩, ⟨k21_4_2, trivial⟩, ⟨k21_4_3, trivial⟩, trivial⟩
noncomputable def S21_5 : Conf := S21_4.with L21_4
end Go.B
end
section
namespace Go.B
open Go
set_option maxRecDepth 1000000
set_option maxHeartbeats 0
theorem k21_5_0 : Known S21_5 171 ([(.agg [(.str (bs [119,105,100,116,104])),(.bool true),(.bool true),(.bool true),(.bool false),(.bool false),(.bool false),.nils,(.int .i64 (1)),(.int .i64 (0))]),(.str (bs [51,112,120]))], (.tup [(.agg [(.int .i64 (2)),(.int .i64 (192))]),(.bool true)])) := known_of (fun g => Nat.beq g 171) 400 fun h => by kernel_rfl
theorem k21_5_1 : Known S21_5 78 ([(.int .i64 (2)),(.agg [(.int .i64 (2)),(.int .i64 (192))])], (.bool true)) := known_of (fun g => Nat.beq g 78) 400 fun h => by kernel_rfl
def L21_5 : Tbl := [
  (171, [([(.agg [(.str (bs [119,105,100,116,104])),(.bool true),(.bool true),(.bool true),(.bool false),(.bool false),(.bool false),.nils,(.int .i64 (1)),(.int .i64 (0))]),(.str (bs [51,112,120]))], (.tup [(.agg [(.int .i64 (2)),(.int .i64 (192))]),(.bool true)]))]),
  (78, [([(.int .i64 (2)),(.agg [(.int .i64 (2)),(.int .i64 (192))])], (.bool true))])]
theorem ok21_5 : KnownT S21_5 L21_5 := ⟨⟨k21_5_0, trivial⟩, ⟨k21_5_1, trivial⟩, trivial⟩
noncomputable def S21_6 : Conf := S21_5.with L21_5
end Go.B
end
section
namespace Go.B
open Go
set_option maxRecDepth 1000000
set_option maxHeartbeats 0
theorem k21_6_0 : Known S21_6 117 ([(.int .i64 (2)),(.str (bs [51,112,120]))], (.tup [(.agg [(.int .i64 (2)),(.int .i64 (192))]),(.bool true)])) := known_of (fun g => Nat.beq g 117) 400 fun h => by kernel_rfl
theorem k21_6_1 : Known S21_6 39 ([(.int .i64 (2)),(.agg [(.int .i64 (2)),(.int .i64 (192))])], (.str (bs [51,112,120]))) := known_of (fun g => Nat.beq g 39) 400 fun h => by kernel_rfl
def L21_6 : Tbl := [
  (117, [([(.int .i64 (2)),(.str (bs [51,112,120]))], (.tup [(.agg [(.int .i64 (2)),(.int .i64 (192))]),(.bool true)]))]),
  (39, [([(.int .i64 (2)),(.agg [(.int .i64 (2)),(.int .i64 (192))])], (.str (bs [51,112,120])))])]
theorem ok21_6 : KnownT S21_6 L21_6 := ⟨⟨k21_6_0, trivial⟩, ⟨k21_6_1, trivial⟩, trivial⟩
noncomputable def S21_7 : Conf := S21_6.with L21_6
end Go.B
end
section
namespace Go.B
open Go
set_option maxRecDepth 1000000
set_option maxHeartbeats 0
theorem k21_7_0 : Known S21_7 69 ([(.str (bs [119,105,100,116,104,58,32,51,112,120]))], (.fsl [(.int .i64 (2)),(.int .i64 (2)),(.int .i64 (192)),(.bool false)] 0 1 .unk)) := known_of (fun g => Nat.beq g 69) 400 fun h => by kernel_rfl
def L21_7 : Tbl := [
  (69, [([(.str (bs [119,105,100,116,104,58,32,51,112,120]))], (.fsl [(.int .i64 (2)),(.int .i64 (2)),(.int .i64 (192)),(.bool false)] 0 1 .unk))])]
theorem ok21_7 : KnownT S21_7 L21_7 := ⟨⟨k21_7_0, trivial⟩, trivial⟩
noncomputable def S21_8 : Conf := S21_7.with L21_7
end Go.B
end
section
namespace Go.B
open Go
set_option maxRecDepth 1000000
set_option maxHeartbeats 0
theorem k21_8_0 : Known S21_8 35 ([(.str (bs [100,105,115,112,108,97,121,58,32,98,108,111,99,107,59,32,119,105,100,116,104,58,32,51,112,120]))], (.fsl [(.int .i64 (1)),(.int .i64 (5)),(.int .i64 (0)),(.bool false),(.int .i64 (2)),(.int .i64 (2)),(.int .i64 (192)),(.bool false)] 0 2 .unk)) := known_of (fun g => Nat.beq g 35) 400 fun h => by kernel_rfl
def L21_8 : Tbl := [
  (35, [([(.str (bs [100,105,115,112,108,97,121,58,32,98,108,111,99,107,59,32,119,105,100,116,104,58,32,51,112,120]))], (.fsl [(.int .i64 (1)),(.int .i64 (5)),(.int .i64 (0)),(.bool false),(.int .i64 (2)),(.int .i64 (2)),(.int .i64 (192)),(.bool false)] 0 2 .unk))])]
theorem ok21_8 : KnownT S21_8 L21_8 := ⟨⟨k21_8_0, trivial⟩, trivial⟩
noncomputable def S21_9 : Conf := S21_8.with L21_8
end Go.B
end
section
namespace Go.B
open Go
set_option maxRecDepth 1000000
set_option maxHeartbeats 0
theorem k21_9_0 : Known S21_9 14 ([(.str (bs [112,32,123,100,105,115,112,108,97,121,58,32,98,108,111,99,107,59,32,119,105,100,116,104,58,32,51,112,120,125]))], (.tup [(.fsl [(.fsl [(.fsl [(.str (bs [112])),.nils,.nils,(.bool false),(.bool false)] 0 1 .unk),.nils] 0 1 .unk),(.fsl [(.int .i64 (1)),(.int .i64 (5)),(.int .i64 (0)),(.bool false),(.int .i64 (2)),(.int .i64 (2)),(.int .i64 (192)),(.bool false)] 0 2 .unk)] 0 1 .unk),(.int .i64 (0))])) := known_of (fun g => Nat.beq g 14) 400 fun h => by kernel_rfl
def L21_9 : Tbl := [
  (14, [([(.str (bs [112,32,123,100,105,115,112,108,97,121,58,32,98,108,111,99,107,59,32,119,105,100,116,104,58,32,51,112,120,125]))], (.tup [(.fsl [(.fsl [(.fsl [(.str (bs [112])),.nils,.nils,(.bool false),(.bool false)] 0 1 .unk),.nils] 0 1 .unk),(.fsl [(.int .i64 (1)),(.int .i64 (5)),(.int .i64 (0)),(.bool false),(.int .i64 (2)),(.int .i64 (2)),(.int .i64 (192)),(.bool false)] 0 2 .unk)] 0 1 .unk),(.int .i64 (0))]))])]
theorem ok21_9 : KnownT S21_9 L21_9 := ⟨⟨k21_9_0, trivial⟩, trivial⟩
noncomputable def S21_10 : Conf := S21_9.with L21_9
end Go.B
end
section
namespace Go.B
open Go
set_option maxRecDepth 1000000
set_option maxHeartbeats 0
theorem k21_10_0 : Known S21_10 5 ([], (.bool true)) := known_of (fun g => Nat.beq g 5) 400 fun h => by kernel_rfl
def L21_10 : Tbl := [
  (5, [([], (.bool true))])]
theorem ok21_10 : KnownT S21_10 L21_10 := ⟨⟨k21_10_0, trivial⟩, trivial⟩
noncomputable def S21_11 : Conf := S21_10.with L21_10
end Go.B
end
