/- A part of the proof that scrim/scrimlaw21.QueryPixels returns true at every input. -/
import Derived.Test.YtcchpcpanogbpaaGreatDoorF1
import Derived.Test.YtcchpcpanogbpaaGreatDoorL1
import Derived.Lib.FrozenHead
import Derived.Lib.Index
import Derived.KernelRfl
import Derived.Test.YtcchpcpanogbpaaGreatDoorProg
set_option linter.unusedSimpArgs false
set_option linter.unusedVariables false
namespace Go.B
open Go Go.Proofs

def extT : Nat → Option Ext
  | 260 => some .indexByte
  | 265 => some .count
  | 164 => some .same
  | 253 => some .loadU32
  | 301 => some .storeU32
  | 321 => some .casI32
  | 326 => some .addI32
  | 320 => some .disable
  | 322 => some .enable
  | 323 => some .acquire
  | 325 => some .releaseMerge
  | _ => none

def pow10 : List Val := (List.range 20).map fun i => .int .u64 (10 ^ i)

noncomputable def tab : Tab where
  fn f := Tryz.prog.funcs[f]?
  ext := extT
  info t := Tryz.prog.info? t
  under t := Tryz.prog.underlying t
  glob g := (match g with | 1 => some pow10 | _ => none)
  self u := liesAt Tryz.prog Tryz.prog.depth u 1 0 u 1
  eqOk t := !Tryz.prog.eqGuardType Tryz.prog.depth t && !Tryz.prog.stoodInHeld t

def sum0 (f : FuncId) (args : List Val) : Option Val :=
  bif Nat.beq f 157 then (match args with | [.str s, .str n] => bif Nat.ble s.length 4294967280 then some (.int .i64 (Lib.index s n)) else none | _ => none) else none

noncomputable def S0 : Conf where
  tab := tab
  sum := sum0
  alone := fun _ => false
  rounds := 100000
def bs (s : List Nat) : List UInt8 := s.map UInt8.ofNat
end Go.B
