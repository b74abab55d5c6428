/- A part of the proof that scrim/scrimlaw21.QueryPixels returns true at every input. -/
import Derived.Test.YtcchpcpanogbpaaGreatDoorC2
import Derived.Test.YtcchpcpanogbpaaGreatDoorL1
import Derived.Shelf.Lay
import Derived.Shelf.Strings.Search1
import Derived.Shelf.Strings.Search2
import Derived.Shelf.LaysM
import Derived.CallsIn
set_option linter.unusedSimpArgs false
set_option linter.unusedVariables false
namespace Go.Proofs
open Go.Shelf
def Tryz.laysM219_ren : Ren := ⟨fun | 219 => 157 | 217 => 211 | 225 => 156 | 224 => 155 | 267 => 212 | 266 => 260 | 314 => 261 | n => n, fun | 9 => 9 | 3 => 3 | 4 => 4 | 5 => 5 | 46 => 117 | 146 => 405 | 51 => 279 | n => n, fun | 1 => 0 | n => n⟩
theorem Tryz.laysM219 : LaysM.n219 Tryz.prog Tryz.laysM219_ren where
  mixed := by kernel_rfl
  f217 := Tryz.func211.trans (congrArg some (by kernel_rfl))
  f219 := Tryz.func157.trans (congrArg some (by kernel_rfl))
  f224 := Tryz.func155.trans (congrArg some (by kernel_rfl))
  f225 := Tryz.func156.trans (congrArg some (by kernel_rfl))
  f266 := Tryz.func260.trans (congrArg some (by kernel_rfl))
  f267 := Tryz.func212.trans (congrArg some (by kernel_rfl))
  f314 := Tryz.func261.trans (congrArg some (by kernel_rfl))
  t3 := Tryz.underlying3
  a3 := Tryz.isAgg3
  z3 := Tryz.sizeOf3
  v3 := Tryz.zeroValue3
  t4 := Tryz.underlying4
  a4 := Tryz.isAgg4
  z4 := Tryz.sizeOf4
  v4 := Tryz.zeroValue4
  t5 := Tryz.underlying5
  a5 := Tryz.isAgg5
  z5 := Tryz.sizeOf5
  v5 := Tryz.zeroValue5
  t9 := Tryz.underlying9
  a9 := Tryz.isAgg9
  z9 := Tryz.sizeOf9
  v9 := Tryz.zeroValue9
  t46 := Tryz.underlying117
  a46 := Tryz.isAgg117
  z46 := Tryz.sizeOf117
  v46 := Tryz.zeroValue117
  t51 := Tryz.underlying279
  a51 := Tryz.isAgg279
  z51 := Tryz.sizeOf279
  v51 := Tryz.zeroValue279
  t146 := Tryz.underlying405
  a146 := Tryz.isAgg405
  z146 := Tryz.sizeOf405
  v146 := Tryz.zeroValue405
  g1 := by kernel_rfl
  i3 := by kernel_rfl
  i4 := by kernel_rfl
  i5 := by kernel_rfl
  i9 := by kernel_rfl
  i46 := by kernel_rfl
  i51 := by kernel_rfl
  i146 := by kernel_rfl
  m1 := by kernel_rfl
  s1_3 := fun w h => Go.Proofs.cell_of_shapedOpen_int (zero := #[.int .i64 0]) (t := 3) h (of_decide_eq_true (by kernel_rfl)) (by kernel_rfl) rfl (by kernel_rfl) (by kernel_rfl) Tryz.underlying3
theorem Tryz.index (s sub : ByteArray) (m : Int) (w : World) (hs : s.size < 4294967281) (hm : w.cell? ⟨0, 0, none⟩ = some (.int .i64 m)) :
    Calls Tryz.prog 157 #[.string s, .string sub] w fun e w' => e = .returned (.int .i64 (Lib.index s.data.toList sub.data.toList)) ∧ w' = w := Any.stringslite_Index { Tryz.laysM219 with } s sub m w hs hm
end Go.Proofs
namespace Go.B
open Go Go.Proofs Go.RowKit
set_option maxRecDepth 100000

def HasMax (W : World) : Prop := ∃ m, W.cell? ⟨0, 0, none⟩ = some (.int .i64 m)

theorem HasMax.of {W : World} (h : W.ShapedOpen Tryz.prog) : HasMax W := Tryz.laysM219.s1_3 W h

theorem HasMax.keep (w w' : World) (h : HasMax w) (hb : Below w.heap.size w w') : HasMax w' := by
  obtain ⟨m, hm⟩ := h
  refine ⟨m, ?_⟩
  have hl : 0 < w.heap.size := by
    rcases Nat.eq_zero_or_pos w.heap.size with h0 | h0
    · have : w.heap = #[] := Array.size_eq_zero_iff.1 h0
      simp [World.cell?, this] at hm
    · exact h0
  rw [← hm]
  exact World.cell?_of_block (w := w) (w' := w') (a := ⟨0, 0, none⟩) (hb.block 0 hl)

theorem fn157 : S0.tab.fn 157 = some Tryz.f157 := by kernel_rfl
theorem body157 : Tryz.f157.body.isSome = true := by kernel_rfl
theorem mixed0 : Tryz.prog.follows .mixedOrders = true := by kernel_rfl

theorem sum_index (w0 : World) (hg : HasMax w0) (f : FuncId) (args : List Val) (v : Val) (hs : S0.sum f args = some v) (Γ : Ctx) (h : Heap) (w : World) (args' : Array Value) (R : Rel w0 S0.tab Γ h w) (ha : LRel Γ args args'.toList) :
    Gives Tryz.prog w0 S0.tab Γ h w (callFunc f args') v h := by
  have hs2 : sum0 f args = some v := hs
  clear hs
  unfold sum0 at hs2
  cases hb : Nat.beq f 157 with
  | false => rw [hb] at hs2; cases hs2
  | true =>
    rw [hb, cond_true] at hs2
    obtain rfl := Nat.eq_of_beq_eq_true hb
    split at hs2
    · rename_i s n
      cases hl : Nat.ble s.length 4294967280 with
      | false => rw [hl] at hs2; cases hs2
      | true =>
        rw [hl, cond_true, Option.some.injEq] at hs2
        subst hs2
        have hl := Nat.le_of_ble_eq_true hl
        obtain ⟨l⟩ := args'
        have ha : F2 (VRel Γ) [.str s, .str n] l := ha
        cases ha with
        | cons a1 a2 =>
          cases a2 with
          | cons a2 a3 =>
            cases a3
            cases a1
            cases a2
            obtain ⟨m, hm⟩ := HasMax.keep w0 w hg R.ext
            unfold Gives NextOk
            rw [callFunc_enter tabOk fn157 body157]
            simp only
            refine callsIn_wide.2 ((Tryz.index ⟨s.toArray⟩ ⟨n.toArray⟩ m w (by show s.toArray.size < _; rw [List.size_toArray]; omega) hm).mono fun e w' ⟨he, hw⟩ => ?_)
            subst hw
            exact ⟨_, he, Γ, [], .int _ _, Adv.refl R⟩
    · cases hs2

theorem good0 : ConfGood S0 Tryz.prog HasMax := ⟨tabOk, HasMax.keep, mixed0, sum_index⟩
end Go.B
