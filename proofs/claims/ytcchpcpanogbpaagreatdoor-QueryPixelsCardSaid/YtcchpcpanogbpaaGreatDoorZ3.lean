/- A part of the proof that scrim/scrimlaw21.QueryPixels returns true at every input. -/
import Derived.Test.YtcchpcpanogbpaaGreatDoorZ2
import Derived.Test.YtcchpcpanogbpaaGreatDoorK4
import Derived.Test.YtcchpcpanogbpaaGreatDoorS1
import Derived.Lib.LaidTab
import Derived.MakeChecks
import Derived.Test.YtcchpcpanogbpaaGreatDoorRows
set_option linter.unusedSimpArgs false
set_option linter.unusedVariables false
namespace Go.B
open Go Go.Proofs Go.RowKit
set_option maxRecDepth 100000

theorem good10 : ConfGood S21_10 Tryz.prog HasMax := (((((((((good0.more ok21_0).more ok21_1).more ok21_2).more ok21_3).more ok21_4).more ok21_5).more ok21_6).more ok21_7).more ok21_8).more ok21_9
theorem goodQ : ConfGood SQ Tryz.prog HasMax := (good0.more' good10 rfl (L := LQ) ⟨⟨k21_10_0, trivial⟩, trivial⟩).al _

def zs10 : List Int := (List.range 20).map fun i => (10 : Int) ^ i
theorem pow10_eq : pow10 = zs10.map fun z => Val.int .u64 z := by kernel_rfl
theorem laid10 : (Proofs.YtcchpcpanogbpaaGreatDoor.Rows.laid_internal_strconv_uint64pow10 : DataW Unit) = Lib.tabData .u64 zs10 := by kernel_rfl
theorem g1 : Tryz.prog.globalNamed "internal/strconv.uint64pow10" = some 1 := by kernel_rfl
theorem t1 : (Tryz.prog.globals[1]?).map (·.type) = some 385 := by kernel_rfl

theorem ints_rel {Γ : Ctx} {k : IntKind} : ∀ zs : List Int, LRel Γ (zs.map fun z => Val.int k z) (zs.map fun z => Value.int k z)
  | [] => .nil
  | z :: zs => .cons (.int k z) (ints_rel zs)

/-- What a world holds that the program's tables ask for. -/
def HasPow (W : World) : Prop := ∃ e fr, W.heap[1]? = some (.cells (zs10.map fun z => Value.int .u64 z).toArray e fr)

def ctx10 : Ctx := { mu := fun _ _ => none, fz := fun b => bif Nat.beq b 1 then some (zs10.map fun z => Value.int .u64 z).toArray else none }

theorem rel0 {W : World} (hp : HasPow W) : Rel W tab ctx10 .nil W := by
  refine rel_nil (fun b A h => ?_) (fun g cells h => ?_)
  · have h : (bif Nat.beq b 1 then some (zs10.map fun z => Value.int .u64 z).toArray else none) = some A := h
    cases hb : Nat.beq b 1 with
    | false => rw [hb] at h; cases h
    | true =>
      rw [hb] at h
      obtain rfl := Option.some.inj h
      obtain rfl := Nat.eq_of_beq_eq_true hb
      exact hp
  · rcases g with _ | _ | g
    · have h : (none : Option (List Val)) = some cells := h
      cases h
    · have h : some pow10 = some cells := h
      obtain rfl := Option.some.inj h
      refine ⟨(zs10.map fun z => Value.int .u64 z).toArray, rfl, ?_⟩
      have hl : pow10.length = (zs10.map fun z => Value.int .u64 z).length := by rw [pow10_eq]; simp
      rw [List.toList_toArray, hl, List.take_length, pow10_eq]
      exact ints_rel _
    · have h : (none : Option (List Val)) = some cells := h
      cases h

theorem hasPow {W : World} {ps : List MemPlace} {rest : List (String × DataW Unit)} (h : DataW.LaidVars Tryz.prog W (("internal/strconv.uint64pow10", Proofs.YtcchpcpanogbpaaGreatDoor.Rows.laid_internal_strconv_uint64pow10) :: rest) ps) : HasPow W := by
  obtain ⟨g', t', cs, fuel, p, q, hg', ht', hvar, hd, _, _⟩ := h
  obtain rfl := Option.some.inj (g1.symm.trans hg')
  obtain rfl := Option.some.inj (t1.symm.trans ht')
  rw [laid10] at hd
  have hc := Lib.cells_of_tab Tryz.underlying385 Tryz.underlying336 (by kernel_rfl) (by kernel_rfl) hd
  unfold World.var? at hvar
  rw [g1, Option.bind_some] at hvar
  split at hvar
  · rename_i cs' e fr hw
    obtain rfl := Option.some.inj hvar
    refine ⟨e, fr, ?_⟩
    rw [hw, ← hc]
  · cases hvar

theorem agg_rel {Γ : Ctx} (x y w z : Int) : VRel Γ (.agg [.int .i64 x, .int .i64 y, .int .i64 w, .int .i64 z]) (.agg #[.int .i64 x, .int .i64 y, .int .i64 w, .int .i64 z]) := by
  have : LRel Γ [.int .i64 x, .int .i64 y, .int .i64 w, .int .i64 z] #[Value.int .i64 x, .int .i64 y, .int .i64 w, .int .i64 z].toList := .cons (.int ..) (.cons (.int ..) (.cons (.int ..) (.cons (.int ..) .nil)))
  exact .agg this.arr.1 this.arr.2

theorem body3 : Tryz.f3.body.isSome = true := by kernel_rfl

/-- The law's call, in the model. -/
theorem pixels_calls (x y w z x' y' w' z' : Int) (W : World) (hM : HasMax W) (hp : HasPow W) :
    Calls Tryz.prog 3 #[.agg #[.int .i64 x, .int .i64 y, .int .i64 w, .int .i64 z], .agg #[.int .i64 x', .int .i64 y', .int .i64 w', .int .i64 z']] W fun e W' => e = .returned (.bool true) ∧ Below W.heap.size W W' := by
  obtain ⟨v, h', hc, rfl⟩ := pixels_law x y w z x' y' w' z' (k := fun v _ => v = .bool true) 0 (fun _ => rfl)
  have R : Rel W SQ.tab ctx10 .nil W := rel0 hp
  have g := (call_ok goodQ.ok _ W hM).fn _ _ _ _ _ hc ctx10 W #[.agg #[.int .i64 x, .int .i64 y, .int .i64 w, .int .i64 z], .agg #[.int .i64 x', .int .i64 y', .int .i64 w', .int .i64 z']] R
    (.cons (agg_rel ..) (.cons (agg_rel ..) .nil)) (fun _ _ _ _ => rfl)
  unfold Gives NextOk at g
  rw [callFunc_enter goodQ.tab fn3 body3] at g
  simp only at g
  refine (callsIn_wide.1 g).mono fun e W' ⟨v', he, Δ, D, hv, A⟩ => ?_
  cases hv
  exact ⟨he, A.rel.ext⟩
end Go.B
