/- A part of the proof that scrim/scrimlaw21.QueryPixels returns true at every input. -/
import Derived.Test.YtcchpcpanogbpaaGreatDoorZ3
import Derived.Test.YtcchpcpanogbpaaGreatDoorTie
import Derived.Test.YtcchpcpanogbpaaGreatDoorCards
import Derived.ProofKit
import Derived.OpenShut
import Derived.LaidMore
import Derived.Lay
import Derived.SevenTiedAt
import Derived.Stop.Joined
import Derived.Carry
import Derived.Lib.SmallJoins
set_option linter.unusedSimpArgs false
set_option linter.unusedVariables false
namespace Go.Proofs.YtcchpcpanogbpaaGreatDoor
open Go.ChangeShapes Go.WideShapes Go.ChangeAt Go.RowKit Go.Lib
set_option maxRecDepth 100000

theorem own : ownKnob Tryz.prog.godebug = none := by kernel_rfl
theorem laidOut : laidOutB Tryz.prog = true := by kernel_rfl
theorem cells23 : Tryz.prog.cellsOf 23 = 4 := by kernel_rfl

theorem lifted (os : Os) (started : os.Started) (H : Type) (enc : TypeId × Value → H) :
    ReturnsInHanded {} Tryz.checked os 3 .any (fun w args => (Rows.queryPixelsSpec.pre enc Tryz.prog Tryz.f3 Rows.queryPixelsRow.domain false w args ∧ laidMetH Tryz.prog Rows.queryPixelsRow.laid w) ∧ sizedMet enc Tryz.prog Tryz.f3 (OpenSpec.ofChange Rows.queryPixelsSpec) false w args)
      (Rows.queryPixelsSpec.post enc Tryz.prog Tryz.f3 false true false false) := by
  refine returnsInHanded_of_calls own started (by kernel_rfl)
    (ChangeSpec.witness_shaped (enc := enc) (C := Tryz.checked) (os := os) (X := fun w _ => laidMetH Tryz.prog Rows.queryPixelsRow.laid w) false (World.laidAll Tryz.prog os Rows.queryPixelsRow.laid)
      #[.agg #[.int .i64 0, .int .i64 0, .int .i64 0, .int .i64 0], .agg #[.int .i64 0, .int .i64 0, .int .i64 0, .int .i64 0]] 8 (World.laidAll_os _ _ _)
      (World.shaped_of_ZipB (by kernel_rfl) (by kernel_rfl)) (by kernel_rfl) (by kernel_rfl) (by kernel_rfl)
      (by rw [MakeChecks.laidMetH_plain _ _ _ (by kernel_rfl)]; exact laidMet_laidAll _ (by kernel_rfl) (by kernel_rfl))) ?_
  intro w tape i _ hsh0 _ hok hpre _
  obtain ⟨_, _, _, fn', hfn', _, _, _, _, hval0⟩ := hok
  obtain rfl : fn' = Tryz.f3 := Option.some.inj (hfn'.symm.trans Tryz.func3)
  obtain ⟨⟨⟨ds, gs, before, hw, _⟩, hL0⟩, _⟩ := hpre
  have hW := DataW.Whole.of_heap (w' := w.forCall tape i) (by rfl) hw
  have hL : laidMetH Tryz.prog Rows.queryPixelsRow.laid (w.forCall tape i) := hL0.of_heap (by rfl)
  have hsh : (w.forCall tape i).ShapedOpen Tryz.prog := hsh0
  have hval : ∀ (j : Nat) t v, Tryz.f3.params[j]? = some t → i.args[j]? = some v → Value.okWide Tryz.prog (w.forCall tape i) .any w.heap.size t v := hval0
  suffices h : Calls Tryz.prog 3 i.args (w.forCall tape i) fun e W' => ∃ v, e = .returned v ∧ Rows.queryPixelsSpec.post enc Tryz.prog Tryz.f3 false true false false (w.forCall tape i) i.args v W' from
    h.mono fun e W' ⟨v, he, hp⟩ => by subst he; exact ChangeSpec.post_blind hp
  clear hval0 hsh0 hL0 hw hfn'
  generalize w.forCall tape i = W at hW hL hsh hval ⊢
  generalize i.args = args at hW hval ⊢
  have hW' := hW
  obtain ⟨p, q, hA0, hV, rfl, _, _⟩ := hW
  have hA : DataW.TrodAll enc Tryz.prog W 0 (fun _ => true) true Tryz.f3.params.toList args.toList ds p := hA0
  rw [Tryz.params3] at hA hval
  obtain ⟨v0, v1, d0, d1, p0, p1, rfl, rfl, rfl, h0, h1⟩ := trodAll_two hA
  obtain ⟨rfl, rfl⟩ := trodVars_none hV
  have k0 := h0
  have k1 := h1
  have lt0 : ∀ x ∈ p0, x.block < W.heap.size := by obtain ⟨m, hm⟩ := k0; exact DataW.trod_lt m _ _ _ hm
  have lt1 : ∀ x ∈ p1, x.block < W.heap.size := by obtain ⟨m, hm⟩ := k1; exact DataW.trod_lt m _ _ _ hm
  obtain ⟨x0, x1, x2, x3, y0, y1, y2, y3, n, rfl, _, _, a0, a1, a2, a3⟩ := Go.Joins.open_agg4 Tryz.underlying23 (by kernel_rfl) cells23 (hval 0 23 _ rfl rfl) h0
  obtain ⟨z0, z1, z2, z3, u0, u1, u2, u3, m, rfl, _, _, b0, b1, b2, b3⟩ := Go.Joins.open_agg4 Tryz.underlying23 (by kernel_rfl) cells23 (hval 1 23 _ rfl rfl) h1
  obtain ⟨x, e, _, _⟩ := DataW.trod_int Tryz.underlying2 a0
  obtain rfl := (List.cons.inj e).1
  obtain ⟨y, e, _, _⟩ := DataW.trod_int Tryz.underlying2 a1
  obtain rfl := (List.cons.inj e).1
  obtain ⟨z, e, _, _⟩ := DataW.trod_int Tryz.underlying2 a2
  obtain rfl := (List.cons.inj e).1
  obtain ⟨v, e, _, _⟩ := DataW.trod_int Tryz.underlying2 a3
  obtain rfl := (List.cons.inj e).1
  obtain ⟨x', e, _, _⟩ := DataW.trod_int Tryz.underlying2 b0
  obtain rfl := (List.cons.inj e).1
  obtain ⟨y', e, _, _⟩ := DataW.trod_int Tryz.underlying2 b1
  obtain rfl := (List.cons.inj e).1
  obtain ⟨z', e, _, _⟩ := DataW.trod_int Tryz.underlying2 b2
  obtain rfl := (List.cons.inj e).1
  obtain ⟨v', e, _, _⟩ := DataW.trod_int Tryz.underlying2 b3
  obtain rfl := (List.cons.inj e).1
  have hpow : Go.B.HasPow W := by
    rw [MakeChecks.laidMetH_plain _ _ _ (by kernel_rfl)] at hL
    obtain ⟨ps, ⟨_, _, _, _, _, _, _, _, _, _, ⟨_, _, _, _, _, _, _, _, _, _, hl, _⟩, _⟩, _, _⟩ := hL
    exact Go.B.hasPow hl
  refine (Go.B.pixels_calls x y z v x' y' z' v' W (.of hsh) hpow).mono fun e W' ⟨he, bel⟩ => ?_
  subst he
  exact ⟨_, rfl, _, _, _, [], _, [], hW', trodAll_mk1 (shut_bool Tryz.underlying4 _), trodAll_mk2 (Below.trod laidOut (by kernel_rfl) (of_decide_eq_true (by kernel_rfl)) k0 bel lt0) (Below.trod laidOut (by kernel_rfl) (of_decide_eq_true (by kernel_rfl)) k1 bel lt1), rfl, bel.frame _, fun h => by cases h⟩

end Go.Proofs.YtcchpcpanogbpaaGreatDoor
