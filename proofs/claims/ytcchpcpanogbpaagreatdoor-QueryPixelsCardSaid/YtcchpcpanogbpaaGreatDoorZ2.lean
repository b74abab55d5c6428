/- A part of the proof that scrim/scrimlaw21.QueryPixels returns true at every input. -/
import Derived.Test.YtcchpcpanogbpaaGreatDoorZ1
import Derived.IntWalk
set_option linter.unusedSimpArgs false
set_option linter.unusedVariables false
namespace Go.B
open Go Go.Proofs
set_option maxRecDepth 100000
attribute [local irreducible] wpT wpLoop wpRange LoopN
theorem offset_K (x y w z : Int) (h : Heap) (m : Nat) {k : Val → Heap → Prop} (q : k (.agg [.int .i64 (px x), .int .i64 (px y), .int .i64 (px w), .int .i64 (px z)]) h) :
    wpT (callV SQ (m+2)) (.fn 7) [.agg [.int .i64 x, .int .i64 y, .int .i64 w, .int .i64 z]] h k := by
  refine wp_alone (args' := [.agg [.int .i64 x, .int .i64 y, .int .i64 w, .int .i64 z]]) rfl fn7 rfl rfl rfl ⟨rfl, ?_⟩
  conv => whnf
  refine ⟨by kernel_rfl, ?_⟩
  conv => whnf
  refine pixels_K _ _ _ ?_
  conv => whnf
  refine pixels_K _ _ _ ?_
  conv => whnf
  refine pixels_K _ _ _ ?_
  conv => whnf
  refine pixels_K _ _ _ ?_
  conv => whnf
  refine ⟨by kernel_rfl, ?_⟩
  conv => whnf
  exact ⟨rfl, _, rfl, rfl, q⟩

/-- The facts of a number by pixels. -/
theorem px_eq {n : Int} (h : inB n = true) : px n = (n + 32) / 64 := by
  unfold inB at h
  simp only [Bool.and_eq_true, decide_eq_true_eq] at h
  unfold px
  rw [ar_add, ar_shr]
  have e : (2 : Int) ^ (min (Int.ofNat 6).toNat IntKind.i64.bits) = 64 := rfl
  have e2 : (Int.ofNat 32 : Int) = 32 := rfl
  rw [e, e2, IntWalk.i64_in _ (by omega), Int.fdiv_eq_ediv_of_nonneg _ (by omega)]
noncomputable def dd (n : Int) : Int := arW .sub .i64 (arW .mul .i64 (Int.ofNat 64) (px n)) n
theorem dv {n : Int} (h : inB n = true) : dd n = 64 * ((n + 32) / 64) - n := by
  unfold dd
  rw [ar_sub, ar_mul, px_eq h]
  unfold inB at h
  simp only [Bool.and_eq_true, decide_eq_true_eq] at h
  have e : (Int.ofNat 64 : Int) = 64 := rfl
  rw [e, IntWalk.i64_in (64 * ((n + 32) / 64)) (by omega), IntWalk.i64_in _ (by omega)]
theorem dlt {n : Int} (h : inB n = true) : cmpB .lss (arW .sub .i64 (arW .mul .i64 (Int.ofNat 64) (px n)) n) (Int.negSucc 31) = false := by
  have h1 := dv h
  unfold dd at h1
  rw [cmp_lss, h1]
  have e : Int.negSucc 31 = -32 := rfl
  rw [e, decide_eq_false_iff_not]; omega
theorem dgt {n : Int} (h : inB n = true) : cmpB .gtr (arW .sub .i64 (arW .mul .i64 (Int.ofNat 64) (px n)) n) (Int.ofNat 32) = false := by
  have h1 := dv h
  unfold dd at h1
  rw [cmp_gtr, h1]
  have e : Int.ofNat 32 = 32 := rfl
  rw [e, decide_eq_false_iff_not]; omega
theorem dle {n n' : Int} (h : inB n = true) (h' : inB n' = true) (hl : cmpB .leq n n' = true) : cmpB .gtr (px n) (px n') = false := by
  rw [cmp_gtr, px_eq h, px_eq h', decide_eq_false_iff_not]
  rw [cmp_leq, decide_eq_true_eq] at hl
  omega
theorem dne {n : Int} (h : inB n = true) (hm : cmpB .eql (arW .rem .i64 n (Int.ofNat 64)) (Int.ofNat 0) = true) : cmpB .neq (arW .sub .i64 (arW .mul .i64 (Int.ofNat 64) (px n)) n) (Int.ofNat 0) = false := by
  have h1 := dv h
  unfold dd at h1
  rw [cmp_neq, h1]
  rw [cmp_eql, ar_rem] at hm
  have hm : n.tmod 64 = 0 := by simpa using hm
  have : (64 : Int) ∣ n := Int.dvd_of_tmod_eq_zero hm
  have e : Int.ofNat 0 = 0 := rfl
  rw [e]
  simp only [bne_eq_false_iff_eq]
  omega

set_option maxHeartbeats 0 in
theorem pixels_law (x y w z x' y' w' z' : Int) {k : Val → Heap → Prop} (m : Nat) (q : ∀ h, k (.bool true) h) :
    wpT (callV SQ (m+3)) (.fn 3) [.agg [.int .i64 x, .int .i64 y, .int .i64 w, .int .i64 z], .agg [.int .i64 x', .int .i64 y', .int .i64 w', .int .i64 z']] .nil k := by
  refine wp_call rfl fn3 rfl rfl ⟨rfl, ?_⟩
  conv => whnf
  refine wp_sum rfl ?_
  conv => whnf
  refine may_K _ _ _ _ _ _ fun b h1 => ?_
  cases b
  · conv => whnf
    exact ⟨rfl, q _⟩
  conv => whnf
  refine may_K _ _ _ _ _ _ fun b h2 => ?_
  cases b
  · conv => whnf
    exact ⟨rfl, q _⟩
  conv => whnf
  refine ⟨by kernel_rfl, ?_⟩
  conv => whnf
  refine offset_K _ _ _ _ _ _ ?_
  conv => whnf
  refine offset_K _ _ _ _ _ _ ?_
  conv => whnf
  refine ⟨by kernel_rfl, ?_⟩
  conv => whnf
  have c1 := h1
  have c2 := h2
  unfold mayB at c1 c2
  simp only [Bool.and_eq_true] at c1 c2
  obtain ⟨hx, hy, hw, hz, _⟩ := c1
  obtain ⟨hx', hy', hw', hz', _⟩ := c2
  refine wpLoop_of ?_
  all_goals refine LoopN.gen [(2, .ptr 0 0 0), (3, .ptr 1 0 0), (5, .ptr 2 0 0), (6, .ptr 3 0 0), (33, .agg [.int .i64 x, .int .i64 y, .int .i64 w, .int .i64 z]), (34, .int .i64 0)] (fun f => ?_) rfl
  all_goals refine LoopN.round (m := 99999) ?_
  all_goals conv => whnf
  all_goals refine ⟨by kernel_rfl, ?_⟩
  all_goals conv => whnf
  all_goals repeat ((first | with_reducible refine brecF (dlt hx) ?_ | with_reducible refine brecF (dgt hx) ?_); conv => whnf)
  all_goals refine brec (fun l0 => ?_) (fun l0 => ?_)
  all_goals conv => whnf
  all_goals repeat ((first | with_reducible refine brecF l0 ?_ | with_reducible refine brecT l0 ?_ | with_reducible refine brecF (dlt hx) ?_ | with_reducible refine brecF (dgt hx) ?_ | with_reducible refine brecF (dle hx hx' l0) ?_); conv => whnf)
  all_goals refine brec (fun t0 => ?_) (fun t0 => ?_)
  all_goals conv => whnf
  all_goals repeat ((first | with_reducible refine brecF t0 ?_ | with_reducible refine brecT t0 ?_ | with_reducible refine brecF l0 ?_ | with_reducible refine brecT l0 ?_ | with_reducible refine brecF (dlt hx) ?_ | with_reducible refine brecF (dgt hx) ?_ | with_reducible refine brecF (dne hx t0) ?_ | with_reducible refine brecF (dle hx hx' l0) ?_); conv => whnf)
  all_goals refine ⟨by kernel_rfl, ?_⟩
  all_goals conv => whnf
  all_goals repeat ((first | with_reducible refine brecF t0 ?_ | with_reducible refine brecT t0 ?_ | with_reducible refine brecF l0 ?_ | with_reducible refine brecT l0 ?_ | with_reducible refine brecF (dlt hx) ?_ | with_reducible refine brecF (dgt hx) ?_ | with_reducible refine brecF (dne hx t0) ?_ | with_reducible refine brecF (dle hx hx' l0) ?_); conv => whnf)
  all_goals refine LoopN.gen [(2, .ptr 0 0 0), (3, .ptr 1 0 0), (5, .ptr 2 0 0), (6, .ptr 3 0 0), (33, .agg [.int .i64 x, .int .i64 y, .int .i64 w, .int .i64 z]), (34, .int .i64 1)] (fun f => ?_) rfl
  all_goals refine LoopN.round (m := 99998) ?_
  all_goals conv => whnf
  all_goals refine ⟨by kernel_rfl, ?_⟩
  all_goals conv => whnf
  all_goals repeat ((first | with_reducible refine brecF (dlt hy) ?_ | with_reducible refine brecF (dgt hy) ?_); conv => whnf)
  all_goals refine brec (fun l1 => ?_) (fun l1 => ?_)
  all_goals conv => whnf
  all_goals repeat ((first | with_reducible refine brecF l1 ?_ | with_reducible refine brecT l1 ?_ | with_reducible refine brecF (dlt hy) ?_ | with_reducible refine brecF (dgt hy) ?_ | with_reducible refine brecF (dle hy hy' l1) ?_); conv => whnf)
  all_goals refine brec (fun t1 => ?_) (fun t1 => ?_)
  all_goals conv => whnf
  all_goals repeat ((first | with_reducible refine brecF t1 ?_ | with_reducible refine brecT t1 ?_ | with_reducible refine brecF l1 ?_ | with_reducible refine brecT l1 ?_ | with_reducible refine brecF (dlt hy) ?_ | with_reducible refine brecF (dgt hy) ?_ | with_reducible refine brecF (dne hy t1) ?_ | with_reducible refine brecF (dle hy hy' l1) ?_); conv => whnf)
  all_goals refine ⟨by kernel_rfl, ?_⟩
  all_goals conv => whnf
  all_goals repeat ((first | with_reducible refine brecF t1 ?_ | with_reducible refine brecT t1 ?_ | with_reducible refine brecF l1 ?_ | with_reducible refine brecT l1 ?_ | with_reducible refine brecF (dlt hy) ?_ | with_reducible refine brecF (dgt hy) ?_ | with_reducible refine brecF (dne hy t1) ?_ | with_reducible refine brecF (dle hy hy' l1) ?_); conv => whnf)
  all_goals refine LoopN.gen [(2, .ptr 0 0 0), (3, .ptr 1 0 0), (5, .ptr 2 0 0), (6, .ptr 3 0 0), (33, .agg [.int .i64 x, .int .i64 y, .int .i64 w, .int .i64 z]), (34, .int .i64 2)] (fun f => ?_) rfl
  all_goals refine LoopN.round (m := 99997) ?_
  all_goals conv => whnf
  all_goals refine ⟨by kernel_rfl, ?_⟩
  all_goals conv => whnf
  all_goals repeat ((first | with_reducible refine brecF (dlt hw) ?_ | with_reducible refine brecF (dgt hw) ?_); conv => whnf)
  all_goals refine brec (fun l2 => ?_) (fun l2 => ?_)
  all_goals conv => whnf
  all_goals repeat ((first | with_reducible refine brecF l2 ?_ | with_reducible refine brecT l2 ?_ | with_reducible refine brecF (dlt hw) ?_ | with_reducible refine brecF (dgt hw) ?_ | with_reducible refine brecF (dle hw hw' l2) ?_); conv => whnf)
  all_goals refine brec (fun t2 => ?_) (fun t2 => ?_)
  all_goals conv => whnf
  all_goals repeat ((first | with_reducible refine brecF t2 ?_ | with_reducible refine brecT t2 ?_ | with_reducible refine brecF l2 ?_ | with_reducible refine brecT l2 ?_ | with_reducible refine brecF (dlt hw) ?_ | with_reducible refine brecF (dgt hw) ?_ | with_reducible refine brecF (dne hw t2) ?_ | with_reducible refine brecF (dle hw hw' l2) ?_); conv => whnf)
  all_goals refine ⟨by kernel_rfl, ?_⟩
  all_goals conv => whnf
  all_goals repeat ((first | with_reducible refine brecF t2 ?_ | with_reducible refine brecT t2 ?_ | with_reducible refine brecF l2 ?_ | with_reducible refine brecT l2 ?_ | with_reducible refine brecF (dlt hw) ?_ | with_reducible refine brecF (dgt hw) ?_ | with_reducible refine brecF (dne hw t2) ?_ | with_reducible refine brecF (dle hw hw' l2) ?_); conv => whnf)
  all_goals refine LoopN.gen [(2, .ptr 0 0 0), (3, .ptr 1 0 0), (5, .ptr 2 0 0), (6, .ptr 3 0 0), (33, .agg [.int .i64 x, .int .i64 y, .int .i64 w, .int .i64 z]), (34, .int .i64 3)] (fun f => ?_) rfl
  all_goals refine LoopN.round (m := 99996) ?_
  all_goals conv => whnf
  all_goals refine ⟨by kernel_rfl, ?_⟩
  all_goals conv => whnf
  all_goals repeat ((first | with_reducible refine brecF (dlt hz) ?_ | with_reducible refine brecF (dgt hz) ?_); conv => whnf)
  all_goals refine brec (fun l3 => ?_) (fun l3 => ?_)
  all_goals conv => whnf
  all_goals repeat ((first | with_reducible refine brecF l3 ?_ | with_reducible refine brecT l3 ?_ | with_reducible refine brecF (dlt hz) ?_ | with_reducible refine brecF (dgt hz) ?_ | with_reducible refine brecF (dle hz hz' l3) ?_); conv => whnf)
  all_goals refine brec (fun t3 => ?_) (fun t3 => ?_)
  all_goals conv => whnf
  all_goals repeat ((first | with_reducible refine brecF t3 ?_ | with_reducible refine brecT t3 ?_ | with_reducible refine brecF l3 ?_ | with_reducible refine brecT l3 ?_ | with_reducible refine brecF (dlt hz) ?_ | with_reducible refine brecF (dgt hz) ?_ | with_reducible refine brecF (dne hz t3) ?_ | with_reducible refine brecF (dle hz hz' l3) ?_); conv => whnf)
  all_goals refine ⟨by kernel_rfl, ?_⟩
  all_goals conv => whnf
  all_goals repeat ((first | with_reducible refine brecF t3 ?_ | with_reducible refine brecT t3 ?_ | with_reducible refine brecF l3 ?_ | with_reducible refine brecT l3 ?_ | with_reducible refine brecF (dlt hz) ?_ | with_reducible refine brecF (dgt hz) ?_ | with_reducible refine brecF (dne hz t3) ?_ | with_reducible refine brecF (dle hz hz' l3) ?_); conv => whnf)
  all_goals refine LoopN.gen [(2, .ptr 0 0 0), (3, .ptr 1 0 0), (5, .ptr 2 0 0), (6, .ptr 3 0 0), (33, .agg [.int .i64 x, .int .i64 y, .int .i64 w, .int .i64 z]), (34, .int .i64 4)] (fun f => ?_) rfl
  all_goals refine LoopN.round (m := 99995) ?_
  all_goals conv => whnf
  all_goals exact ⟨rfl, q _⟩
end Go.B
