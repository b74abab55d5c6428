/- A part of the proof that scrim/scrimlaw21.QueryPixels returns true at every input. -/
import Derived.Test.YtcchpcpanogbpaaGreatDoorC2
import Derived.Test.YtcchpcpanogbpaaGreatDoorL1
set_option linter.unusedSimpArgs false
set_option linter.unusedVariables false
namespace Go.B
open Go Go.Proofs
set_option maxRecDepth 100000
attribute [local irreducible] wpT wpLoop wpRange LoopN
def inB (n : Int) : Bool := decide (-1099511627776 ≤ n) && decide (n ≤ 1099511627776)
def LQ : Tbl := [(5, [([], .bool true)])]
noncomputable def SQ : Conf := (S0.with LQ).al fun f => Nat.beq f 6 || Nat.beq f 7
theorem fn3 : SQ.tab.fn 3 = some Tryz.f3 := by kernel_rfl
theorem fn21 : SQ.tab.fn 21 = some Tryz.f21 := by kernel_rfl
theorem fn22 : SQ.tab.fn 22 = some Tryz.f22 := by kernel_rfl
theorem fn6 : SQ.tab.fn 6 = some Tryz.f6 := by kernel_rfl
theorem fn7 : SQ.tab.fn 7 = some Tryz.f7 := by kernel_rfl
theorem within_K (n : Int) (h : Heap) (m : Nat) {k : Val → Heap → Prop} (q : ∀ b, inB n = b → k (.bool b) h) : wpT (callV SQ (m+1)) (.fn 21) [.int .i64 n] h k := by
  refine wp_call rfl fn21 rfl rfl ⟨rfl, ?_⟩
  conv => whnf
  refine brec (fun h1 => ?_) (fun h1 => ?_)
  · conv => whnf
    refine brecF h1 ?_
    conv => whnf
    refine brecF h1 ?_
    conv => whnf
    refine ⟨rfl, q _ ?_⟩
    rw [cmp_geq] at h1
    have h1 : decide (-1099511627776 ≤ n) = false := h1
    unfold inB; rw [h1]; rfl
  · conv => whnf
    refine brecT h1 ?_
    conv => whnf
    refine brecT h1 ?_
    conv => whnf
    refine ⟨rfl, q _ ?_⟩
    rw [cmp_geq] at h1
    have h1 : decide (-1099511627776 ≤ n) = true := h1
    unfold inB; rw [h1, cmp_leq]; rfl
noncomputable def px (n : Int) : Int := arW .shr .i64 (arW .add .i64 n (Int.ofNat 32)) (Int.ofNat 6)
theorem pixels_K (n : Int) (h : Heap) (m : Nat) {k : Val → Heap → Prop} (q : k (.int .i64 (px n)) h) : wpT (callV SQ (m+1)) (.fn 22) [.int .i64 n] h k := by
  refine wp_call rfl fn22 rfl rfl ⟨rfl, ?_⟩
  conv => whnf
  exact ⟨rfl, q⟩
def mayB (x y w z : Int) : Bool := inB x && (inB y && (inB w && (inB z && (decide (0 ≤ w) && decide (0 ≤ z)))))
theorem may_K (x y w z : Int) (h : Heap) (m : Nat) {k : Val → Heap → Prop} (q : ∀ b, mayB x y w z = b → k (.bool b) h) :
    wpT (callV SQ (m+2)) (.fn 6) [.agg [.int .i64 x, .int .i64 y, .int .i64 w, .int .i64 z]] h k := by
  refine wp_alone (args' := [.agg [.int .i64 x, .int .i64 y, .int .i64 w, .int .i64 z]]) rfl fn6 rfl rfl rfl ⟨rfl, ?_⟩
  conv => whnf
  refine within_K _ _ _ fun b h1 => ?_
  cases b
  · conv => whnf
    exact ⟨rfl, _, rfl, rfl, q _ (by unfold mayB; rw [h1]; rfl)⟩
  conv => whnf
  refine within_K _ _ _ fun b h2 => ?_
  cases b
  · conv => whnf
    exact ⟨rfl, _, rfl, rfl, q _ (by unfold mayB; rw [h1, h2]; rfl)⟩
  conv => whnf
  refine within_K _ _ _ fun b h3 => ?_
  cases b
  · conv => whnf
    exact ⟨rfl, _, rfl, rfl, q _ (by unfold mayB; rw [h1, h2, h3]; rfl)⟩
  conv => whnf
  refine within_K _ _ _ fun b h4 => ?_
  cases b
  · conv => whnf
    exact ⟨rfl, _, rfl, rfl, q _ (by unfold mayB; rw [h1, h2, h3, h4]; rfl)⟩
  conv => whnf
  have e5 : ∀ b, cmpB .geq w (Int.ofNat 0) = b → decide (0 ≤ w) = b := fun b h => by rw [cmp_geq] at h; exact h
  refine brec (fun h5 => ?_) (fun h5 => ?_)
  · conv => whnf
    refine brecF h5 ?_
    conv => whnf
    refine brecF h5 ?_
    conv => whnf
    refine brecF h5 ?_
    conv => whnf
    exact ⟨rfl, _, rfl, rfl, q _ (by unfold mayB; rw [h1, h2, h3, h4, e5 _ h5]; rfl)⟩
  · conv => whnf
    refine brecT h5 ?_
    conv => whnf
    refine brecT h5 ?_
    conv => whnf
    refine brecT h5 ?_
    conv => whnf
    exact ⟨rfl, _, rfl, rfl, q _ (by unfold mayB; rw [h1, h2, h3, h4, e5 _ h5, cmp_geq]; rfl)⟩
end Go.B
