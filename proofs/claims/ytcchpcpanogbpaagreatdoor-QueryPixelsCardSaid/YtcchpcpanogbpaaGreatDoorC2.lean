/- A part of the proof that scrim/scrimlaw21.QueryPixels returns true at every input. -/
import Derived.Test.YtcchpcpanogbpaaGreatDoorC1
import Derived.Test.YtcchpcpanogbpaaGreatDoorProg
set_option linter.unusedSimpArgs false
set_option linter.unusedVariables false
namespace Go.B
open Go Go.Proofs
set_option maxRecDepth 100000
theorem names_ok : (Tryz.prog.funcs.toList.all fun F => !(F.name == "runtime.NumGoroutine")) = true := by kernel_rfl
theorem ext260 : ExtOk Tryz.f260 .indexByte := ⟨by kernel_rfl, by kernel_rfl, by kernel_rfl, by kernel_rfl⟩
theorem ext265 : ExtOk Tryz.f265 .count := ⟨by kernel_rfl, by kernel_rfl, by kernel_rfl, by kernel_rfl⟩
theorem ext164 : ExtOk Tryz.f164 .same := ⟨by kernel_rfl, by kernel_rfl, by kernel_rfl, by kernel_rfl⟩
theorem ext253 : ExtOk Tryz.f253 .loadU32 := ⟨by kernel_rfl, by kernel_rfl, by kernel_rfl, by kernel_rfl⟩
theorem ext301 : ExtOk Tryz.f301 .storeU32 := ⟨by kernel_rfl, by kernel_rfl, by kernel_rfl, by kernel_rfl⟩
theorem ext321 : ExtOk Tryz.f321 .casI32 := ⟨by kernel_rfl, by kernel_rfl, by kernel_rfl, by kernel_rfl⟩
theorem ext326 : ExtOk Tryz.f326 .addI32 := ⟨by kernel_rfl, by kernel_rfl, by kernel_rfl, by kernel_rfl⟩
theorem ext320 : ExtOk Tryz.f320 .disable := ⟨by kernel_rfl, by kernel_rfl, by kernel_rfl, by kernel_rfl⟩
theorem ext322 : ExtOk Tryz.f322 .enable := ⟨by kernel_rfl, by kernel_rfl, by kernel_rfl, by kernel_rfl⟩
theorem ext323 : ExtOk Tryz.f323 .acquire := ⟨by kernel_rfl, by kernel_rfl, by kernel_rfl, by kernel_rfl⟩
theorem ext325 : ExtOk Tryz.f325 .releaseMerge := ⟨by kernel_rfl, by kernel_rfl, by kernel_rfl, by kernel_rfl⟩

theorem ext_ok (f : FuncId) (F : Func) (e : Ext) (h1 : Tryz.prog.funcs[f]? = some F) (h2 : extT f = some e) : ExtOk F e := by
  unfold extT at h2
  split at h2
  · cases h2; cases Tryz.func260.symm.trans h1; exact ext260
  · cases h2; cases Tryz.func265.symm.trans h1; exact ext265
  · cases h2; cases Tryz.func164.symm.trans h1; exact ext164
  · cases h2; cases Tryz.func253.symm.trans h1; exact ext253
  · cases h2; cases Tryz.func301.symm.trans h1; exact ext301
  · cases h2; cases Tryz.func321.symm.trans h1; exact ext321
  · cases h2; cases Tryz.func326.symm.trans h1; exact ext326
  · cases h2; cases Tryz.func320.symm.trans h1; exact ext320
  · cases h2; cases Tryz.func322.symm.trans h1; exact ext322
  · cases h2; cases Tryz.func323.symm.trans h1; exact ext323
  · cases h2; cases Tryz.func325.symm.trans h1; exact ext325
  · cases h2

theorem tabOk : TabOk Tryz.prog tab where
  fn := fun f F h => by
    refine ⟨h, ?_⟩
    have h : Tryz.prog.funcs[f]? = some F := h
    have h1 := List.all_eq_true.1 names_ok F (by
      rw [Array.getElem?_eq_some_iff] at h
      obtain ⟨h2, h3⟩ := h
      rw [← h3]; simp)
    simpa using h1
  ext := ext_ok
  info := fun t i h => h
  under := fun t d h => h
  self := fun u h => h
  eqOk := fun t h => by
    have h : (!Tryz.prog.eqGuardType Tryz.prog.depth t && !Tryz.prog.stoodInHeld t) = true := h
    simpa using h
end Go.B
