/- The evaluator's answer at chapter 14's first(): the hooks for functions without a body, and that they stand for what the model does. No condition. -/
import Derived.Test.YtjncnppbaldmiaaGreatDoorRb
import Derived.Test.YtjncnppbaldmiaaGreatDoorProg
import Derived.Test.YtjncnppbaldmiaaGreatDoorChecked
import Derived.KernelRfl
namespace Go.Proofs.YtjncnppbaldmiaaGreatDoor
open Ex
noncomputable def exX : Hook := fun f args h =>
  cond (Nat.beq f 166) (cloneExt args h)
    (cond (Nat.beq f 256) (pureExt Tryz.prog Extern.BytealgCount.count args h)
      (cond (Nat.beq f 274) (pureExt Tryz.prog Extern.BytealgIndexByte.indexByte args h) none))
theorem ext_clone : ExtIs Tryz.prog 166 Extern.MapsClone.clone := run_callFunc_extern Tryz.func166 (by kernel_rfl) (by kernel_rfl) (by kernel_rfl) (by kernel_rfl)
theorem ext_count : ExtIs Tryz.prog 256 Extern.BytealgCount.count := run_callFunc_extern Tryz.func256 (by kernel_rfl) (by kernel_rfl) (by kernel_rfl) (by kernel_rfl)
theorem ext_index : ExtIs Tryz.prog 274 Extern.BytealgIndexByte.indexByte := run_callFunc_extern Tryz.func274 (by kernel_rfl) (by kernel_rfl) (by kernel_rfl) (by kernel_rfl)
theorem exX_ok {ro : Nat} : XOk Tryz.prog ro exX := by
  intro f fn args h v h' _ _ e
  unfold exX at e
  cases e1 : Nat.beq f 166 with
  | true =>
    obtain rfl := Nat.eq_of_beq_eq_true e1
    simp only [e1, cond_true] at e
    exact cloneExt_ok ext_clone args h v h' e
  | false =>
    simp only [e1, cond_false] at e
    cases e2 : Nat.beq f 256 with
    | true =>
      obtain rfl := Nat.eq_of_beq_eq_true e2
      simp only [e2, cond_true] at e
      exact pureExt_ok ext_count args h v h' e
    | false =>
      simp only [e2, cond_false] at e
      cases e3 : Nat.beq f 274 with
      | true =>
        obtain rfl := Nat.eq_of_beq_eq_true e3
        simp only [e3, cond_true] at e
        exact pureExt_ok ext_index args h v h' e
      | false => simp [e3] at e
theorem fit_names : (Tryz.prog.funcs.toList.all fun fn => !(fn.name == "runtime.NumGoroutine")) = true := by kernel_rfl
theorem fit : Fit Tryz.prog := ⟨by kernel_rfl, fun f fn hf => by
  have := List.all_eq_true.1 fit_names fn (Array.mem_toList_iff.2 (Array.mem_of_getElem? hf))
  simpa using this⟩
end Go.Proofs.YtjncnppbaldmiaaGreatDoor
