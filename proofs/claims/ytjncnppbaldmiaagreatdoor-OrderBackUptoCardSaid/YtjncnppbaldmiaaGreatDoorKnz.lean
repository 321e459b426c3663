/- The evaluator answers true at chapter 20's first(), by the kernel, with its calls known. No condition. -/
import Derived.Test.YtjncnppbaldmiaaGreatDoorKnb
namespace Go.Proofs.YtjncnppbaldmiaaGreatDoor
open Ex
set_option maxRecDepth 100000
noncomputable def knAll : Hook := (orHook kn0.hook (orHook kn2.hook (orHook kn3.hook (orHook kn4.hook (orHook kn6.hook (orHook kn7.hook (orHook kn8.hook (orHook kn10.hook (orHook kn20.hook (orHook kn24.hook knSh))))))))))
theorem knAll_ok : COk Tryz.prog 30 knAll := (orHook_ok kn0_ok (orHook_ok kn2_ok (orHook_ok kn3_ok (orHook_ok kn4_ok (orHook_ok kn6_ok (orHook_ok kn7_ok (orHook_ok kn8_ok (orHook_ok kn10_ok (orHook_ok kn20_ok (orHook_ok kn24_ok knSh_ok))))))))))
theorem first_run (e0 e2 e5 off : Nat) : saysTrue (acall Tryz.prog 30 (evalN Tryz.prog 30 exX knAll 3000) knAll 6 [] (exStart e0 e2 e5 off)) = true := by kernel_rfl
end Go.Proofs.YtjncnppbaldmiaaGreatDoor
