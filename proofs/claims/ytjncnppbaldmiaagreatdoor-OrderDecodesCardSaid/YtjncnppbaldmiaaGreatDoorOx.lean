/- The statement OrderDecodesCardSaid: for every input, the listed tables reading as the program's text lays them, the law OrderDecodes answers true, and each argument reads behind the call as it read before. Its condition: those tables (the card ties them to the text). -/
import Derived.Test.YtjncnppbaldmiaaGreatDoorCards
import Derived.Test.YtjncnppbaldmiaaGreatDoorTie
import Derived.Test.YtjncnppbaldmiaaGreatDoorOv
import Derived.Test.YtjncnppbaldmiaaGreatDoorOg
import Derived.Test.YtjncnppbaldmiaaGreatDoorLa
import Derived.Lay
import Derived.LaidSub
import Derived.JoinedCond
import Derived.OpenShut
import Derived.Deep.DeepHandedRow
import Derived.ChangeOld
import Derived.Below
namespace Go.Proofs.YtjncnppbaldmiaaGreatDoor
open Go.ChangeShapes Go.WideShapes Go.ChangeAt Go.RowKit
theorem OrderDecodes_own : ownKnob Tryz.prog.godebug = none := by kernel_rfl
theorem OrderDecodes_laidOut : laidOutB Tryz.prog = true := by kernel_rfl
set_option maxRecDepth 100000 in
theorem OrderDecodes_contract (H : Type) (enc : TypeId × Value → H) (W : World) (base : Nat) (args : Array Value) (ds gs : List (DataW H)) (before : List MemPlace)
    (hval0 : ∀ (j : Nat) t v, Tryz.f4.params[j]? = some t → args[j]? = some v → Value.okWide Tryz.prog W .any base t v)
    (hW : DataW.Whole enc Tryz.prog Tryz.f4.params.toList Rows.orderDecodesSpec.vars false W args.toList ds gs before) (hL : laidMetH Tryz.prog Rows.orderDecodesRow.laid W) :
    Calls Tryz.prog 4 args W fun e W' => ∃ v, e = .returned v ∧ Rows.orderDecodesSpec.post enc Tryz.prog Tryz.f4 false true false false W args v W' := by
  have hval : ∀ (j : Nat) t v, Tryz.f4.params[j]? = some t → args[j]? = some v → Value.okWide Tryz.prog W .any base t v := hval0
  have hW' := hW
  obtain ⟨p, q, hA0, hV, rfl, hfz, hnd⟩ := hW
  have hA : DataW.TrodAll enc Tryz.prog W 0 (fun _ => true) true Tryz.f4.params.toList args.toList ds p := hA0
  rw [Tryz.params4] at hA hval
  obtain ⟨v0, vs0, d0, ds0, p0, q0, hargs, rfl, rfl, h0, r0⟩ := trodAll_cons hA
  obtain ⟨v1, vs1, d1, ds1, p1, q1, rfl, rfl, rfl, h1, r1⟩ := trodAll_cons r0
  obtain ⟨v2, vs2, d2, ds2, p2, q2, rfl, rfl, rfl, h2, r2⟩ := trodAll_cons r1
  obtain ⟨v3, vs3, d3, ds3, p3, q3, rfl, rfl, rfl, h3, r3⟩ := trodAll_cons r2
  obtain ⟨v4, vs4, d4, ds4, p4, q4, rfl, rfl, rfl, h4, r4⟩ := trodAll_cons r3
  obtain ⟨v5, vs5, d5, ds5, p5, q5, rfl, rfl, rfl, h5, r5⟩ := trodAll_cons r4
  obtain ⟨v6, vs6, d6, ds6, p6, q6, rfl, rfl, rfl, h6, r6⟩ := trodAll_cons r5
  obtain ⟨v7, vs7, d7, ds7, p7, q7, rfl, rfl, rfl, h7, r7⟩ := trodAll_cons r6
  obtain ⟨rfl, rfl, rfl⟩ := trodAll_nil r7
  obtain rfl : args = #[v0, v1, v2, v3, v4, v5, v6, v7] := by cases args; simp_all
  obtain ⟨rfl, rfl⟩ := trodVars_none hV
  obtain ⟨a0, rfl, rfl, rfl, w0⟩ := open_int Tryz.underlying3 (hval 0 3 v0 rfl rfl) h0
  obtain ⟨a1, rfl, rfl, rfl, w1⟩ := open_int Tryz.underlying3 (hval 1 3 v1 rfl rfl) h1
  have lt2 : ∀ x ∈ p2, x.block < W.heap.size := by obtain ⟨m, hm⟩ := h2; exact DataW.trod_lt m _ _ _ hm
  obtain ⟨xs2, s2⟩ := arg_bytes (hval 2 25 v2 rfl rfl) h2
  have lt3 : ∀ x ∈ p3, x.block < W.heap.size := by obtain ⟨m, hm⟩ := h3; exact DataW.trod_lt m _ _ _ hm
  obtain ⟨xs3, s3⟩ := arg_byteLists (hval 3 26 v3 rfl rfl) h3
  have lt4 : ∀ x ∈ p4, x.block < W.heap.size := by obtain ⟨m, hm⟩ := h4; exact DataW.trod_lt m _ _ _ hm
  obtain ⟨xs4, s4⟩ := arg_ints (hval 4 22 v4 rfl rfl) h4
  obtain ⟨a5, rfl, rfl, rfl, w5⟩ := open_int Tryz.underlying3 (hval 5 3 v5 rfl rfl) h5
  obtain ⟨a6, rfl, rfl, rfl, w6⟩ := open_int Tryz.underlying3 (hval 6 3 v6 rfl rfl) h6
  obtain ⟨a7, rfl, rfl, rfl, w7⟩ := open_int Tryz.underlying5 (hval 7 5 v7 rfl rfl) h7
  obtain ⟨y7, hy7⟩ : ∃ y : UInt8, a7 = (y.toNat : Int) := ⟨UInt8.ofNat a7.toNat, by have := bounds_u8 w7; rw [UInt8.toNat_ofNat']; omega⟩
  subst hy7
  clear hA0 hval0
  refine (OrderDecodes_any (tabs hL) s2 s3 s4).mono fun e W' ⟨he, bel⟩ => ?_
  subst he
  exact ⟨_, rfl, _, _, _, [], _, [], hW', trodAll_mk1 (shut_bool Tryz.underlying4 _), (trodAll_cons_mk (shut_int Tryz.underlying3 w0) (trodAll_cons_mk (shut_int Tryz.underlying3 w1) (trodAll_cons_mk (Below.trod OrderDecodes_laidOut (by kernel_rfl) (of_decide_eq_true (by kernel_rfl)) h2 bel lt2) (trodAll_cons_mk (Below.trod OrderDecodes_laidOut (by kernel_rfl) (of_decide_eq_true (by kernel_rfl)) h3 bel lt3) (trodAll_cons_mk (Below.trod OrderDecodes_laidOut (by kernel_rfl) (of_decide_eq_true (by kernel_rfl)) h4 bel lt4) (trodAll_cons_mk (shut_int Tryz.underlying3 w5) (trodAll_cons_mk (shut_int Tryz.underlying3 w6) (trodAll_cons_mk (shut_int Tryz.underlying5 w7) trodAll_mk0)))))))), rfl, bel.frame _, fun h => by cases h⟩
/-- A world in which the tables read as they are laid. -/
noncomputable def laidWorld (os : Os) : World := World.laidAll Tryz.prog os Rows.orderDecodesRow.laid
def wArgs : Array Value := #[.int .i64 0, .int .i64 0, .slice none 0 0, .slice none 0 0, .slice none 0 0, .int .i64 0, .int .i64 0, .int .u8 0]
theorem laid_met (os : Os) : laidMet Tryz.prog Rows.orderDecodesRow.laid ((laidWorld os).forCall (fun _ _ => 0) ⟨#[], wArgs, []⟩).memory :=
  laidMet_laidAll _ (by kernel_rfl) (by kernel_rfl)
theorem reads (os : Os) {H : Type} (enc : TypeId × Value → H) : ∃ places, DataW.whole enc Tryz.prog ((laidWorld os).forCall (fun _ _ => 0) ⟨#[], wArgs, []⟩).memory Tryz.f4.params.toList Rows.orderDecodesSpec.vars false wArgs.toList 8 =
    some ([.lit (.int .i64 0), .lit (.int .i64 0), .nil, .nil, .nil, .lit (.int .i64 0), .lit (.int .i64 0), .lit (.int .u8 0)], [], places) :=
  ⟨[], by kernel_rfl⟩
set_option maxRecDepth 100000 in
theorem OrderDecodes_lifted (os : Os) (started : os.Started) (H : Type) (enc : TypeId × Value → H) (F : Stop.Interp) :
    ReturnsInHanded {} Tryz.checked os 4 .any ((OpenSpec.ofChange Rows.orderDecodesSpec).preRow enc Tryz.prog Tryz.f4 Rows.orderDecodesRow.domain false Rows.orderDecodesRow.laid) (((OpenSpec.ofChange Rows.orderDecodesSpec).at F).post enc Tryz.prog Tryz.f4 false true false false) := by
  obtain ⟨places, hx⟩ := reads os enc
  refine returnsInHanded_of_row (C := Tryz.checked) (s := OpenSpec.ofChange Rows.orderDecodesSpec) OrderDecodes_own started (by kernel_rfl) Tryz.func4
    (witness_row_at (enc := enc) (C := Tryz.checked) false (laidWorld os) wArgs (World.laidAll_os _ _ _) (by kernel_rfl) (by kernel_rfl) (by kernel_rfl)
      (OpenSpec.preRow_of_cond 8 hx (by kernel_rfl) (fun k hk => by cases hk) (by kernel_rfl) (laid_met os))) ?_
  intro W base args ds gs before hval hW _ _ _ hL _ _
  exact OrderDecodes_contract H enc W base args ds gs before hval hW hL
theorem OrderDecodes_closed : joinedFacts Tryz.pinned.checked.prog 4 Tryz.f4 (OpenSpec.ofChange Rows.orderDecodesSpec).bare Rows.orderDecodesRow = true := by kernel_rfl
theorem OrderDecodes_named : Tryz.pinned.checked.prog.funcNamed Rows.orderDecodesRow.func = some 4 := by kernel_rfl
theorem OrderDecodes_inst : Tryz.f4.isInstance Tryz.pinned.checked.prog Rows.orderDecodesRow.origin Rows.orderDecodesRow.targs := of_decide_eq_true (by kernel_rfl)
theorem OrderDecodes_wrap : Tryz.f4.isWrapper Tryz.pinned.checked.prog Rows.orderDecodesRow.wrapper Rows.orderDecodesRow.mainSum := by
  unfold Func.isWrapper
  first | (rw [if_pos (by decide +kernel)]; kernel_rfl) | (rw [if_neg (by decide +kernel)]; exact ⟨rfl, rfl⟩)
theorem OrderDecodes_said : Rows.OrderDecodesSaid :=
  OpenClaim.holds_of_cond 4 Tryz.f4 rfl rfl rfl rfl rfl rfl rfl ⟨rfl, rfl, rfl, rfl, rfl⟩ rfl rfl rfl rfl rfl OrderDecodes_named Tryz.func4 OrderDecodes_closed OrderDecodes_inst OrderDecodes_wrap
    (fun os started H enc _ F => by rw [OpenClaim.pre_eq_preRow]; exact OrderDecodes_lifted os started H enc F)
/-- No parameter wants a stand-in; the program looks. -/
theorem OrderDecodes_plain (f : FuncId) (fn : Func) (hf : Tryz.pinned.checked.prog.funcNamed "pith/pithlaw20.OrderDecodes" = some f) (hfn : Tryz.pinned.checked.prog.funcs[f]? = some fn) :
    true = Tryz.pinned.checked.prog.looks [] ∧ ∀ (j : Nat) t, fn.params[j]? = some t → Tryz.pinned.checked.prog.wantsStandIn t = false := by
  obtain rfl : f = 4 := Option.some.inj ((show Tryz.prog.funcNamed "pith/pithlaw20.OrderDecodes" = some 4 by kernel_rfl).symm.trans hf) |>.symm
  obtain rfl : fn = Tryz.f4 := (Option.some.inj (Tryz.func4.symm.trans hfn)).symm
  refine ⟨by kernel_rfl, fun j t ht => ?_⟩
  rw [Tryz.params4] at ht
  have h2 : t = 3 ∨ t = 25 ∨ t = 26 ∨ t = 22 ∨ t = 5 := by
    have := Array.mem_of_getElem? ht
    simp only [List.mem_toArray, List.mem_cons, List.not_mem_nil, or_false] at this
    rcases this with h | h | h | h | h | h | h | h
    · exact .inl h
    · exact .inl h
    · exact .inr (.inl h)
    · exact .inr (.inr (.inl h))
    · exact .inr (.inr (.inr (.inl h)))
    · exact .inl h
    · exact .inl h
    · exact .inr (.inr (.inr (.inr h)))
  rcases h2 with rfl | rfl | rfl | rfl | rfl
  · exact (show Tryz.prog.wantsStandIn 3 = false by kernel_rfl)
  · exact (show Tryz.prog.wantsStandIn 25 = false by kernel_rfl)
  · exact (show Tryz.prog.wantsStandIn 26 = false by kernel_rfl)
  · exact (show Tryz.prog.wantsStandIn 22 = false by kernel_rfl)
  · exact (show Tryz.prog.wantsStandIn 5 = false by kernel_rfl)
/-- The given statement. -/
theorem OrderDecodes_proved : Rows.OrderDecodesCardSaid :=
  Claim7.holds_tied_plain_at .later [] _ _ _ _ OrderDecodes_said (fun _ h => by cases h) (by kernel_rfl) (fun _ h => by cases h) orderDecodes_row_tie rfl ⟨rfl, rfl⟩ (by kernel_rfl) rfl OrderDecodes_plain (by kernel_rfl)
#print axioms OrderDecodes_proved
end Go.Proofs.YtjncnppbaldmiaaGreatDoor
