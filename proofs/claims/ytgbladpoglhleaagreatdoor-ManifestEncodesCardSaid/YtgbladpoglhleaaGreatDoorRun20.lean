/- What the evaluator says of a closed call; the externs. No condition. -/
import Derived.Test.YtgbladpoglhleaaGreatDoorRun19
import Derived.Laws.Externs
namespace Go.Proofs.YtgbladpoglhleaaGreatDoor
namespace Ex
open Go.RowKit
section
variable {P : Program} {ro : Nat} {X C : Hook}
/-- What the evaluator says of a call holds of it. -/
theorem calls_ok (hF : Fit P) (hX : XOk P ro X) (hC : COk P ro C) {k f : Nat} {args : List Value} {h h' : Hp} {v : Value} (e : acall P ro (evalN P ro X C k) C f args h = some (v, h')) (W : WF h) {κ : K} {w : World} {args' : Array Value}
    (H : HR P κ h.m w) (r : LR κ args args'.toList) (hf : ∀ i, h.c ≤ i → ¬κ.dom i) : Calls P f args' w fun e w' => ∃ v', e = .returned v' ∧ Comes' P ro κ h w v h' v' w' :=
  callsIn_wide.1 ((call_ok (evalN_ok hF hX hC k).1 hC e).2 κ w args' 0 W H r fun i a _ => hf i a)
/-- No function is known. -/
def noHook : Hook := fun _ _ _ => none
theorem noHook_ok : COk P ro noHook := fun _ _ _ _ _ h => by simp [noHook] at h
/-- A function for which the model stands in, on values without an address. -/
def pureExt (P : Program) (e : Array Value → Sem Value) (args : List Value) (h : Hp) : Option (Value × Hp) :=
  if args.all closed then
    match cval? P (e args.toArray) with
    | some v => some (v, h)
    | none => none
  else none
def cloneExt (args : List Value) (h : Hp) : Option (Value × Hp) :=
  match args with
  | [.iface t (.map (some r))] => match h.m.get r with
    | some (.map es clock) => some (.iface t (.map (some h.c)), h.new (.map es clock))
    | _ => none
  | _ => none
/-- How a function is stood in for. -/
def ExtIs (P : Program) (f : Nat) (e : Array Value → Sem Value) : Prop := ∀ (args : Array Value) (w : World), (callFunc f args).run P w = ((e args).run P w).andThen fun v w' => .ok (.value v) w'
def HookOk (P : Program) (ro : Nat) (f : Nat) (x : List Value → Hp → Option (Value × Hp)) : Prop := ∀ args h v h', x args h = some (v, h') → Up h h' ∧
  ∀ κ w (args' : Array Value), HR P κ h.m w → LR κ args args'.toList → Free κ h.c h'.c → ∃ v' w', (callFunc f args').run P w = .ok (.value v') w' ∧ Comes' P ro κ h w v h' v' w'
theorem pureExt_ok {f : Nat} {e : Array Value → Sem Value} (hf : ExtIs P f e) : HookOk P ro f (pureExt P e) := by
  intro args h v h' hx
  unfold pureExt at hx
  split at hx
  · rename_i hc
    split at hx
    · rename_i u hu
      simp only [Option.some.injEq, Prod.mk.injEq] at hx
      obtain ⟨rfl, rfl⟩ := hx
      refine ⟨Up.refl _, fun κ w args' H r _ => ⟨u, w, ?_, κ, H, Gone.refl H, (cval_run hu κ w).2⟩⟩
      have he := r.closed hc
      have : args' = args.toArray := by apply Array.ext'; rw [he]
      rw [hf, this, (cval_run hu κ w).1]; rfl
    · cases hx
  · cases hx
theorem cloneExt_ok {f : Nat} (hf : ExtIs P f Extern.MapsClone.clone) : HookOk P ro f cloneExt := by
  intro args h v h' hx
  unfold cloneExt at hx
  split at hx
  · rename_i t r
    split at hx
    · rename_i es clock hob
      simp only [Option.some.injEq, Prod.mk.injEq] at hx
      obtain ⟨rfl, rfl⟩ := hx
      refine ⟨up_new _ _, fun κ w args' H rl hfr => ?_⟩
      obtain ⟨y, ys, hy, r1, r2⟩ := rl.cons_inv
      have := r2.nil_inv
      subst this
      have harg : args' = #[y] := by apply Array.ext'; rw [hy]
      subst harg
      cases r1 with
      | iface _ _ u hu =>
        cases hu with
        | map _ hr =>
          obtain ⟨_, es', ho', he⟩ := map_obj H hob
          have hfree := hfr h.c (Nat.le_refl _) (by simp [Hp.new])
          have hx := Ext.add w.heap.size 0 0 hfree
          obtain ⟨a, b⟩ := go_new (ro := ro) (n := 0) (s := 0) (w' := w.alloc (.map es' clock)) H hfree rfl rfl rfl rfl (.map es clock es' ⟨he.1, fun i e e' p q => (he.2 i e e' p q).ext hx⟩)
          refine ⟨.iface t (.map (some w.heap.size)), w.alloc (.map es' clock), ?_, _, a, b, ?_⟩
          · have hd : Extern.MapsClone.clone #[.iface t (.map (some (κ.p r)))] = (getObj (κ.p r) >>= fun o => match o with
              | .map entries clock => (newObj (.map entries clock) >>= fun n => pure (.iface t (.map (some n))))
              | _ => stuck "maps.clone: a map expected") := rfl
            rw [hf, hd, Sem.run_bind, r_getObj ho' (by simp)]
            rfl
          · have := VR.map (κ := κ.add h.c w.heap.size 0 0) h.c (.inr rfl)
            simp only [K.add, if_true] at this
            exact .iface _ _ _ this
    · cases hx
  · cases hx
/-- The blocks that were there, by their numbers; others by the given map. -/
theorem hr_start {m : Tr AO} {κ : K} {w : World} (ho : ∀ i o, m.get i = some o → κ.dom i ∧ ∃ o', w.heap[κ.p i]? = some o' ∧ OR P κ i o o') (hi : ∀ a b, (m.get a).isSome → (m.get b).isSome → κ.p a = κ.p b → a = b)
    (hg : ∀ g, g < P.globals.size → κ.dom g ∧ κ.p g = g) : HR P κ m w := ⟨ho, hi, hg⟩
/-- Behind a call that wrote to nothing that was there: all is as it was. -/
theorem Gone.below {κ κ' : K} {h h' : Hp} {w w' : World} (G : Gone ro κ κ' h h' w w') (hn : ∀ i, ro ≤ i → h.m.get i = none) : Below w.heap.size w w' :=
  ⟨G.os, G.tape, G.output, G.size, fun b hb => G.frame b hb fun i hi hs => by rw [hn i hi] at hs; cases hs⟩
end
end Ex
end Go.Proofs.YtgbladpoglhleaaGreatDoor
