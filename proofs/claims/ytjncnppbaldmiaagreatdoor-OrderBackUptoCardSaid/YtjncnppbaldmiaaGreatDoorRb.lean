/- What the evaluator says of a closed call; the externs. No condition. -/
import Derived.Scope
import Derived.Test.YtjncnppbaldmiaaGreatDoorRa
import Derived.RangeFuncRecord
import Derived.Laws.Externs
namespace Go.Proofs.YtjncnppbaldmiaaGreatDoor
section
namespace Ex
section
variable {P : Program} {ro : Nat} {X : Hook}
/-- What is asked of the program: its choices, and a name that no function bears. -/
structure Fit (P : Program) : Prop where
  mixed : P.follows .mixedOrders = true
  names : ∀ (f : Nat) fn, P.funcs[f]? = some fn → (fn.name == "runtime.NumGoroutine") = false
/-- What a call becomes: in the evaluator's memory and in the world. -/
def Comes' (P : Program) (ro : Nat) (κ : K) (h : Hp) (w : World) (v : Value) (h' : Hp) (v' : Value) (w' : World) : Prop := ∃ κ', HR P κ' h'.m w' ∧ Gone ro κ κ' h h' w w' ∧ VR κ' v v'
/-- All numbers in use lie below the count. -/
def WF (h : Hp) : Prop := (∀ i, (h.m.get i).isSome → i < h.c) ∧ ∀ i ∈ h.wl, i < h.c
def Up (h h' : Hp) : Prop := h.c ≤ h'.c ∧ (WF h → WF h')
theorem Up.refl (h : Hp) : Up h h := ⟨Nat.le_refl _, id⟩
theorem Up.trans {a b c : Hp} (x : Up a b) (y : Up b c) : Up a c := ⟨Nat.le_trans x.1 y.1, fun w => y.2 (x.2 w)⟩
theorem up_new (h : Hp) (o : AO) : Up h (h.new o) := ⟨by simp [Hp.new], fun w => ⟨fun i hi => by
    rw [Hp.get_new] at hi
    show i < h.c + 1
    split at hi
    · omega
    · have := w.1 i hi; omega, fun i hi => by
    show i < h.c + 1
    have := w.2 i hi; omega⟩⟩
theorem up_upd {h h' : Hp} {b : Nat} {x : AO} {o : Option AO} (hb : h.m.get b = some x) (e : h.upd ro b o = some h') : Up h h' := by
  rw [(Hp.upd_inv e).2]
  refine ⟨Nat.le_refl _, fun w => ⟨fun i hi => ?_, fun i hi => ?_⟩⟩
  · simp only [Tr.get_put] at hi
    split at hi
    · rename_i q; rw [q]; exact w.1 b (by rw [hb]; rfl)
    · exact w.1 i hi
  · rcases mem_addW.1 hi with rfl | hi
    · exact w.1 _ (by rw [hb]; rfl)
    · exact w.2 i hi
def XOk (P : Program) (ro : Nat) (X : Hook) : Prop := ∀ (f : Nat) fn args h v h', P.funcs[f]? = some fn → fn.body = none → X f args h = some (v, h') → Up h h' ∧
  ∀ κ w (args' : Array Value), HR P κ h.m w → LR κ args args'.toList → Free κ h.c h'.c → ∃ v' w', (callFunc f args').run P w = .ok (.value v') w' ∧ Comes' P ro κ h w v h' v' w'
def ORun (P : Program) (s : Sem Next) (w : World) (v' : Value) (w' : World) : Prop := s.run P w = .ok (.value v') w' ∨ (v' = undef ∧ s.run P w = .ok .skip w')
def OutOk (P : Program) (ro : Nat) (ts : TS) (h : Hp) (o : Oper) : Out → Prop
  | .val v h' => Up h h' ∧ ∀ κ (a : Act) w, HR P κ h.m w → TR κ ts a.tmps → Free κ h.c h'.c → ∃ v' w', ORun P (execOp a.eval o) w v' w' ∧ Comes' P ro κ h w v h' v' w'
  | .enter f args h' => h' = h ∧ ∀ κ (a : Act) w, HR P κ h.m w → TR κ ts a.tmps → ∃ args' : Array Value, (execOp a.eval o).run P w = .ok (.enter f args') w ∧ LR κ args args'.toList
  | .round l args h' => h' = h ∧ ∀ κ (a : Act) w, HR P κ h.m w → TR κ ts a.tmps → ∃ args' : Array Value, κ.dom l ∧ (execOp a.eval o).run P w = (Instr.yield (κ.p l) args').run P w ∧ LR κ args args'.toList
theorem parts_pr {κ : K} (H : ∀ g, g < P.globals.size → κ.dom g ∧ κ.p g = g) {ts : TS} {a : Act} (T : TR κ ts a.tmps) : ∀ {xs : List (Nat × Operand)} {vs : List (Nat × Value)}, evParts P ts xs = some vs → PR κ vs (xs.map fun (i, x) => (i, a.eval x))
  | [], vs, e => by simp only [evParts, Option.some.injEq] at e; subst e; exact ⟨rfl, fun i p p' h => by simp at h⟩
  | (i, x) :: xs, vs, e => by
    simp only [evParts, Option.bind_eq_bind] at e
    obtain ⟨v, hv, e⟩ := Option.bind_eq_some_iff.1 e
    obtain ⟨ws, hw, e⟩ := Option.bind_eq_some_iff.1 e
    simp only [Option.some.injEq] at e; subst e
    have ih := parts_pr H T hw
    refine ⟨by simp [ih.1], fun j p p' a b => ?_⟩
    cases j with
    | zero => simp at a b; subst a; subst b; exact ⟨rfl, evO_vr H T hv⟩
    | succ j => exact ih.2 j p p' (by simpa using a) (by simpa using b)
theorem opt_r {κ : K} (H : ∀ g, g < P.globals.size → κ.dom g ∧ κ.p g = g) {ts : TS} {a : Act} (T : TR κ ts a.tmps) {x : Option Operand} {v : Option Value} (e : evOpt P ts x = some v) : OptR κ v (x.map a.eval) := by
  cases x with
  | none => simp only [evOpt, Option.some.injEq] at e; subst e; trivial
  | some x =>
    simp only [evOpt] at e
    obtain ⟨u, hu, rfl⟩ := Option.map_eq_some_iff.1 e
    exact evO_vr H T hu
theorem upd_c {h h' : Hp} {b : Nat} {o : Option AO} (e : h.upd ro b o = some h') : h'.c = h.c := by rw [(Hp.upd_inv e).2]
theorem st_up {h h' : Hp} {b off : Nat} {vs : List Value} (e : stAt ro h b off vs = some h') : Up h h' := by
  unfold stAt at e
  split at e
  · rename_i c t hob
    by_cases hc : (Nat.ble (off + vs.length) c.length && vs.all scalar) = true
    · rw [hc] at e; exact up_upd hob e
    · have : (Nat.ble (off + vs.length) c.length && vs.all scalar) = false := by simpa using hc
      rw [this] at e; cases e
  · cases e
theorem append_up {h h' : Hp} {ats : List TypeId} {s x v : Value} (e : aappend P ro ats h s x = some (v, h')) : Up h h' := by
  unfold aappend at e
  repeat' split at e
  all_goals first
    | (cases e; done)
    | (simp only [Option.some.injEq, Prod.mk.injEq] at e
       obtain ⟨-, rfl⟩ := e
       first
        | exact Up.refl _
        | exact up_new _ _
        | (rename_i q; exact st_up q)
        | (rename_i q; exact (up_upd (by assumption) q).trans (up_new _ _)))
theorem copy_up {h h' : Hp} {ats : List TypeId} {s x v : Value} (e : acopy P ro ats h s x = some (v, h')) : Up h h' := by
  unfold acopy at e
  repeat' split at e
  all_goals first
    | (cases e; done)
    | (simp only [Option.some.injEq, Prod.mk.injEq] at e
       obtain ⟨-, rfl⟩ := e
       first
        | exact Up.refl _
        | (rename_i q; exact st_up q))
theorem update_up {h h' : Hp} {t : TypeId} {m k v : Value} (e : aupdate P ro t h m k v = some h') : Up h h' := by
  unfold aupdate at e
  repeat' split at e
  all_goals first | (cases e; done) | exact up_upd (by assumption) e
theorem delete_up {h h' : Hp} {t : TypeId} {m k : Value} (e : adelete P ro t h m k = some h') : Up h h' := by
  unfold adelete at e
  repeat' split at e
  all_goals first | (cases e; done) | exact up_upd (by assumption) e | (simp only [Option.some.injEq] at e; subst e; exact Up.refl _)
theorem next_up {h h' : Hp} {it v : Value} {b : Bool} (e : anext ro h it b = some (v, h')) : Up h h' := by
  unfold anext at e
  repeat' split at e
  all_goals first
    | (cases e; done)
    | (simp only [Option.some.injEq, Prod.mk.injEq] at e
       obtain ⟨-, rfl⟩ := e
       first
        | exact Up.refl _
        | (rename_i q; exact up_upd (by assumption) q))
theorem range_up {h h' : Hp} {t : TypeId} {x v : Value} (e : arange P t h x = some (v, h')) : Up h h' := by
  unfold arange at e
  repeat' split at e
  all_goals first
    | (cases e; done)
    | (simp only [Option.some.injEq, Prod.mk.injEq] at e
       obtain ⟨-, rfl⟩ := e
       exact up_new _ _)
theorem makeSlice_up {h h' : Hp} {t : TypeId} {l c v : Value} (e : amakeSlice P t h l c = some (v, h')) : Up h h' := by
  unfold amakeSlice at e
  simp only [Option.bind_eq_bind] at e
  obtain ⟨d, hd, e⟩ := Option.bind_eq_some_iff.1 e
  split at e
  · obtain ⟨_, _, e⟩ := Option.bind_eq_some_iff.1 e
    obtain ⟨_, _, e⟩ := Option.bind_eq_some_iff.1 e
    obtain ⟨_, _, e⟩ := Option.bind_eq_some_iff.1 e
    obtain ⟨_, _, e⟩ := Option.bind_eq_some_iff.1 e
    split at e
    · simp only [Option.some.injEq, Prod.mk.injEq] at e
      obtain ⟨-, rfl⟩ := e
      exact up_new _ _
    · cases e
  · cases e
theorem buildSlice_up {h h' : Hp} {t : TypeId} {n : Nat} {ps : List (Nat × Value)} {v : Value} (e : abuildSlice P t n ps h = some (v, h')) : Up h h' := by
  unfold abuildSlice at e
  repeat' split at e
  all_goals first
    | (cases e; done)
    | (simp only [Option.some.injEq, Prod.mk.injEq] at e
       obtain ⟨-, rfl⟩ := e
       exact up_new _ _)
theorem store_up {h h' : Hp} {t : TypeId} {a v : Value} (e : astore P ro t h a v = some h') : Up h h' := by
  unfold astore at e
  split at e
  · simp only [Option.bind_eq_bind] at e
    obtain ⟨n, hn, e⟩ := Option.bind_eq_some_iff.1 e
    repeat' split at e
    all_goals first
      | (cases e; done)
      | (simp only [Option.some.injEq] at e; subst e; exact Up.refl _)
      | exact st_up e
  · cases e
theorem convert_up {h h' : Hp} {s d : TypeId} {x v : Value} (e : aconvert P s d h x = some (v, h')) : Up h h' := by
  unfold aconvert at e
  simp only [Option.bind_eq_bind] at e
  obtain ⟨d1, hd1, e⟩ := Option.bind_eq_some_iff.1 e
  obtain ⟨d2, hd2, e⟩ := Option.bind_eq_some_iff.1 e
  split at e
  · simp only [Option.some.injEq, Prod.mk.injEq] at e; rw [← e.2]; exact Up.refl _
  · simp only [Option.some.injEq, Prod.mk.injEq] at e; rw [← e.2]; exact Up.refl _
  · obtain ⟨d3, hd3, e⟩ := Option.bind_eq_some_iff.1 e
    split at e
    · simp only [Option.some.injEq, Prod.mk.injEq] at e; rw [← e.2]; exact up_new _ _
    · cases e
  · obtain ⟨d3, hd3, e⟩ := Option.bind_eq_some_iff.1 e
    split at e
    · simp only [Option.some.injEq, Prod.mk.injEq] at e; rw [← e.2]; exact Up.refl _
    · cases e
  · obtain ⟨d3, hd3, e⟩ := Option.bind_eq_some_iff.1 e
    split at e
    · obtain ⟨_, _, e⟩ := Option.bind_eq_some_iff.1 e
      obtain ⟨_, _, e⟩ := Option.bind_eq_some_iff.1 e
      simp only [Option.some.injEq, Prod.mk.injEq] at e; rw [← e.2]; exact Up.refl _
    · cases e
  · cases e
theorem unsafeString_up {h h' : Hp} {ats : List TypeId} {s x v : Value} (e : aunsafeString P ro ats h s x = some (v, h')) : Up h h' := by
  unfold aunsafeString at e
  repeat' split at e
  all_goals first
    | (cases e; done)
    | (simp only [Option.some.injEq, Prod.mk.injEq] at e
       obtain ⟨-, rfl⟩ := e
       rename_i q
       exact up_upd (by assumption) q)
/-- An operation that only makes a value. -/
theorem out_val {ts : TS} {h : Hp} {o : Oper} {v : Value} (e : ∀ κ (a : Act) w, HR P κ h.m w → TR κ ts a.tmps → ∃ v', (execOp a.eval o).run P w = .ok (.value v') w ∧ VR κ v v') : OutOk P ro ts h o (.val v h) :=
  ⟨Up.refl _, fun κ a w H T _ => let ⟨v', hr, hv⟩ := e κ a w H T; ⟨v', w, .inl hr, κ, H, Gone.refl H, hv⟩⟩
theorem valH_inv {x : Option Value} {h : Hp} {out : Out} (e : valH x h = some out) : ∃ v, x = some v ∧ out = .val v h := by
  cases x with
  | none => cases e
  | some v => simp only [valH, Option.some.injEq] at e; exact ⟨v, rfl, e.symm⟩
theorem pairH_inv {x : Option (Value × Hp)} {out : Out} (e : pairH x = some out) : ∃ v h', x = some (v, h') ∧ out = .val v h' := by
  cases x with
  | none => cases e
  | some p => obtain ⟨v, h'⟩ := p; simp only [pairH, Option.some.injEq] at e; exact ⟨v, h', rfl, e.symm⟩
theorem skipH_inv {x : Option Hp} {out : Out} (e : skipH x = some out) : ∃ h', x = some h' ∧ out = .val undef h' := by
  cases x with
  | none => cases e
  | some h' => simp only [skipH, Option.some.injEq] at e; exact ⟨h', rfl, e.symm⟩
theorem vr_undef (κ : K) : VR κ undef undef := (LR.nil κ).tuple
theorem run_v {s : Sem Value} {v' : Value} {w w' : World} (e : s.run P w = .ok v' w') : (do pure (.value (← s)) : Sem Next).run P w = .ok (.value v') w' := by simp [e]
theorem run_u {s : Sem Unit} {w w' : World} (e : s.run P w = .ok () w') : (do s; pure .skip : Sem Next).run P w = .ok .skip w' := by simp [e]
theorem callV_ok (hF : Fit P) (hX : XOk P ro X) {ts : TS} {h : Hp} {o : Oper} {c : Call} (ho : o.op = .call c) {fo : Operand} (hc : c.callee = .value fo) {f : Value} {args : List Value} (hf : evO P ts fo = some f) (ha : evAll P ts c.args.toList = some args)
    {out : Out} (e : acallV P X h f args = some out) : OutOk P ro ts h o out := by
  have hres : ∀ (a : Act) fn (first captured : Array Value) w, a.eval fo = .func fn first captured → (execOp a.eval o).run P w = (invoke (.fn fn captured) (first ++ c.args.map a.eval)).run P w := by
    intro a fn first captured w hv
    simp only [execOp, ho, resolve, hc, hv, Deferred.ofValue, Sem.run_bind, Sem.run_pure, Result.andThen_ok]
  unfold acallV at e
  split at e
  · rename_i g first captured
    have hall : ∀ κ (a : Act) w, HR P κ h.m w → TR κ ts a.tmps → ∃ first' captured' : Array Value, a.eval fo = .func (.func g) first' captured' ∧ LR κ (first.toList ++ args ++ captured.toList) ((first' ++ c.args.map a.eval) ++ captured').toList := by
      intro κ a w H T
      have r := evO_vr H.glob T hf
      generalize hq : a.eval fo = q at r
      cases r with
      | func _ _ _ xs' ys' hx h1 hy h2 =>
        refine ⟨xs', ys', rfl, ?_⟩
        have l := evAll_lr H.glob T ha
        rw [Array.toList_append, Array.toList_append, Array.toList_map]
        exact ((LR.of_arr hx h1).append l).append (LR.of_arr hy h2)
    split at e
    · rename_i fn hfn
      split at e
      · rename_i code hb
        simp only [Option.some.injEq] at e; subst e
        refine ⟨rfl, fun κ a w H T => ?_⟩
        obtain ⟨first', captured', hev, hl⟩ := hall κ a w H T
        refine ⟨_, ?_, hl⟩
        rw [hres a _ _ _ w hev]
        simp only [invoke, callFunc, Sem.run_bind, run_program, Result.andThen_ok, hfn, hF.names g fn hfn, Bool.false_eq_true, if_false, hb, Option.isNone_some, Sem.run_pure]
      · rename_i hb
        obtain ⟨v, h', hx, rfl⟩ := pairH_inv e
        obtain ⟨hm, hrun⟩ := hX g fn _ h v h' hfn hb hx
        refine ⟨hm, fun κ a w H T hfr => ?_⟩
        obtain ⟨first', captured', hev, hl⟩ := hall κ a w H T
        obtain ⟨v', w', hr, hC⟩ := hrun κ w _ H hl hfr
        exact ⟨v', w', .inl (by rw [hres a _ _ _ w hev]; exact hr), hC⟩
    · cases e
  · rename_i l first captured
    simp only [Option.some.injEq] at e; subst e
    refine ⟨rfl, fun κ a w H T => ?_⟩
    have r := evO_vr H.glob T hf
    generalize hq : a.eval fo = q at r
    cases r with
    | yield _ hl =>
      refine ⟨#[] ++ c.args.map a.eval, hl, by rw [hres a _ _ _ w hq]; rfl, ?_⟩
      have l := evAll_lr H.glob T ha
      rw [Array.toList_append, Array.toList_map]
      exact (LR.nil κ).append l
  · cases e
theorem builtin_ok {ts : TS} {h : Hp} {o : Oper} {c : Call} (ho : o.op = .call c) {b : Builtin} (hc : c.callee = .builtin b) {args : List Value} (ha : evAll P ts c.args.toList = some args)
    {out : Out} (e : abuiltin P ro b c.argTypes.toList o.type h args = some out) : OutOk P ro ts h o out := by
  have hres : ∀ (a : Act) w, (execOp a.eval o).run P w = (builtin b c.argTypes o.type (c.args.map fun | .const _ => true | _ => false) (c.args.map a.eval)).run P w := by
    intro a w
    simp only [execOp, ho, resolve, hc, Sem.run_bind, Sem.run_pure, Result.andThen_ok, invoke]
    rfl
  have hargs : ∀ κ (a : Act) w, HR P κ h.m w → TR κ ts a.tmps → LR κ args (c.args.map a.eval).toList := fun κ a w H T => by
    rw [Array.toList_map]; exact evAll_lr H.glob T ha
  have two : ∀ {κ : K} {x y : Value} {zs : Array Value}, LR κ [x, y] zs.toList → ∃ x' y', zs = #[x', y'] ∧ VR κ x x' ∧ VR κ y y' := by
    intro κ x y zs r
    obtain ⟨x', l1, e1, r1, r2⟩ := r.cons_inv
    obtain ⟨y', l2, e2, r3, r4⟩ := r2.cons_inv
    have := r4.nil_inv
    subst this; subst e2
    exact ⟨x', y', by apply Array.ext'; rw [e1], r1, r3⟩
  have tt : c.argTypes.toList.toArray = c.argTypes := Array.toArray_toList
  unfold abuiltin at e
  split at e
  · rename_i s x
    obtain ⟨v, h', hx, rfl⟩ := pairH_inv e
    refine ⟨append_up hx, fun κ a w H T hfr => ?_⟩
    obtain ⟨s', x', hz, r1, r2⟩ := two (hargs κ a w H T)
    obtain ⟨v', w', κ', hr, hH, hG, hV⟩ := (append_ok (ty := o.type) H r1 r2 hx).2 hfr
    refine ⟨v', w', .inl ?_, κ', hH, hG, hV⟩
    rw [hres a w, hz]
    rw [tt] at hr
    exact run_v hr
  · rename_i s x
    obtain ⟨v, h', hx, rfl⟩ := pairH_inv e
    refine ⟨copy_up hx, fun κ a w H T hfr => ?_⟩
    obtain ⟨s', x', hz, r1, r2⟩ := two (hargs κ a w H T)
    obtain ⟨_, v', w', hr, hH, hG, hV⟩ := copy_ok (ty := o.type) H r1 r2 hx
    refine ⟨v', w', .inl ?_, κ, hH, hG, hV⟩
    rw [hres a w, hz]
    rw [tt] at hr
    exact run_v hr
  · rename_i s x
    obtain ⟨v, h', hx, rfl⟩ := pairH_inv e
    refine ⟨unsafeString_up hx, fun κ a w H T hfr => ?_⟩
    obtain ⟨s', x', hz, r1, r2⟩ := two (hargs κ a w H T)
    obtain ⟨v', w', hr, hH, hG, hV⟩ := unsafeString_ok (ty := o.type) H r1 r2 hx
    refine ⟨v', w', .inl ?_, κ, hH, hG, hV⟩
    rw [hres a w, hz]
    exact run_v hr
  · rename_i s x
    simp only [Option.bind_eq_bind] at e
    obtain ⟨mt, hmt, e2⟩ := Option.bind_eq_some_iff.1 e
    obtain ⟨h', hx, e3⟩ := Option.bind_eq_some_iff.1 e2
    simp only [Option.some.injEq] at e3; subst e3
    refine ⟨delete_up hx, fun κ a w H T hfr => ?_⟩
    obtain ⟨s', x', hz, r1, r2⟩ := two (hargs κ a w H T)
    obtain ⟨_, w', hr, hH, hG⟩ := delete_ok H r1 r2 o.type hx
    refine ⟨.tuple #[], w', .inl ?_, κ, hH, hG, vr_undef κ⟩
    rw [hres a w, hz]
    have hd : Builtin.delete_ c.argTypes o.type #[s', x'] = Builtin.delete_ #[mt] o.type #[s', x'] := by
      have h1 : c.argTypes[0]? = some mt := by rw [← Array.getElem?_toList]; exact hmt
      simp only [Builtin.delete_, h1, List.getElem?_toArray, List.getElem?_cons_zero]
    refine run_v ?_
    rw [hd]; exact hr
  · rename_i x
    simp only [Option.bind_eq_bind] at e
    obtain ⟨mt, hmt, e2⟩ := Option.bind_eq_some_iff.1 e
    obtain ⟨v, hx, rfl⟩ := valH_inv e2
    refine out_val fun κ a w H T => ?_
    obtain ⟨x', l1, hz, r1, r2⟩ := (hargs κ a w H T).cons_inv
    have hl1 := r2.nil_inv
    subst hl1
    have hz' : c.args.map a.eval = #[x'] := by apply Array.ext'; rw [hz]
    obtain ⟨v', hr, hV⟩ := lenB_ok (ty := o.type) H r1 c.argTypes (by rw [← Array.getElem?_toList]; exact hmt) hx
    refine ⟨v', ?_, hV⟩
    rw [hres a w, hz']
    exact run_v hr
  · split at e
    · rename_i hc2
      obtain ⟨v, hx, rfl⟩ := valH_inv e
      refine out_val fun κ a w H T => ?_
      obtain ⟨hr, hV⟩ := cval_run hx κ w
      refine ⟨v, ?_, hV⟩
      have := (hargs κ a w H T).closed hc2
      have hz' : c.args.map a.eval = args.toArray := by apply Array.ext'; rw [this]
      rw [hres a w, hz', ← tt]
      exact run_v hr
    · cases e
  · split at e
    · rename_i hc2
      obtain ⟨v, hx, rfl⟩ := valH_inv e
      refine out_val fun κ a w H T => ?_
      obtain ⟨hr, hV⟩ := cval_run hx κ w
      refine ⟨v, ?_, hV⟩
      have := (hargs κ a w H T).closed hc2
      have hz' : c.args.map a.eval = args.toArray := by apply Array.ext'; rw [this]
      rw [hres a w, hz', ← tt]
      exact run_v hr
    · cases e
  · cases e
/-- EACH OPERATION. -/
theorem aop_ok (hF : Fit P) (hX : XOk P ro X) {ts : TS} {h : Hp} {o : Oper} {out : Out} (e : aop P ro X ts h o = some out) : OutOk P ro ts h o out := by
  rw [aop_eq] at e
  unfold aopS at e
  split at e
  case h_1 x ho =>
    obtain ⟨v, hx, rfl⟩ := valH_inv e
    exact out_val fun κ a w H T => ⟨_, by simp only [execOp, ho, Sem.run_pure], evO_vr H.glob T hx⟩
  case h_2 x ho =>
    obtain ⟨v, hx, rfl⟩ := valH_inv e
    exact out_val fun κ a w H T => ⟨_, by simp only [execOp, ho, Sem.run_pure], evO_vr H.glob T hx⟩
  case h_3 c x y ho =>
    split at e
    · rename_i t hc
      obtain ⟨v, hx, rfl⟩ := valH_inv e
      refine out_val fun κ a w H T => ?_
      have rc := evO_vr H.glob T hc
      generalize hq : a.eval c = q at rc
      cases rc with
      | bool _ =>
        refine ⟨if t then a.eval x else a.eval y, ?_, ?_⟩
        · simp only [execOp, ho, hq, asBool, Sem.run_bind, Sem.run_pure, Result.andThen_ok]
        · cases t with
          | true => exact evO_vr H.glob T hx
          | false => exact evO_vr H.glob T hx
    · cases e
  case h_4 el ho =>
    split at e
    · rename_i z hz
      simp only [Option.some.injEq] at e; subst e
      refine ⟨up_new _ _, fun κ a w H T hf => ?_⟩
      obtain ⟨v', w', κ', hr, hH, hG, hV⟩ := alloc_ok (ro := ro) H (hf h.c (Nat.le_refl _) (by simp [Hp.new])) hz
      exact ⟨v', w', .inl (by simp only [execOp, ho]; exact run_v hr), κ', hH, hG, hV⟩
    · cases e
  case h_5 el x ho =>
    split at e
    · rename_i v s hx hs
      simp only [Option.some.injEq] at e; subst e
      refine ⟨up_new _ _, fun κ a w H T hf => ?_⟩
      obtain ⟨v', w', κ', hr, hH, hG, hV⟩ := box_ok (ro := ro) H (hf h.c (Nat.le_refl _) (by simp [Hp.new])) (evO_vr H.glob T hx) hs
      exact ⟨v', w', .inl (by simp only [execOp, ho]; exact run_v hr), κ', hH, hG, hV⟩
    · cases e
  case h_6 t ps ho =>
    split at e
    · rename_i l hl
      obtain ⟨v, hx, rfl⟩ := valH_inv e
      refine out_val fun κ a w H T => ?_
      obtain ⟨v', hr, hV⟩ := build_ok (w := w) (parts_pr H.glob T hl) hx
      refine ⟨v', ?_, hV⟩
      simp only [execOp, ho]
      refine run_v ?_
      have : (ps.map fun (i, x) => (i, a.eval x)) = (ps.toList.map fun (i, x) => (i, a.eval x)).toArray := by apply Array.ext'; simp
      rw [this]; exact hr
    · cases e
  case h_7 t n ps ho =>
    split at e
    · rename_i l hl
      obtain ⟨v, h', hx, rfl⟩ := pairH_inv e
      refine ⟨buildSlice_up hx, fun κ a w H T hf => ?_⟩
      obtain ⟨hc, hgo⟩ := buildSlice_ok (ro := ro) H (parts_pr H.glob T hl) hx
      obtain ⟨v', w', κ', hr, hH, hG, hV⟩ := hgo (hf h.c (Nat.le_refl _) (by omega))
      refine ⟨v', w', .inl ?_, κ', hH, hG, hV⟩
      simp only [execOp, ho]
      refine run_v ?_
      have : (ps.map fun (i, x) => (i, a.eval x)) = (ps.toList.map fun (i, x) => (i, a.eval x)).toArray := by apply Array.ext'; simp
      rw [this]; exact hr
    · cases e
  case h_8 t x ho =>
    split at e
    · rename_i v hv
      obtain ⟨v, hx, rfl⟩ := valH_inv e
      refine out_val fun κ a w H T => ?_
      obtain ⟨v', hr, hV⟩ := aload_ok H (evO_vr H.glob T hv) hx
      exact ⟨v', by simp only [execOp, ho]; exact run_v hr, hV⟩
    · cases e
  case h_9 t x y ho =>
    split at e
    · rename_i v u hv hu
      obtain ⟨h', hx, rfl⟩ := skipH_inv e
      refine ⟨store_up hx, fun κ a w H T hf => ?_⟩
      obtain ⟨_, w', hr, hH, hG⟩ := astore_ok H (evO_vr H.glob T hv) (evO_vr H.glob T hu) hx
      exact ⟨undef, w', .inr ⟨rfl, by simp only [execOp, ho]; exact run_u hr⟩, κ, hH, hG, vr_undef κ⟩
    · cases e
  case h_10 x ho =>
    split at e
    · rename_i v hv
      obtain ⟨v, hx, rfl⟩ := valH_inv e
      exact out_val fun κ a w H T => nilCheck_ok (evO_vr H.glob T hv) hx o x a.eval ho rfl
    · cases e
  case h_11 op t x y yt ho =>
    split at e
    · rename_i v u hv hu
      obtain ⟨v, hx, rfl⟩ := valH_inv e
      refine out_val fun κ a w H T => ?_
      obtain ⟨v', hr, hV⟩ := bin_ok H (evO_vr H.glob T hv) (evO_vr H.glob T hu) hx
      exact ⟨v', by simp only [execOp, ho]; exact run_v hr, hV⟩
    · cases e
  case h_12 op t x ho =>
    split at e
    · rename_i v hv
      split at e
      · rename_i hc
        obtain ⟨u, hx, rfl⟩ := valH_inv e
        refine out_val fun κ a w H T => ?_
        obtain ⟨hr, hV⟩ := cval_run hx κ w
        refine ⟨u, ?_, hV⟩
        simp only [execOp, ho, (evO_vr H.glob T hv).closed hc]
        exact run_v hr
      · cases e
    · cases e
  case h_13 s d x ho =>
    split at e
    · rename_i v hv
      obtain ⟨v, h', hx, rfl⟩ := pairH_inv e
      refine ⟨convert_up hx, fun κ a w H T hf => ?_⟩
      obtain ⟨v', w', κ', hr, hH, hG, hV⟩ := (convert_ok (ro := ro) H (evO_vr H.glob T hv) hx).2 hf
      exact ⟨v', w', .inl (by simp only [execOp, ho]; exact run_v hr), κ', hH, hG, hV⟩
    · cases e
  case h_14 t x ho =>
    split at e
    · rename_i v hv
      obtain ⟨v, hx, rfl⟩ := valH_inv e
      refine out_val fun κ a w H T => ?_
      obtain ⟨v', hr, hV⟩ := arrayAt_ok (w := w) (evO_vr H.glob T hv) hx
      exact ⟨v', by simp only [execOp, ho]; exact run_v hr, hV⟩
    · cases e
  case h_15 t x ho =>
    split at e
    · cases e
    · rename_i v d hne hv hd
      simp only [Option.some.injEq] at e; subst e
      refine out_val fun κ a w H T => ?_
      refine ⟨.iface t (a.eval x), ?_, .iface _ _ _ (evO_vr H.glob T hv)⟩
      simp only [execOp, ho]
      refine run_v ?_
      simp only [Instr.makeInterface, Sem.run_bind, run_underlying hd, Result.andThen_ok]
      cases d <;> first | rfl | exact (hne _ rfl).elim
    · cases e
  case h_16 fn first captured ho =>
    split at e
    · rename_i l1 l2 h1 h2
      split at e
      · rename_i hfn
        simp only [Option.some.injEq] at e; subst e
        refine out_val fun κ a w H T => ?_
        have r1 := evAll_lr H.glob T h1
        have r2 := evAll_lr H.glob T h2
        cases fn with
        | func f =>
          refine ⟨.func (.func f) (first.map a.eval) (captured.map a.eval), by simp [execOp, ho, Instr.makeFunc], ?_⟩
          refine .func _ _ _ _ _ ?_ (fun i v v' x y => ?_) ?_ (fun i v v' x y => ?_)
          · have := r1.1; simpa using this
          · refine r1.2 i v v' (by simpa using x) ?_
            rw [← Array.getElem?_toList, Array.toList_map] at y; exact y
          · have := r2.1; simpa using this
          · refine r2.2 i v v' (by simpa using x) ?_
            rw [← Array.getElem?_toList, Array.toList_map] at y; exact y
        | _ => simp [fnOk] at hfn
      · cases e
    · cases e
  case h_17 t r ho =>
    have key : ∀ (hr : ∀ κ (a : Act) w, HR P κ h.m w → TR κ ts a.tmps → (Instr.makeMap t (r.map a.eval)).run P w = .ok (.map (some w.heap.size)) { w with heap := w.heap.push (.map #[] 0) }),
        OutOk P ro ts h o (.val (.map (some h.c)) (h.new (.map [] 0))) := by
      intro hr
      refine ⟨up_new _ _, fun κ a w H T hf => ?_⟩
      obtain ⟨x, y⟩ := go_new (ro := ro) (n := 0) (s := 0) (w' := { w with heap := w.heap.push (.map #[] 0) }) H (hf h.c (Nat.le_refl _) (by simp [Hp.new])) rfl rfl rfl rfl (.map [] 0 #[] ⟨rfl, fun i e e' q => by simp at q⟩)
      refine ⟨_, _, .inl (by simp only [execOp, ho]; exact run_v (hr κ a w H T)), _, x, y, ?_⟩
      have := VR.map (κ := κ.add h.c w.heap.size 0 0) h.c (.inr rfl)
      simp only [K.add, if_true] at this
      exact this
    split at e
    · rename_i kt et hd hr
      simp only [Option.some.injEq] at e; subst e
      refine key fun κ a w H T => ?_
      have ro := opt_r H.glob T hr
      cases hq : r.map a.eval with
      | none => simp [Instr.makeMap]
      | some q => rw [hq] at ro; exact ro.elim
    · rename_i kt et k n hd hr
      simp only [Option.some.injEq] at e; subst e
      refine key fun κ a w H T => ?_
      have ro := opt_r H.glob T hr
      cases hq : r.map a.eval with
      | none => rw [hq] at ro; exact ro.elim
      | some q =>
        rw [hq] at ro
        cases ro with
        | int => simp [Instr.makeMap, run_underlying hd, asInt, asIntOf]
    · cases e
  case h_18 t l c ho =>
    split at e
    · rename_i v u hv hu
      obtain ⟨v, h', hx, rfl⟩ := pairH_inv e
      refine ⟨makeSlice_up hx, fun κ a w H T hf => ?_⟩
      obtain ⟨hc, hgo⟩ := makeSlice_ok (ro := ro) H (evO_vr H.glob T hv) (evO_vr H.glob T hu) hx
      obtain ⟨v', w', κ', hr, hH, hG, hV⟩ := hgo (hf h.c (Nat.le_refl _) (by omega))
      exact ⟨v', w', .inl (by simp only [execOp, ho]; exact run_v hr), κ', hH, hG, hV⟩
    · cases e
  case h_19 t x lo hi mx ho =>
    split at e
    · rename_i v1 v2 v3 v4 h1 h2 h3 h4
      obtain ⟨v, hx, rfl⟩ := valH_inv e
      refine out_val fun κ a w H T => ?_
      obtain ⟨v', hr, hV⟩ := aslice_ok H (evO_vr H.glob T h1) (opt_r H.glob T h2) (opt_r H.glob T h3) (opt_r H.glob T h4) hx
      exact ⟨v', by simp only [execOp, ho]; exact run_v hr, hV⟩
    · cases e
  case h_20 t x f ho =>
    split at e
    · rename_i v hv
      obtain ⟨v, hx, rfl⟩ := valH_inv e
      refine out_val fun κ a w H T => ?_
      obtain ⟨v', hr, hV⟩ := fieldAddr_ok (w := w) (evO_vr H.glob T hv) hx
      exact ⟨v', by simp only [execOp, ho]; exact run_v hr, hV⟩
    · cases e
  case h_21 t x f ho =>
    split at e
    · rename_i v hv
      obtain ⟨v, hx, rfl⟩ := valH_inv e
      refine out_val fun κ a w H T => ?_
      obtain ⟨v', hr, hV⟩ := field_ok (w := w) (evO_vr H.glob T hv) hx
      exact ⟨v', by simp only [execOp, ho]; exact run_v hr, hV⟩
    · cases e
  case h_22 t x i ho =>
    split at e
    · rename_i v u hv hu
      obtain ⟨v, hx, rfl⟩ := valH_inv e
      refine out_val fun κ a w H T => ?_
      obtain ⟨v', hr, hV⟩ := indexAddr_ok (w := w) (evO_vr H.glob T hv) (evO_vr H.glob T hu) hx
      exact ⟨v', by simp only [execOp, ho]; exact run_v hr, hV⟩
    · cases e
  case h_23 t x i ho =>
    split at e
    · rename_i v u hv hu
      obtain ⟨v, hx, rfl⟩ := valH_inv e
      refine out_val fun κ a w H T => ?_
      obtain ⟨v', hr, hV⟩ := index_ok (w := w) (evO_vr H.glob T hv) (evO_vr H.glob T hu) hx
      exact ⟨v', by simp only [execOp, ho]; exact run_v hr, hV⟩
    · cases e
  case h_24 t m k ok ho =>
    split at e
    · rename_i v u hv hu
      obtain ⟨v, hx, rfl⟩ := valH_inv e
      refine out_val fun κ a w H T => ?_
      obtain ⟨v', hr, hV⟩ := lookup_ok H (evO_vr H.glob T hv) (evO_vr H.glob T hu) hx
      exact ⟨v', by simp only [execOp, ho]; exact run_v hr, hV⟩
    · cases e
  case h_25 t m k x ho | h_26 t m k x ho =>
    split at e
    · rename_i v u y hv hu hy
      obtain ⟨h', hx, rfl⟩ := skipH_inv e
      refine ⟨update_up hx, fun κ a w H T hf => ?_⟩
      obtain ⟨_, w', hr, hH, hG⟩ := update_ok H (evO_vr H.glob T hv) (evO_vr H.glob T hu) (evO_vr H.glob T hy) hx
      exact ⟨undef, w', .inr ⟨rfl, by simp only [execOp, ho]; exact run_u hr⟩, κ, hH, hG, vr_undef κ⟩
    · cases e
  case h_27 t x ho =>
    split at e
    · rename_i v hv
      obtain ⟨v, h', hx, rfl⟩ := pairH_inv e
      refine ⟨range_up hx, fun κ a w H T hf => ?_⟩
      obtain ⟨hc, hgo⟩ := range_ok (ro := ro) H (evO_vr H.glob T hv) hx
      obtain ⟨v', w', κ', hr, hH, hG, hV⟩ := hgo (hf h.c (Nat.le_refl _) (by omega))
      exact ⟨v', w', .inl (by simp only [execOp, ho]; exact run_v hr), κ', hH, hG, hV⟩
    · cases e
  case h_28 it s ho =>
    split at e
    · rename_i v hv
      obtain ⟨v, h', hx, rfl⟩ := pairH_inv e
      refine ⟨next_up hx, fun κ a w H T hf => ?_⟩
      obtain ⟨_, v', w', hr, hH, hG, hV⟩ := next_ok H o.type (evO_vr H.glob T hv) hx
      exact ⟨v', w', .inl (by simp only [execOp, ho]; exact run_v hr), κ, hH, hG, hV⟩
    · cases e
  case h_29 it ho =>
    split at e
    · rename_i v hv
      obtain ⟨v, hx, rfl⟩ := valH_inv e
      refine out_val fun κ a w H T => ?_
      obtain ⟨v', hr, hV⟩ := entry_ok H (evO_vr H.glob T hv) hx
      exact ⟨v', by simp only [execOp, ho]; exact run_v hr, hV⟩
    · cases e
  case h_30 x xt at_ ok ho =>
    split at e
    · rename_i v hv
      obtain ⟨v, hx, rfl⟩ := valH_inv e
      refine out_val fun κ a w H T => ?_
      obtain ⟨v', hr, hV⟩ := assert_ok (w := w) (xt := xt) (evO_vr H.glob T hv) hx
      exact ⟨v', by simp only [execOp, ho]; exact run_v hr, hV⟩
    · cases e
  case h_31 t i ho =>
    split at e
    · rename_i vs hv
      obtain ⟨v, hx, rfl⟩ := valH_inv e
      refine out_val fun κ a w H T => ?_
      have r := evO_vr H.glob T hv
      generalize hq : a.eval t = q at r
      cases r with
      | tuple _ xs' hsz hh =>
        obtain ⟨v', y, hV⟩ := (LR.of_arr hsz hh).get (i := i) (by rw [Array.getElem?_toList]; exact hx)
        rw [Array.getElem?_toList] at y
        refine ⟨v', ?_, hV⟩
        simp only [execOp, ho, hq]
        exact run_v (by simp [Instr.extract, y])
    · cases e
  case h_32 c ho =>
    split at e
    · rename_i b hc
      split at e
      · rename_i args ha
        exact builtin_ok ho hc ha e
      · cases e
    · rename_i f hc
      split at e
      · rename_i f args hf ha
        exact callV_ok hF hX ho hc hf ha e
      · cases e
    · cases e
  case h_33 => cases e
end
end Ex
end
section
namespace Ex
/-- A fence that lets everything in; in a round or not. -/
def FW (r : Option Nat) : Fence := { Fence.wide with round := r }
theorem FW_fn (r : Option Nat) (f : FuncId) : (FW r).fn f := trivial
theorem FW_depth (r : Option Nat) {n : Nat} : (FW r).depth.isSome = true → 1 ≤ n := fun h => by cases h
def toExit : Ex → Exit
  | .normal => .normal
  | .exit id => .exit id
  | .ret => .ret
def RR (κ : K) : Option Nat → Option Nat → Prop
  | none, none => True
  | some l, some l' => κ.dom l ∧ l' = κ.p l
  | _, _ => False
theorem RR.ext {κ κ' : K} (x : Ext κ κ') {r r' : Option Nat} (h : RR κ r r') : RR κ' r r' := by
  cases r <;> cases r' <;> first | exact h | exact ⟨x.dom _ h.1, by rw [x.p _ h.1]; exact h.2⟩
def DR (tl : List Deferred) (κ : K) (dl : List Nat) (ds : List Deferred) : Prop := (∀ r ∈ dl, κ.dom r) ∧ ds = (dl.map fun r => { target := .collected (κ.p r), args := #[] }) ++ tl
theorem DR.ext {tl : List Deferred} {κ κ' : K} (x : Ext κ κ') {dl : List Nat} {ds : List Deferred} (h : DR tl κ dl ds) : DR tl κ' dl ds :=
  ⟨fun r hr => x.dom r (h.1 r hr), by rw [h.2]; exact congrArg (· ++ tl) (List.map_congr_left fun r hr => by rw [x.p r (h.1 r hr)])⟩
section
variable (P : Program) (ro : Nat)
/-- What is asked of an evaluation of code. -/
def EvOk (ev : Option Nat → Nat → Code → St → Option (Ex × St)) : Prop := ∀ rnd nt code st e st', ev rnd nt code st = some (e, st') → Up st.h st'.h ∧
  ∀ tl κ rr (a : Act) w (Q : Exit → Act → World → Prop) m, WF st.h → HR P κ st.h.m w → TR κ st.ts a.tmps → a.tmps.size = nt → DR tl κ st.dl a.defers → RR κ rnd rr → Free κ st.h.c st'.h.c →
    (∀ κ' (a' : Act) w', HR P κ' st'.h.m w' → Gone ro κ κ' st.h st'.h w w' → TR κ' st'.ts a'.tmps → a'.tmps.size = nt → DR tl κ' st'.dl a'.defers → Q (toExit e) a' w') → code.wpIn (FW rr) m P Q a w
/-- .. and of what is known of functions. -/
def COk (C : FuncId → List Value → Hp → Option (Value × Hp)) : Prop := ∀ (f : Nat) args h v h', C f args h = some (v, h') → Up h h' ∧
  ∀ κ w (args' : Array Value), WF h → HR P κ h.m w → LR κ args args'.toList → Free κ h.c h'.c → Calls P f args' w fun e w' => ∃ v', e = .returned v' ∧ Comes' P ro κ h w v h' v' w'
end
section
variable {P : Program} {ro : Nat} {X C : Hook} {ev : Option Nat → Nat → Code → St → Option (Ex × St)} {κ : K}
theorem TR.put {ts ts' : TS} {a : Act} {nt : Nat} {d : Option Tmp} {v v' : Value} (T : TR κ ts a.tmps) (hn : a.tmps.size = nt) (r : VR κ v v') (e : putD nt ts d v = some ts') :
    TR κ ts' (a.put d v').tmps ∧ (a.put d v').tmps.size = nt ∧ (a.put d v').defers = a.defers := by
  cases d with
  | none => simp only [putD, Option.some.injEq] at e; subst e; exact ⟨T, hn, rfl⟩
  | some d =>
    simp only [putD] at e
    by_cases hd : d + 1 ≤ nt
    · rw [bleT hd] at e
      simp only [cond_true, Option.some.injEq] at e; subst e
      refine ⟨fun t u hu => ?_, by simp [Act.put, hn], rfl⟩
      rw [Tr.get_put] at hu
      simp only [Act.put]
      by_cases ht : t = d
      · subst ht
        rw [if_pos rfl] at hu; cases hu
        have hlt : t < a.tmps.size := by rw [hn]; exact hd
        simp [Array.getD, hlt, r]
      · rw [if_neg ht] at hu
        have := T t u hu
        have e2 : (a.tmps.setIfInBounds d v').getD t undef = a.tmps.getD t undef := by
          simp only [Array.getD_eq_getD_getElem?]
          rw [Array.getElem?_setIfInBounds_ne (Ne.symm ht)]
        rw [e2]; exact this
    · rw [bleF hd] at e; cases e
theorem guard_ok {ops : Array Oper} {ts : TS} {o : Oper} {a : Act} {b : Bool} (T : TR κ ts a.tmps) (e : guardB ops.toList ts o = some b) : Region.wanted o (yielded ops a.tmps) = b := by
  unfold guardB at e
  unfold Region.wanted
  split at e
  · rename_i hg; rw [hg]; simpa using e
  · rename_i j want hg
    rw [hg]
    simp only
    unfold yielded
    rw [Array.getElem?_toList] at e
    split at e
    · rename_i hd
      simp only [Option.some.injEq] at e; subst e
      rw [hd]; rfl
    · rename_i d hd
      rw [hd]
      simp only [Option.bind_some]
      split at e
      · rename_i b' hb
        simp only [Option.some.injEq] at e; subst e
        have r := T d _ hb
        generalize hq : a.tmps.getD d undef = q at r
        cases r with
        | bool _ =>
          have : a.tmps[d]? = some (.bool b') := by
            simp only [Array.getD_eq_getD_getElem?] at hq
            cases hx : a.tmps[d]? with
            | none => rw [hx] at hq; simp [undef] at hq
            | some x => rw [hx] at hq; simp at hq; rw [hq]
          rw [this]; rfl
      · rename_i vs hb
        have r := T d _ hb
        generalize hq : a.tmps.getD d undef = q at r
        cases r with
        | tuple _ xs' hx _ =>
          have hbf : b = false := by
            by_cases h0 : vs.size = 0
            · rw [beqT h0] at e; simpa using e.symm
            · rw [beqF h0] at e; cases e
          subst hbf
          simp only [Array.getD_eq_getD_getElem?] at hq
          cases hy : a.tmps[d]? with
          | none => rfl
          | some x => rw [hy] at hq; simp at hq; subst hq; rfl
      · cases e
theorem setParams_ok {nt : Nat} : ∀ {ps : List Tmp} {vs : List Value} {ts ts' : TS} {tm : Array Value} {vs' : List Value}, setParams nt ps vs ts = some ts' → TR κ ts tm → tm.size = nt → LR κ vs vs' →
    ps.length = vs'.length ∧ TR κ ts' ((ps.zip vs').foldl (fun tm p => tm.setIfInBounds p.1 p.2) tm) ∧ ((ps.zip vs').foldl (fun tm p => tm.setIfInBounds p.1 p.2) tm).size = nt
  | [], [], ts, ts', tm, vs', e, T, hn, r => by
    simp only [setParams, Option.some.injEq] at e; subst e
    rw [r.nil_inv]; exact ⟨rfl, T, hn⟩
  | [], v :: vs, ts, ts', tm, vs', e, T, hn, r => by simp [setParams] at e
  | t :: ps, [], ts, ts', tm, vs', e, T, hn, r => by simp [setParams] at e
  | t :: ps, v :: vs, ts, ts', tm, vs', e, T, hn, r => by
    simp only [setParams] at e
    split at e
    · rename_i ts2 h2
      obtain ⟨y, ys, rfl, r1, r2⟩ := r.cons_inv
      obtain ⟨T2, hn2, _⟩ := TR.put (a := { tmps := tm, defers := [] }) T hn r1 h2
      obtain ⟨a1, a2, a3⟩ := setParams_ok e T2 hn2 r2
      exact ⟨by simp [a1], a2, a3⟩
    · cases e
theorem putArgs_get : ∀ (vs : List Value) (i : Nat) (ts : TS) (t : Nat), (putArgs i vs ts).get t = if i ≤ t ∧ t < i + vs.length then vs[t - i]? else ts.get t
  | [], i, ts, t => by simp [putArgs]; omega
  | v :: vs, i, ts, t => by
    rw [putArgs, putArgs_get vs (i + 1) _ t, Tr.get_put]
    by_cases h1 : i + 1 ≤ t ∧ t < i + 1 + vs.length
    · rw [if_pos h1, if_pos (by simp; omega), show t - i = (t - (i + 1)) + 1 from by omega, List.getElem?_cons_succ]
    · rw [if_neg h1]
      by_cases h2 : t = i
      · subst h2; simp
      · rw [if_neg h2, if_neg (by simp; omega)]
theorem putArgs_ok {vs : List Value} {args' : Array Value} {nt : Nat} (r : LR κ vs args'.toList) (hle : vs.length ≤ nt) :
    TR κ (putArgs 0 vs .leaf) (args' ++ Array.replicate (nt - args'.size) undef) ∧ (args' ++ Array.replicate (nt - args'.size) undef).size = nt := by
  have hs : args'.size = vs.length := by have := r.1; simpa using this.symm
  refine ⟨fun t v hv => ?_, by simp; omega⟩
  rw [putArgs_get] at hv
  split at hv
  · rename_i hc
    simp only [Nat.sub_zero] at hv
    obtain ⟨v', a, b⟩ := r.get hv
    rw [Array.getElem?_toList] at a
    have : (args' ++ Array.replicate (nt - args'.size) undef).getD t undef = v' := by
      simp only [Array.getD_eq_getD_getElem?]
      rw [Array.getElem?_append_left (by omega), a]; rfl
    rw [this]; exact b
  · simp [Tr.get] at hv
theorem res_ok {ts : TS} {h : Hp} {tm : Array Value} {w : World} (H : HR P κ h.m w) (T : TR κ ts tm) : ∀ {rs : List ResultVar} {vs : List Value}, resOf P ts h rs = some vs →
    ∃ vs', LR κ vs vs' ∧ (rs.mapM (fun | .tmp t => pure (tm.getD t undef) | .cell a t => do loadVar t (← asAddr (tm.getD a undef)) : ResultVar → Sem Value)).run P w = .ok vs' w
  | [], vs, e => by simp only [resOf, Option.some.injEq] at e; subst e; exact ⟨[], LR.nil κ, rfl⟩
  | .tmp t :: rs, vs, e => by
    simp only [resOf, Option.bind_eq_bind] at e
    obtain ⟨v, hv, e⟩ := Option.bind_eq_some_iff.1 e
    obtain ⟨ws, hw, e⟩ := Option.bind_eq_some_iff.1 e
    simp only [Option.some.injEq] at e; subst e
    obtain ⟨vs', r, hr⟩ := res_ok H T hw
    exact ⟨_, LR.cons (T t v hv) r, by simp only [List.mapM_cons, Sem.run_bind, Sem.run_pure, Result.andThen_ok, hr]⟩
  | .cell a t :: rs, vs, e => by
    simp only [resOf, Option.bind_eq_bind] at e
    obtain ⟨v, hv, e⟩ := Option.bind_eq_some_iff.1 e
    obtain ⟨ws, hw, e⟩ := Option.bind_eq_some_iff.1 e
    simp only [Option.some.injEq] at e; subst e
    obtain ⟨p, hp, hl⟩ := Option.bind_eq_some_iff.1 hv
    obtain ⟨vs', r, hr⟩ := res_ok H T hw
    have rp := T a p hp
    obtain ⟨v', hv', rv⟩ := aload_ok H rp hl
    refine ⟨_, LR.cons rv r, ?_⟩
    have : (do loadVar t (← asAddr (tm.getD a undef)) : Sem Value).run P w = .ok v' w := by
      unfold aload at hl
      generalize hq : tm.getD a undef = q at rp hv'
      cases rp with
      | ptr b off hd => simpa [asAddr, Instr.loadAt, Instr.sureAddr] using hv'
      | _ => simp at hl
    simp only [List.mapM_cons, Sem.run_bind, Sem.run_pure]
    simp only [Sem.run_bind] at this
    rw [this]
    simp only [Result.andThen_ok, hr]
theorem one_ok {vs : List Value} {vs' : List Value} (r : LR κ vs vs') : VR κ (one vs) (if h : vs'.toArray.size = 1 then vs'.toArray[0] else .tuple vs'.toArray) := by
  match vs, r with
  | [], r => rw [r.nil_inv]; exact (LR.nil κ).tuple
  | [v], r =>
    obtain ⟨y, ys, rfl, h1, h2⟩ := r.cons_inv
    rw [h2.nil_inv]; exact h1
  | v :: u :: vs, r =>
    obtain ⟨y, ys, rfl, h1, h2⟩ := r.cons_inv
    obtain ⟨z, zs, rfl, h3, h4⟩ := h2.cons_inv
    have hne : ¬ (y :: z :: zs).toArray.size = 1 := by simp
    rw [dif_neg hne]
    exact (LR.cons h1 (LR.cons h3 h4)).tuple
end
end Ex
end
section
namespace Ex
section
variable {P : Program} {ro : Nat} {X C : Hook} {ev : Option Nat → Nat → Code → St → Option (Ex × St)} {κ : K}
theorem shut_c : ∀ {dl : List Nat} {h h' : Hp}, shut ro dl h = some h' → h'.c = h.c ∧ Up h h'
  | [], h, h', e => by simp only [shut, Option.some.injEq] at e; rw [e]; exact ⟨rfl, Up.refl _⟩
  | r :: rs, h, h', e => by
    simp only [shut] at e
    split at e
    · split at e
      · rename_i hob _ h2 hu
        obtain ⟨a, b⟩ := shut_c e
        exact ⟨by rw [a, upd_c hu], (up_upd hob hu).trans b⟩
      · cases e
    · cases e
theorem shut_ok {fn : Func} {tmps : Array Value} {R : Ending → World → Prop} {m : Nat} : ∀ {dl : List Nat} {ds : List Deferred} {h h' : Hp} {w : World}, shut ro dl h = some h' → HR P κ h.m w → DR [] κ dl ds →
    (∀ w', HR P κ h'.m w' → Gone ro κ κ h h' w w' → ∃ v, (results fn tmps).run P w' = .ok v w' ∧ R (.returned v) w') → LeavesInM Fence.wide m P fn tmps R ds .returning w
  | [], ds, h, h', w, e, H, D, k => by
    simp only [shut, Option.some.injEq] at e; subst e
    have : ds = [] := D.2
    subst this
    exact k w H (Gone.refl H)
  | r :: rs, ds, h, h', w, e, H, D, k => by
    obtain ⟨d1, d2⟩ := D
    rw [List.map_cons] at d2
    subst d2
    simp only [shut] at e
    split at e
    · rename_i hob
      split at e
      · rename_i h2 hu
        obtain ⟨_, o', ho', hor⟩ := H.obj r _ hob
        cases hor with
        | dfr =>
          obtain ⟨H2, G2⟩ := go_killw (w' := w.putObj (κ.p r) (.deferred none)) H hob hu (by simp) (fun k hk => World.putObj_heap_other hk) rfl rfl rfl
          refine ⟨by simp, .inl ⟨κ.p r, _, rfl, run_takeDeferred ho', ?_⟩⟩
          exact shut_ok e H2 ⟨fun i hi => d1 i (List.mem_cons_of_mem _ hi), rfl⟩ fun w' H' G' => k w' H' (G2.trans G')
      · cases e
    · cases e
theorem cut_mem {m : Tr AO} {old new : List Nat} {i : Nat} : i ∈ cut m old new ↔ i ∈ old ∨ (i ∈ new ∧ (m.get i).isSome) := by
  have hh : ∀ x, has m x = (m.get x).isSome := fun x => by unfold has; cases m.get x <;> rfl
  unfold cut
  induction new with
  | nil => simp
  | cons x xs ih =>
    simp only [List.foldr_cons]
    cases hx : has m x with
    | true =>
      simp only [cond_true, mem_addW, ih]
      rw [hh] at hx
      constructor
      · rintro (rfl | a | ⟨a, b⟩)
        · exact .inr ⟨List.mem_cons_self, hx⟩
        · exact .inl a
        · exact .inr ⟨List.mem_cons_of_mem _ a, b⟩
      · rintro (a | ⟨a, b⟩)
        · exact .inr (.inl a)
        · rcases List.mem_cons.1 a with rfl | a
          · exact .inl rfl
          · exact .inr (.inr ⟨a, b⟩)
    | false =>
      simp only [cond_false, ih]
      rw [hh] at hx
      constructor
      · rintro (a | ⟨a, b⟩)
        · exact .inl a
        · exact .inr ⟨List.mem_cons_of_mem _ a, b⟩
      · rintro (a | ⟨a, b⟩)
        · exact .inl a
        · rcases List.mem_cons.1 a with rfl | a
          · rw [hx] at b; cases b
          · exact .inr ⟨a, b⟩
/-- What was written of what was there: that will do. -/
theorem Gone.cut {κ' : K} {h h' : Hp} {w w' : World} (A : Gone ro κ κ' h h' w w') : Gone ro κ κ' h { h' with wl := cut h.m h.wl h'.wl } w w' :=
  { A with
    same := fun i hd hn => by
      by_cases hi : i ∈ h'.wl
      · cases hm : h.m.get i with
        | some x => exact absurd (cut_mem.2 (.inr ⟨hi, by rw [hm]; rfl⟩)) hn
        | none =>
          show h'.m.get i = none
          cases hm' : h'.m.get i with
          | none => rfl
          | some y => have := A.old i hd (by rw [hm']; rfl); rw [hm] at this; cases this
      · exact A.same i hd hi
    wle := fun i hi => cut_mem.2 (.inl hi) }
theorem Free.le {lo hi hi' : Nat} (h : Free κ lo hi) (e : hi' ≤ hi) : Free κ lo hi' := fun i a b => h i a (by omega)
theorem Free.next {κ' : K} {h h1 : Hp} {w w1 : World} {hi : Nat} (f : Free κ h.c hi) (G : Gone ro κ κ' h h1 w w1) : Free κ' h1.c hi := fun i a b hd => by
  have := G.mono
  rcases G.new i hd with q | q
  · exact f i (by omega) b q
  · omega
/-- A CALL. -/
theorem call_ok (hE : EvOk P ro ev) (hC : COk P ro C) {f : Nat} {args : List Value} {h h' : Hp} {v : Value} (e : acall P ro ev C f args h = some (v, h')) : Up h h' ∧
    ∀ κ w (args' : Array Value) m, WF h → HR P κ h.m w → LR κ args args'.toList → Free κ h.c h'.c → CallsIn Fence.wide m P f args' w fun e w' => ∃ v', e = .returned v' ∧ Comes' P ro κ h w v h' v' w' := by
  unfold acall at e
  split at e
  · rename_i r hc
    simp only [Option.some.injEq] at e; subst e
    obtain ⟨hm, hk⟩ := hC f args h v h' hc
    exact ⟨hm, fun κ w args' m W H r hf => callsIn_wide.2 (hk κ w args' W H r hf)⟩
  · split at e
    · rename_i fn hfn
      split at e
      · rename_i code hb
        by_cases hle : args.length ≤ fn.ntmps
        · rw [bleT hle, cond_true] at e
          split at e
          · cases e
          · rename_i ee st hne hev
            split at e
            · rename_i h2 hsh
              split at e
              · rename_i vs hres
                simp only [Option.some.injEq, Prod.mk.injEq] at e
                obtain ⟨rfl, rfl⟩ := e
                obtain ⟨hm, hk⟩ := hE _ _ _ _ _ _ hev
                have hc2 := (shut_c hsh).1
                have hm' : Up h { h2 with wl := Ex.cut h.m h.wl h2.wl } := by
                  have hu := hm.trans (shut_c hsh).2
                  refine ⟨hu.1, fun w => ⟨(hu.2 w).1, fun i hi => ?_⟩⟩
                  rcases cut_mem.1 hi with q | q
                  · have := w.2 i q; have := hu.1; simp only at *; omega
                  · exact (hu.2 w).2 i q.1
                refine ⟨hm', fun κ w args' m W H r hf => ?_⟩
                refine callsIn_of_wp_marks (F := Fence.wide) hfn hb trivial ?_
                obtain ⟨T, hn⟩ := putArgs_ok (nt := fn.ntmps) r hle
                refine hk [] κ none { tmps := args' ++ Array.replicate (fn.ntmps - args'.size) undef, defers := [] } w _ m W H T hn ⟨fun _ q => by simp at q, rfl⟩ trivial (Free.le hf (by rw [hc2]; exact Nat.le_refl _)) ?_
                intro κ' a' w' H' G' T' hn' D'
                have fin : LeavesInM Fence.wide m P fn a'.tmps (fun e w' => ∃ v', e = .returned v' ∧ Comes' P ro κ h w (one vs) { h2 with wl := Ex.cut h.m h.wl h2.wl } v' w') a'.defers .returning w' := by
                  refine shut_ok hsh H' D' fun w2 H2 G2 => ?_
                  obtain ⟨vs', rv, hrun⟩ := res_ok H2 T' hres
                  refine ⟨_, ?_, _, rfl, κ', H2, (G'.trans G2).cut, one_ok rv⟩
                  unfold results
                  simp only [Sem.run_bind, Array.mapM_eq_mapM_toList, Sem.run_map]
                  exact congrArg (fun q : Result (List Value) => (q.andThen fun a w' => Result.ok a.toArray w').andThen fun a w' => Sem.run P (pure (if h : a.size = 1 then a[0] else .tuple a)) w') hrun
                cases ee with
                | normal => exact fin
                | ret => exact fin
                | exit id => exact (hne id rfl).elim
              · cases e
            · cases e
          · cases e
        · rw [bleF hle] at e; cases e
      · cases e
    · cases e
theorem loop_obj {h : Hp} {w : World} (H : HR P κ h.m w) {b : Nat} {st : LoopState} {pe : Option Code} {nt : Nat} {ts : TS} {ps : List Tmp} {as bd : Code} {df : Nat} (hb : h.m.get b = some (.loop st pe nt ts ps as bd df)) :
    ∃ r : Loop, w.heap[κ.p b]? = some (.loop r) ∧ r.params.toList = ps ∧ r.tmps.size = nt ∧ TR κ ts r.tmps ∧ κ.dom df ∧ r.defers = κ.p df ∧ r.state = st ∧ r.pending = pe ∧ r.assign = as ∧ r.body = bd ∧ κ.dom b := by
  obtain ⟨hd, o', ho', hor⟩ := H.obj b _ hb
  cases hor with
  | loop r _ _ _ _ hp hn ht hdf hf => exact ⟨r, ho', hp, hn, ht, hdf, hf, rfl, rfl, rfl, rfl, hd⟩
/-- A loop's record turned. -/
theorem loop_set {h h' : Hp} {w : World} (H : HR P κ h.m w) {b : Nat} {x : AO} {r : Loop} {st : LoopState} {pe : Option Code} {nt : Nat} {ts : TS} {ps : List Tmp} {as bd : Code} {df : Nat} (hb : h.m.get b = some x)
    (e : h.upd ro b (some (.loop st pe nt ts ps as bd df)) = some h') (hr : w.heap[κ.p b]? = some (.loop r)) (h1 : r.params.toList = ps) (h2 : r.tmps.size = nt) (h3 : TR κ ts r.tmps) (h4 : κ.dom df) (h5 : r.defers = κ.p df) (h6 : r.assign = as) (h7 : r.body = bd) :
    HR P κ h'.m (w.putObj (κ.p b) (.loop { r with state := st, pending := pe })) ∧ Gone ro κ κ h h' w (w.putObj (κ.p b) (.loop { r with state := st, pending := pe })) := by
  have ho : OR P κ b (.loop st pe nt ts ps as bd df) (.loop { r with state := st, pending := pe }) := by
    subst h6; subst h7
    exact .loop { r with state := st, pending := pe } nt ts ps df h1 h2 h3 h4 h5
  exact set_ok H hb e hr ho
/-- A ROUND. -/
theorem round_ok (hE : EvOk P ro ev) {l : Nat} {args : List Value} {h h' : Hp} {v : Value} (e : around ro ev l args h = some (v, h')) : Up h h' ∧
    ∀ κ w (args' : Array Value) rr m, WF h → HR P κ h.m w → LR κ args args'.toList → Free κ h.c h'.c → ∃ fn tmps assign body, (Instr.yield (κ.p l) args').run P w = .ok (.round (κ.p l) fn tmps assign body) w ∧
      RoundIn (FW rr) m P (κ.p l) fn tmps assign body w fun e w' => ∃ v', e = .returned v' ∧ Comes' P ro κ h w v h' v' w' := by
  unfold around at e
  split at e
  · rename_i st0 pe0 nt ts params assign body df0 hob
    split at e
    · rename_i ts1 hps
      split at e
      · rename_i st1 hev1
        split at e
        · rename_i pe nt1 tsl ps1 as1 bd1 df1 hob1 hdl1
          split at e
          · rename_i h2 hu2
            split at e
            · rename_i ee st3 hev3
              split at e
              · rename_i st3s pe3 nt3 ts3 ps3 as3 bd3 df3 hob3
                split at e
                · rename_i h4 hu4
                  simp only [Option.some.injEq, Prod.mk.injEq] at e
                  obtain ⟨rfl, rfl⟩ := e
                  obtain ⟨m1, k1⟩ := hE _ _ _ _ _ _ hev1
                  obtain ⟨m3, k3⟩ := hE _ _ _ _ _ _ hev3
                  have c2 := upd_c hu2
                  have c4 := upd_c hu4
                  have hup : Up h h4 := ((m1.trans (up_upd hob1 hu2)).trans m3).trans (up_upd hob3 hu4)
                  refine ⟨hup, fun κ w args' rr m W H r hf => ?_⟩
                  have W2 := (m1.trans (up_upd hob1 hu2)).2 W
                  replace m1 := m1.1
                  replace m3 := m3.1
                  simp only at m1 m3
                  obtain ⟨r0, hr0, hp0, hn0, ht0, _, _, _, _, hass, hbod, hdl⟩ := loop_obj H hob
                  obtain ⟨q1, q2, q3⟩ := setParams_ok hps ht0 hn0 r
                  have hsz : args'.size = r0.params.size := by rw [← hp0] at q1; simpa using q1.symm
                  refine ⟨r0.fn, _, r0.assign, r0.body, run_yield hr0 hsz, ?_⟩
                  have hfold : ((r0.params.zip args').foldl (fun tmps (t, a) => tmps.setIfInBounds t a) r0.tmps) = ((params.zip args'.toList).foldl (fun tm p => tm.setIfInBounds p.1 p.2) r0.tmps) := by
                    rw [← Array.foldl_toList, Array.toList_zip, hp0]
                  rw [hfold]
                  refine roundIn_of_wpIn trivial ?_
                  rw [hass, hbod]
                  show assign.wpIn (FW (some (κ.p l))) m P _ _ w
                  refine k1 [] κ (some (κ.p l)) { tmps := _, defers := [] } w _ m W H q2 q3 ⟨fun _ q => by simp at q, rfl⟩ ⟨hdl, rfl⟩ (Free.le hf (by omega)) ?_
                  intro κ1 a1 w1 H1 G1 T1 n1 D1
                  obtain ⟨r1, hr1, hp1, hn1, ht1, hdf1, hf1, hs1, hpe1, ha1, hb1, hdl1'⟩ := loop_obj H1 hob1
                  have hpl : κ1.p l = κ.p l := G1.ext.p l hdl
                  obtain ⟨H2, G2⟩ := loop_set H1 hob1 hu2 hr1 hp1 hn1 ht1 hdf1 hf1 ha1 hb1
                  rw [hpl] at hr1 H2 G2
                  show ∃ w₂, _ ∧ _
                  refine ⟨_, run_beginRound hr1 hs1, ?_⟩
                  have hsame : ({ r1 with state := .busy, pending := pe } : Loop) = { r1 with state := .busy } := by rw [← hpe1]
                  rw [hsame] at H2 G2
                  have G12 := G1.trans G2
                  refine k3 [] κ1 (some (κ.p l)) a1 _ _ m W2 H2 T1 n1 (by rw [hdl1] at D1; exact D1) ⟨hdl1', hpl.symm⟩ (Free.le (Free.next hf G12) (by omega)) ?_
                  intro κ3 a3 w3 H3 G3 T3 n3 D3
                  obtain ⟨r3, hr3, hp3, hn3, ht3, hdf3, hf3, hs3, hpe3, ha3, hb3, hdl3'⟩ := loop_obj H3 hob3
                  have hpl3 : κ3.p l = κ.p l := by rw [G3.ext.p l hdl1']; exact hpl
                  obtain ⟨H4, G4⟩ := loop_set H3 hob3 hu4 hr3 hp3 hn3 ht3 hdf3 hf3 ha3 hb3
                  rw [hpl3] at hr3 H4 G4
                  have fin := fun jump : Option Code => run_endRound (P := P) jump hr3
                  have G := (G12.trans G3).trans G4
                  cases ee with
                  | normal => exact ⟨_, _, fin none, _, rfl, κ3, H4, G, .bool _⟩
                  | ret => exact ⟨_, _, fin (some .ret), _, rfl, κ3, H4, G, .bool _⟩
                  | exit id => exact ⟨_, _, fin (some (.exit id)), _, rfl, κ3, H4, G, .bool _⟩
                · cases e
              · cases e
            · cases e
          · cases e
        · cases e
      · cases e
    · cases e
  · cases e
/-- AN OPERATION, in its row. -/
theorem oper_ok (hF : Fit P) (hX : XOk P ro X) (hE : EvOk P ro ev) (hC : COk P ro C) {ops : Array Oper} {ts : TS} {h h' : Hp} {o : Oper} {v : Value} (e : aoper P ro X ev C ops.toList ts h o = some (v, h')) : Up h h' ∧
    ∀ κ rr (a : Act) w (next : Act → World → Prop) (Q : Exit → Act → World → Prop) m i, ops[i]? = some o → WF h → HR P κ h.m w → TR κ ts a.tmps → Free κ h.c h'.c →
      (∀ v' w', Comes' P ro κ h w v h' v' w' → next (a.put o.dst v') w') → wpOpIn (FW rr) m P ops Q i next a w := by
  unfold aoper at e
  split at e
  · rename_i hg
    split at e
    · rename_i v1 h1 hop
      simp only [Option.some.injEq, Prod.mk.injEq] at e
      obtain ⟨rfl, rfl⟩ := e
      obtain ⟨hm, hk⟩ := aop_ok hF hX hop
      refine ⟨hm, fun κ rr a w next Q m i hi W H T hf k => ?_⟩
      obtain ⟨v', w', hr, hc⟩ := hk κ a w H T hf
      have hnd : ∀ c, o.op ≠ .defer c := fun c q => by rw [aop_eq] at hop; simp [aopS, q] at hop
      unfold wpOpIn
      simp only [hi, guard_ok T hg, if_true]
      refine ⟨fun f _ => trivial, ?_⟩
      rw [Oper.semAt_eq _ _ _ hnd]
      rcases hr with hr | ⟨rfl, hr⟩
      · rw [hr]; exact k _ _ hc
      · rw [hr]; exact k _ _ hc
    · rename_i f args h1 hop
      obtain ⟨rfl, hk⟩ := aop_ok hF hX hop
      obtain ⟨hm, hcall⟩ := call_ok hE hC e
      refine ⟨hm, fun κ rr a w next Q m i hi W H T hf k => ?_⟩
      obtain ⟨args', hr, hl⟩ := hk κ a w H T
      have hnd : ∀ c, o.op ≠ .defer c := fun c q => by rw [aop_eq] at hop; simp [aopS, q] at hop
      unfold wpOpIn
      simp only [hi, guard_ok T hg, if_true]
      refine ⟨fun f _ => trivial, ?_⟩
      rw [Oper.semAt_eq _ _ _ hnd, hr]
      refine ⟨FW_depth rr, ?_⟩
      have := hcall κ w args' (m - 1) W H hl hf
      refine CallsIn.mono (F := FW rr) this ?_
      rintro e w' ⟨v', rfl, hc⟩
      exact k _ _ hc
    · rename_i l args h1 hop
      obtain ⟨rfl, hk⟩ := aop_ok hF hX hop
      obtain ⟨hm, hround⟩ := round_ok hE e
      refine ⟨hm, fun κ rr a w next Q m i hi W H T hf k => ?_⟩
      obtain ⟨args', hdl, hr, hl⟩ := hk κ a w H T
      obtain ⟨fn, tmps, assign, body, hy, hR⟩ := hround κ w args' rr (m - 1) W H hl hf
      have hnd : ∀ c, o.op ≠ .defer c := fun c q => by rw [aop_eq] at hop; simp [aopS, q] at hop
      unfold wpOpIn
      simp only [hi, guard_ok T hg, if_true]
      refine ⟨fun f _ => trivial, ?_⟩
      rw [Oper.semAt_eq _ _ _ hnd, hr, hy]
      refine ⟨FW_depth rr, ?_⟩
      refine RoundIn.mono hR ?_
      rintro e w' ⟨v', rfl, hc⟩
      exact k _ _ hc
    · cases e
  · rename_i hg
    simp only [Option.some.injEq, Prod.mk.injEq] at e
    obtain ⟨rfl, rfl⟩ := e
    refine ⟨Up.refl _, fun κ rr a w next Q m i hi W H T hf k => ?_⟩
    unfold wpOpIn
    simp only [hi, guard_ok T hg, Bool.false_eq_true, if_false]
    exact ⟨fun f _ => trivial, k undef w ⟨κ, H, Gone.refl H, vr_undef κ⟩⟩
  · cases e
/-- A ROW OF OPERATIONS, one behind the other. -/
theorem ops_ok (hF : Fit P) (hX : XOk P ro X) (hE : EvOk P ro ev) (hC : COk P ro C) {ops : Array Oper} {nt : Nat} : ∀ (os : List Oper) (k : Nat) (st st' : St), ops.toList.drop k = os → aops P ro X ev C ops.toList nt os st = some st' →
    Up st.h st'.h ∧ ∀ tl κ rr (a : Act) w (Q : Exit → Act → World → Prop) m, WF st.h → HR P κ st.h.m w → TR κ st.ts a.tmps → a.tmps.size = nt → DR tl κ st.dl a.defers → Free κ st.h.c st'.h.c →
      (∀ κ' (a' : Act) w', HR P κ' st'.h.m w' → Gone ro κ κ' st.h st'.h w w' → TR κ' st'.ts a'.tmps → a'.tmps.size = nt → DR tl κ' st'.dl a'.defers → Q .normal a' w') → wpOpsIn (FW rr) m P ops Q (List.range' k os.length) a w
  | [], k, st, st', hd, e => by
    simp only [aops, Option.some.injEq] at e; subst e
    exact ⟨Up.refl _, fun tl κ rr a w Q m _ H T hn D hf kk => kk κ a w H (Gone.refl H) T hn D⟩
  | o :: os, k, st, st', hd, e => by
    simp only [aops] at e
    split at e
    · rename_i v h1 ho
      split at e
      · rename_i ts1 hp
        obtain ⟨m1, k1⟩ := oper_ok hF hX hE hC ho
        have hdrop : ops.toList.drop (k + 1) = os := by rw [← List.drop_drop, hd]; rfl
        obtain ⟨m2, k2⟩ := ops_ok hF hX hE hC os (k + 1) _ st' hdrop e
        refine ⟨m1.trans m2, fun tl κ rr a w Q m W H T hn D hf kk => ?_⟩
        replace m2 := m2.1
        simp only at m2
        have hi : ops[k]? = some o := by
          have : (ops.toList.drop k)[0]? = some o := by rw [hd]; rfl
          rw [List.getElem?_drop, Nat.add_zero, Array.getElem?_toList] at this; exact this
        rw [List.length_cons, List.range'_succ, wpOpsIn_cons]
        refine k1 κ rr a w _ Q m k hi W H T (Free.le hf m2) fun v' w1 hc => ?_
        obtain ⟨κ1, H1, G1, V1⟩ := hc
        obtain ⟨T1, n1, d1⟩ := TR.put (T.ext G1.ext) hn V1 hp
        refine k2 tl κ1 rr _ w1 Q m (m1.2 W) H1 T1 n1 (by rw [d1]; exact D.ext G1.ext) (Free.next hf G1) fun κ2 a2 w2 H2 G2 T2 n2 D2 => ?_
        exact kk κ2 a2 w2 H2 (G1.trans G2) T2 n2 D2
      · cases e
    · cases e
end
end Ex
end
section
namespace Ex
theorem delL_get : ∀ (l : List Nat) (m : Tr AO) (i : Nat), (delL m l).get i = if i ∈ l then none else m.get i
  | [], m, i => by simp [delL]
  | b :: bs, m, i => by
    rw [delL, delL_get bs, Tr.get_put]
    by_cases h1 : i ∈ bs
    · simp [h1]
    · by_cases h2 : i = b <;> simp [h1, h2]
theorem delR_get : ∀ (n lo : Nat) (m : Tr AO) (i : Nat), (delR m lo n).get i = if lo ≤ i ∧ i < lo + n then none else m.get i
  | 0, lo, m, i => by simp [delR]; omega
  | n + 1, lo, m, i => by
    rw [delR, delR_get n, Tr.get_put]
    by_cases h1 : lo + 1 ≤ i ∧ i < lo + 1 + n
    · rw [if_pos h1, if_pos (by omega)]
    · rw [if_neg h1]
      by_cases h2 : i = lo
      · rw [if_pos h2, if_pos (by omega)]
      · rw [if_neg h2, if_neg (by omega)]
theorem copyL_get (src : Tr AO) : ∀ (l : List Nat) (m : Tr AO) (i : Nat), (copyL src m l).get i = if i ∈ l then src.get i else m.get i
  | [], m, i => by simp [copyL]
  | b :: bs, m, i => by
    rw [copyL, copyL_get src bs, Tr.get_put]
    by_cases h1 : i ∈ bs
    · simp [h1]
    · by_cases h2 : i = b
      · subst h2; simp
      · simp [h1, h2]
theorem copyR_get (src : Tr AO) : ∀ (n lo : Nat) (m : Tr AO) (i : Nat), (copyR src m lo n).get i = if lo ≤ i ∧ i < lo + n then src.get i else m.get i
  | 0, lo, m, i => by simp [copyR]; omega
  | n + 1, lo, m, i => by
    rw [copyR, copyR_get src n, Tr.get_put]
    by_cases h1 : lo + 1 ≤ i ∧ i < lo + 1 + n
    · rw [if_pos h1, if_pos (by omega)]
    · rw [if_neg h1]
      by_cases h2 : i = lo
      · rw [if_pos h2, if_pos (by omega), h2]
      · rw [if_neg h2, if_neg (by omega)]
theorem over_get (h' : Hp) (m : Tr AO) (lo i : Nat) : (over h' m lo).get i = if i ∈ h'.wl ∨ (lo ≤ i ∧ i < h'.c) then h'.m.get i else m.get i := by
  rw [over, copyL_get, copyR_get]
  by_cases h1 : i ∈ h'.wl
  · simp [h1]
  · by_cases h2 : lo ≤ i ∧ i < h'.c
    · rw [if_neg h1, if_pos (by omega), if_pos (.inr h2)]
    · rw [if_neg h1, if_neg (by omega), if_neg (by simp [h1]; omega)]
theorem addAll_mem : ∀ (bs l : List Nat) (i : Nat), i ∈ addAll bs l ↔ i ∈ bs ∨ i ∈ l
  | [], l, i => by simp [addAll]
  | b :: bs, l, i => by
    rw [addAll, addAll_mem bs, mem_addW]
    simp only [List.mem_cons]
    constructor
    · rintro (a | rfl | a)
      · exact .inl (.inr a)
      · exact .inl (.inl rfl)
      · exact .inr a
    · rintro ((rfl | a) | a)
      · exact .inr (.inl rfl)
      · exact .inl a
      · exact .inr (.inr a)
theorem hide_get (pre : Nat) : ∀ (ss : List Seg) (m : Tr AO) (i : Nat) (o : AO), (hide pre m ss).get i = some o → m.get i = some o ∧ ∀ s ∈ ss, pre.testBit s.i = false → ¬(i ∈ s.w ∨ (s.lo ≤ i ∧ i < s.hi))
  | [], m, i, o, h => ⟨h, fun s hs => by simp at hs⟩
  | s :: ss, m, i, o, h => by
    unfold hide at h
    cases hb : pre.testBit s.i with
    | true =>
      rw [hb, cond_true] at h
      obtain ⟨a, b⟩ := hide_get pre ss m i o h
      refine ⟨a, fun x hx hxb => ?_⟩
      rcases List.mem_cons.1 hx with rfl | hx
      · rw [hb] at hxb; cases hxb
      · exact b x hx hxb
    | false =>
      rw [hb, cond_false] at h
      obtain ⟨a, b⟩ := hide_get pre ss _ i o h
      rw [delR_get] at a
      split at a
      · cases a
      · rename_i h1
        rw [delL_get] at a
        split at a
        · cases a
        · rename_i h2
          refine ⟨a, fun x hx hxb => ?_⟩
          rcases List.mem_cons.1 hx with rfl | hx
          · rintro (q | q)
            · exact h2 q
            · exact h1 (by omega)
          · exact b x hx hxb
theorem hideT_get (j pre : Nat) : ∀ (L : List (Nat × Oper × Nat)) (ts : TS) (t : Nat) (v : Value), (hideT j pre ts L).get t = some v →
    ts.get t = some v ∧ ∀ x ∈ L, x.2.1.dst = some t → pre.testBit x.1 = true ∨ x.2.2.testBit j = true ∨ x.1 = j
  | [], ts, t, v, h => ⟨h, fun s hs => by simp at hs⟩
  | (k, o, prek) :: L, ts, t, v, h => by
    unfold hideT at h
    cases hd : o.dst with
    | none =>
      rw [hd] at h
      obtain ⟨a, b⟩ := hideT_get j pre L ts t v h
      refine ⟨a, fun x hx hxd => ?_⟩
      rcases List.mem_cons.1 hx with rfl | hx
      · rw [hd] at hxd; cases hxd
      · exact b x hx hxd
    | some d =>
      rw [hd] at h
      simp only at h
      cases hc : (pre.testBit k || prek.testBit j || Nat.beq k j) with
      | true =>
        rw [hc, cond_true] at h
        obtain ⟨a, b⟩ := hideT_get j pre L ts t v h
        refine ⟨a, fun x hx hxd => ?_⟩
        rcases List.mem_cons.1 hx with rfl | hx
        · simp only [Bool.or_eq_true] at hc
          rcases hc with (q | q) | q
          · exact .inl q
          · exact .inr (.inl q)
          · exact .inr (.inr (Nat.eq_of_beq_eq_true q))
        · exact b x hx hxd
      | false =>
        rw [hc, cond_false] at h
        obtain ⟨a, b⟩ := hideT_get j pre L _ t v h
        rw [Tr.get_put] at a
        split at a
        · cases a
        · rename_i hne
          refine ⟨a, fun x hx hxd => ?_⟩
          rcases List.mem_cons.1 hx with rfl | hx
          · rw [hd] at hxd; cases hxd; exact absurd rfl hne
          · exact b x hx hxd
theorem within_bit {a b : Nat} (h : within a b = true) (x : Nat) (hx : a.testBit x = true) : b.testBit x = true := by
  have : Nat.land a b = a := Nat.eq_of_beq_eq_true h
  have h2 : (a &&& b).testBit x = a.testBit x := congrArg (·.testBit x) this
  rw [Nat.testBit_and, hx] at h2
  simpa using h2

/-- What an operation did, when it was taken. -/
structure Rec where
  j : Nat
  o : Oper
  pre : Nat
  lo : Nat
  v : Value
  h' : Hp
def Rec.touch (r : Rec) (i : Nat) : Prop := i ∈ r.h'.wl ∨ (r.lo ≤ i ∧ i < r.h'.c)
def memT (p : Rec → Bool) : Tr AO → List Rec → Tr AO
  | m, [] => m
  | m, r :: rs => memT p (cond (p r) (over r.h' m r.lo) m) rs
def putO (ts : TS) (d : Option Tmp) (v : Value) : TS :=
  match d with
  | some d => ts.put d (some v)
  | none => ts
def tsT (p : Rec → Bool) : TS → List Rec → TS
  | ts, [] => ts
  | ts, r :: rs => tsT p (cond (p r) (putO ts r.o.dst r.v) ts) rs
theorem over_t {r : Rec} {i : Nat} (ht : r.touch i) (m : Tr AO) : (over r.h' m r.lo).get i = r.h'.m.get i := by rw [over_get]; exact if_pos ht
theorem over_n {r : Rec} {i : Nat} (ht : ¬r.touch i) (m : Tr AO) : (over r.h' m r.lo).get i = m.get i := by rw [over_get]; exact if_neg ht
theorem memT_append (p : Rec → Bool) : ∀ (xs ys : List Rec) (m : Tr AO), memT p m (xs ++ ys) = memT p (memT p m xs) ys
  | [], _, _ => rfl
  | _ :: xs, ys, m => by simp only [List.cons_append, memT]; exact memT_append p xs ys _
theorem tsT_append (p : Rec → Bool) : ∀ (xs ys : List Rec) (m : TS), tsT p m (xs ++ ys) = tsT p (tsT p m xs) ys
  | [], _, _ => rfl
  | _ :: xs, ys, m => by simp only [List.cons_append, tsT]; exact tsT_append p xs ys _
theorem memT_congr {p q : Rec → Bool} {i : Nat} : ∀ (rs : List Rec) (m m' : Tr AO), (∀ r ∈ rs, r.touch i → p r = q r) → m.get i = m'.get i → (memT p m rs).get i = (memT q m' rs).get i
  | [], m, m', _, h => h
  | r :: rs, m, m', hp, h => by
    simp only [memT]
    refine memT_congr rs _ _ (fun x hx => hp x (List.mem_cons_of_mem _ hx)) ?_
    by_cases ht : r.touch i
    · rw [hp r List.mem_cons_self ht]
      cases q r with
      | true => simp only [cond_true]; rw [over_t ht, over_t ht]
      | false => exact h
    · have ho : ∀ m : Tr AO, (over r.h' m r.lo).get i = m.get i := fun m => over_n ht m
      cases p r <;> cases q r <;> simp only [cond_true, cond_false, ho] <;> exact h
theorem memT_none {p : Rec → Bool} {i : Nat} : ∀ (rs : List Rec) (m : Tr AO), (∀ r ∈ rs, r.touch i → p r = false) → (memT p m rs).get i = m.get i
  | [], m, _ => rfl
  | r :: rs, m, hp => by
    simp only [memT]
    rw [memT_none rs _ fun x hx => hp x (List.mem_cons_of_mem _ hx)]
    by_cases ht : r.touch i
    · rw [hp r List.mem_cons_self ht]; rfl
    · cases p r with
      | true => rw [cond_true, over_n ht]
      | false => rfl
theorem memT_true : ∀ (rs : List Rec) (m : Tr AO) (B : Nat), (∀ i, (m.get i).isSome → i < B) → (∀ r ∈ rs, ∀ i, (r.h'.m.get i).isSome → i < B) → ∀ i, ((memT (fun _ => true) m rs).get i).isSome → i < B
  | [], m, B, h, _ => h
  | r :: rs, m, B, h, hr => by
    simp only [memT, cond_true]
    refine memT_true rs _ B (fun i hi => ?_) fun x hx => hr x (List.mem_cons_of_mem _ hx)
    rw [over_get] at hi
    split at hi
    · exact hr r List.mem_cons_self i hi
    · exact h i hi
theorem putO_get (ts : TS) (d : Option Tmp) (v : Value) (t : Nat) : (putO ts d v).get t = if d = some t then some v else ts.get t := by
  cases d with
  | none => simp [putO]
  | some d =>
    simp only [putO, Tr.get_put, Option.some.injEq]
    by_cases h : t = d
    · subst h; simp
    · rw [if_neg h, if_neg (Ne.symm h)]
theorem tsT_congr {p q : Rec → Bool} {t : Nat} : ∀ (rs : List Rec) (m m' : TS), (∀ r ∈ rs, r.o.dst = some t → p r = q r) → m.get t = m'.get t → (tsT p m rs).get t = (tsT q m' rs).get t
  | [], m, m', _, h => h
  | r :: rs, m, m', hp, h => by
    simp only [tsT]
    refine tsT_congr rs _ _ (fun x hx => hp x (List.mem_cons_of_mem _ hx)) ?_
    by_cases ht : r.o.dst = some t
    · rw [hp r List.mem_cons_self ht]
      cases q r with
      | true => simp only [cond_true]; rw [putO_get, putO_get, if_pos ht, if_pos ht]
      | false => exact h
    · have ho : ∀ m : TS, (putO m r.o.dst r.v).get t = m.get t := fun m => by rw [putO_get, if_neg ht]
      cases p r <;> cases q r <;> simp only [cond_true, cond_false, ho] <;> exact h
theorem tsT_none {p : Rec → Bool} {t : Nat} : ∀ (rs : List Rec) (m : TS), (∀ r ∈ rs, r.o.dst = some t → p r = false) → (tsT p m rs).get t = m.get t
  | [], m, _ => rfl
  | r :: rs, m, hp => by
    simp only [tsT]
    rw [tsT_none rs _ fun x hx => hp x (List.mem_cons_of_mem _ hx)]
    by_cases ht : r.o.dst = some t
    · rw [hp r List.mem_cons_self ht]; rfl
    · cases p r with
      | true => rw [cond_true, putO_get, if_neg ht]
      | false => rfl

section
variable {P : Program} {ro : Nat} {X C : Hook} {ev : Option Nat → Nat → Code → St → Option (Ex × St)}
def segsOf (ear : List Rec) : List Seg := ear.map fun r => ⟨r.j, r.h'.wl, r.lo, r.h'.c⟩
/-- What is known of an operation that was taken behind the ones of E. -/
structure Fact (P : Program) (ro : Nat) (X C : Hook) (ev : Option Nat → Nat → Code → St → Option (Ex × St)) (ops : List Oper) (nt : Nat) (all : List (Nat × Oper × Nat)) (pm : Nat) (m0 : Tr AO) (ts0 : TS) (E : List Rec) (r : Rec) : Prop where
  ahead : ∀ x, r.pre.testBit x = true → ∃ k ∈ E, k.j = x
  apart : ∀ k ∈ E, k.j ≠ r.j
  run : aoper P ro X ev C ops (hideT r.j r.pre (tsT (fun _ => true) ts0 E) all) { m := cond (pureOp r.o.op) .leaf (hide r.pre (memT (fun _ => true) m0 E) (segsOf E.reverse)), c := r.lo, wl := [] } r.o = some (r.v, r.h')
  still : pureOp r.o.op = true → r.h'.wl = [] ∧ r.h'.c = r.lo
  writes : pureOp r.o.op = false → r.h'.wl = [] ∨ ∀ k ∈ E, r.pre.testBit k.j = true ∨ pm.testBit k.j = true
  dst : ∀ d, r.o.dst = some d → d < nt
  above : ∀ k ∈ E, k.h'.c ≤ r.lo
  wf : WF r.h'
theorem draw_facts (hF : Fit P) (hX : XOk P ro X) (hE : EvOk P ro ev) (hC : COk P ro C) {ops : List Oper} {aops : Array Oper} (ha : aops.toList = ops) {nt : Nat} {all : List (Nat × Oper × Nat)} {pm : Nat} {m0 : Tr AO} {ts0 : TS} {c0 : Nat} (hm0 : ∀ i, (m0.get i).isSome → i < c0) :
    ∀ (L : List (Nat × Oper × Nat)) (done : Nat) (E : List Rec) (st st' : St), adraw P ro X ev C ops nt all pm L done (segsOf E.reverse) st = some st' →
      WF st.h → st.h.m = memT (fun _ => true) m0 E → st.ts = tsT (fun _ => true) ts0 E → (∀ x, done.testBit x = true ↔ ∃ k ∈ E, k.j = x) → (∀ k ∈ E, k.h'.c ≤ st.h.c) → c0 ≤ st.h.c → (∀ k ∈ E, WF k.h') →
      ∃ recs, recs.map (fun r => (r.j, r.o, r.pre)) = L ∧ (∀ E2 r post, recs = E2 ++ r :: post → Fact P ro X C ev ops nt all pm m0 ts0 (E ++ E2) r ∧ c0 ≤ r.lo) ∧ st'.h.m = memT (fun _ => true) m0 (E ++ recs) ∧ st'.ts = tsT (fun _ => true) ts0 (E ++ recs) ∧ st'.dl = st.dl ∧
        (∀ i ∈ st.h.wl, i ∈ st'.h.wl) ∧ (∀ r ∈ recs, ∀ i ∈ r.h'.wl, i ∈ st'.h.wl) ∧ (∀ r ∈ recs, r.h'.c ≤ st'.h.c ∧ st.h.c ≤ r.lo) ∧ Up st.h st'.h
  | [], done, E, st, st', e, W, hm, ht, hd, hc, hc0, hWE => by
    simp only [adraw, Option.some.injEq] at e; subst e
    exact ⟨[], rfl, fun E2 r post h => by simp at h, by simpa using hm, by simpa using ht, rfl, fun _ h => h, fun r h => by simp at h, fun r h => by simp at h, Up.refl _⟩
  | (j, o, pre) :: os, done, E, st, st', e, W, hm, ht, hd, hc, hc0, hWE => by
    unfold adraw at e
    cases h1 : (within pre done && !Nat.testBit done j) with
    | false => rw [h1] at e; cases e
    | true =>
      rw [h1, cond_true] at e
      simp only [Bool.and_eq_true, Bool.not_eq_true'] at h1
      obtain ⟨hw, hj⟩ := h1
      split at e
      · rename_i v h' hop
        split at e
        · rename_i ts' hput
          cases h2 : (cond (pureOp o.op) (isNil h'.wl && Nat.beq h'.c st.h.c) (isNil h'.wl || within done (Nat.lor pre pm))) with
          | false => rw [h2] at e; cases e
          | true =>
            rw [h2, cond_true] at e
            let r : Rec := ⟨j, o, pre, st.h.c, v, h'⟩
            -- the input is well formed
            have hWin : WF { m := cond (pureOp o.op) .leaf (hide pre st.h.m (segsOf E.reverse)), c := st.h.c, wl := [] } := by
              refine ⟨fun i hi => ?_, fun i hi => by simp at hi⟩
              simp only at hi ⊢
              cases hpo : pureOp o.op with
              | true => rw [hpo] at hi; simp [Tr.get] at hi
              | false =>
                rw [hpo, cond_false] at hi
                obtain ⟨x, hx⟩ := Option.isSome_iff_exists.1 hi
                exact W.1 i (by rw [(hide_get _ _ _ _ _ hx).1]; rfl)
            subst ha
            have hup := (oper_ok hF hX hE hC hop).1
            have hWr : WF h' := hup.2 hWin
            have hcr : st.h.c ≤ h'.c := hup.1
            have hput2 : ts' = putO st.ts o.dst v ∧ ∀ d, o.dst = some d → d < nt := by
              cases hdst : o.dst with
              | none => rw [hdst] at hput; simp only [putD, Option.some.injEq] at hput; exact ⟨hput.symm, fun d q => by cases q⟩
              | some d =>
                rw [hdst] at hput
                simp only [putD] at hput
                by_cases hle : d + 1 ≤ nt
                · rw [bleT hle] at hput; simp only [cond_true, Option.some.injEq] at hput
                  exact ⟨hput.symm, fun d' q => by cases q; exact hle⟩
                · rw [bleF hle] at hput; cases hput
            have hmem : over h' st.h.m st.h.c = memT (fun _ => true) m0 (E ++ [r]) := by rw [memT_append, ← hm]; rfl
            have hts : ts' = tsT (fun _ => true) ts0 (E ++ [r]) := by rw [tsT_append, ← ht]; exact hput2.1
            have hdone : ∀ x, (Nat.lor done (2 ^ j)).testBit x = true ↔ ∃ k ∈ E ++ [r], k.j = x := by
              intro x
              have : (Nat.lor done (2 ^ j)).testBit x = (done.testBit x || (2 ^ j).testBit x) := Nat.testBit_or done (2 ^ j) x
              rw [this, Nat.testBit_two_pow, Bool.or_eq_true, hd, decide_eq_true_eq]
              simp only [List.mem_append, List.mem_singleton]
              constructor
              · rintro (⟨k, hk, hx⟩ | rfl)
                · exact ⟨k, .inl hk, hx⟩
                · exact ⟨r, .inr rfl, rfl⟩
              · rintro ⟨k, hk | rfl, hx⟩
                · exact .inl ⟨k, hk, hx⟩
                · exact .inr hx
            have hWnew : WF { m := over h' st.h.m st.h.c, c := h'.c, wl := addAll h'.wl st.h.wl } := by
              refine ⟨fun i hi => ?_, fun i hi => ?_⟩
              · simp only at hi ⊢
                rw [over_get] at hi
                split at hi
                · exact hWr.1 i hi
                · have := W.1 i hi; omega
              · rcases (addAll_mem _ _ _).1 hi with q | q
                · exact hWr.2 i q
                · have := W.2 i q; show i < h'.c; omega
            have hsegs : (⟨j, h'.wl, st.h.c, h'.c⟩ :: segsOf E.reverse : List Seg) = segsOf (E ++ [r]).reverse := by simp [segsOf, r]
            rw [hsegs] at e
            obtain ⟨recs, g1, g2, g3, g4, g5, g6, g7, g8, g9⟩ := draw_facts hF hX hE hC rfl hm0 os _ (E ++ [r]) _ st' e hWnew hmem hts hdone
              (fun k hk => by
                rcases List.mem_append.1 hk with q | q
                · have := hc k q; show k.h'.c ≤ h'.c; omega
                · rw [List.mem_singleton.1 q]; exact Nat.le_refl _)
              (by show c0 ≤ h'.c; omega)
              (fun k hk => by
                rcases List.mem_append.1 hk with q | q
                · exact hWE k q
                · rw [List.mem_singleton.1 q]; exact hWr)
            refine ⟨r :: recs, by simp [g1, r], ?_, by simpa using g3, by simpa using g4, g5, fun i hi => g6 i ((addAll_mem _ _ _).2 (.inr hi)), ?_, ?_, ?_⟩
            · intro E2 x post hsplit
              cases E2 with
              | nil =>
                simp only [List.nil_append, List.cons.injEq] at hsplit
                obtain ⟨rfl, rfl⟩ := hsplit
                refine ⟨⟨fun x hx => by simpa using (hd x).1 (within_bit hw x hx), fun k hk q => ?_, ?_, fun hp => ?_, fun hp => ?_, hput2.2, ?_, hWr⟩, hc0⟩
                · have := (hd j).2 ⟨k, by simpa using hk, q⟩
                  rw [hj] at this; cases this
                · simp only [List.append_nil, ← hm, ← ht]; exact hop
                · rw [show pureOp o.op = true from hp] at h2
                  simp only [cond_true, Bool.and_eq_true] at h2
                  refine ⟨?_, Nat.eq_of_beq_eq_true h2.2⟩
                  show h'.wl = []
                  cases hwl : h'.wl with
                  | nil => rfl
                  | cons a b => rw [hwl] at h2; simp [isNil] at h2
                · rw [show pureOp o.op = false from hp] at h2
                  simp only [cond_false, Bool.or_eq_true] at h2
                  rcases h2 with q | q
                  · refine .inl ?_
                    show h'.wl = []
                    cases hwl : h'.wl with
                    | nil => rfl
                    | cons a b => rw [hwl] at q; simp [isNil] at q
                  · refine .inr fun k hk => ?_
                    have := within_bit q k.j ((hd k.j).2 ⟨k, by simpa using hk, rfl⟩)
                    have h3 : (Nat.lor pre pm).testBit k.j = (pre.testBit k.j || pm.testBit k.j) := Nat.testBit_or pre pm k.j
                    rw [h3, Bool.or_eq_true] at this
                    exact this
                · intro k hk
                  exact hc k (by simpa using hk)
              | cons y E3 =>
                simp only [List.cons_append, List.cons.injEq] at hsplit
                obtain ⟨rfl, hs⟩ := hsplit
                have := g2 E3 x post hs
                simpa using this
            · intro x hx i hi
              rcases List.mem_cons.1 hx with rfl | hx
              · exact g6 i ((addAll_mem _ _ _).2 (.inl hi))
              · exact g7 x hx i hi
            · intro x hx
              rcases List.mem_cons.1 hx with rfl | hx
              · exact ⟨g9.1, Nat.le_refl _⟩
              · have := g8 x hx
                exact ⟨this.1, by have := this.2; simp only at this; omega⟩
            · exact ⟨by have := g9.1; simp only at this; omega, fun _ => g9.2 hWnew⟩
        · cases e
      · cases e
end
end Ex
end
section
namespace Ex
/-- What becomes of both, the count left out. -/
structure Core (ro : Nat) (κ κ' : K) (m m' : Tr AO) (wl wl' : List Nat) (w w' : World) : Prop where
  ext : Ext κ κ'
  size : w.heap.size ≤ w'.heap.size
  os : w'.os = w.os
  tape : w'.tape = w.tape
  output : w'.output = w.output
  frame : ∀ b, b < w.heap.size → (∀ i, ro ≤ i → (m.get i).isSome → κ.p i ≠ b) → w'.heap[b]? = w.heap[b]?
  fresh : ∀ i, (m'.get i).isSome → κ.dom i ∨ w.heap.size ≤ κ'.p i ∨ ∃ k, ro ≤ k ∧ κ.dom k ∧ (m.get k).isSome ∧ m'.get k = none ∧ κ'.p i = κ.p k
  old : ∀ i, κ.dom i → (m'.get i).isSome → (m.get i).isSome
  same : ∀ i, κ.dom i → i ∉ wl' → m'.get i = m.get i
  wle : ∀ i, i ∈ wl → i ∈ wl'
theorem Core.trans {ro : Nat} {κ κ1 κ2 : K} {h h1 h2 : Tr AO} {wl wl1 wl2 : List Nat} {w w1 w2 : World} (A : Core ro κ κ1 h h1 wl wl1 w w1) (B : Core ro κ1 κ2 h1 h2 wl1 wl2 w1 w2) : Core ro κ κ2 h h2 wl wl2 w w2 where
  ext := A.ext.trans B.ext
  size := Nat.le_trans A.size B.size
  os := B.os.trans A.os
  tape := B.tape.trans A.tape
  output := B.output.trans A.output
  frame := fun b hb hn => by
    rw [← A.frame b hb hn]
    refine B.frame b (Nat.lt_of_lt_of_le hb A.size) fun i hr hi => ?_
    rcases A.fresh i hi with d | d | ⟨k, hk, hd, hs, _, e⟩
    · rw [A.ext.p i d]; exact hn i hr (A.old i d hi)
    · omega
    · rw [e]; exact hn k hk hs
  fresh := fun i hi => by
    have hnone : ∀ k, κ.dom k → h1.get k = none → h2.get k = none := fun k hd hk => by
      cases e : h2.get k with
      | none => rfl
      | some x => have := B.old k (A.ext.dom k hd) (by rw [e]; rfl); rw [hk] at this; simp at this
    rcases B.fresh i hi with d | d | ⟨k, hk, hd, hs, hz, e⟩
    · have h1i := B.old i d hi
      rcases A.fresh i h1i with a | a | ⟨k, hk, hd, hs, hz, e⟩
      · exact .inl a
      · exact .inr (.inl (by rw [B.ext.p i d]; exact a))
      · exact .inr (.inr ⟨k, hk, hd, hs, hnone k hd hz, by rw [B.ext.p i d]; exact e⟩)
    · exact .inr (.inl (Nat.le_trans A.size d))
    · rcases A.fresh k hs with a | a | ⟨k0, hk0, hd0, hs0, hz0, e0⟩
      · exact .inr (.inr ⟨k, hk, a, A.old k a hs, hz, by rw [e, A.ext.p k a]⟩)
      · exact .inr (.inl (by rw [e]; exact a))
      · exact .inr (.inr ⟨k0, hk0, hd0, hs0, hnone k0 hd0 hz0, by rw [e, e0]⟩)
  old := fun i hd hi => A.old i hd (B.old i (A.ext.dom i hd) hi)
  same := fun i hd hn => by rw [B.same i (A.ext.dom i hd) hn]; exact A.same i hd fun hw => hn (B.wle i hw)
  wle := fun i hi => B.wle i (A.wle i hi)

/-! ### The masks -/
theorem takeOut_mem {f : Nat × Oper × Nat → Bool} : ∀ {l : List (Nat × Oper × Nat)} {x l'}, takeOut f l = some (x, l') → ∀ y, y ∈ l ↔ y = x ∨ y ∈ l'
  | [], x, l', e, y => by simp [takeOut] at e
  | z :: zs, x, l', e, y => by
    unfold takeOut at e
    cases hf : f z with
    | true =>
      rw [hf, cond_true] at e
      simp only [Option.some.injEq, Prod.mk.injEq] at e
      obtain ⟨rfl, rfl⟩ := e
      simp
    | false =>
      rw [hf, cond_false] at e
      split at e
      · rename_i u us hu
        simp only [Option.some.injEq, Prod.mk.injEq] at e
        obtain ⟨rfl, rfl⟩ := e
        have := takeOut_mem hu y
        simp only [List.mem_cons, this]
        constructor
        · rintro (a | a | a)
          · exact .inr (.inl a)
          · exact .inl a
          · exact .inr (.inr a)
        · rintro (a | a | a)
          · exact .inr (.inl a)
          · exact .inl a
          · exact .inr (.inr a)
      · cases e
theorem sched_mem : ∀ (n d : Nat) (l : List (Nat × Oper × Nat)) (y : Nat × Oper × Nat), y ∈ sched n d l ↔ y ∈ l
  | 0, _, l, y => Iff.rfl
  | n + 1, d, l, y => by
    unfold sched
    split
    · rename_i x l' hx
      rw [List.mem_cons, sched_mem n, takeOut_mem hx]
    · split
      · rename_i x l' hx
        rw [List.mem_cons, sched_mem n, takeOut_mem hx]
      · split
        · rename_i x l' hx
          rw [List.mem_cons, sched_mem n, takeOut_mem hx]
        · exact Iff.rfl
theorem zip3_mem : ∀ (os : List Oper) (ps : List Nat) (k : Nat) (x : Nat × Oper × Nat), x ∈ zip3 k os ps ↔ ∃ n, x.1 = k + n ∧ os[n]? = some x.2.1 ∧ ps[n]? = some x.2.2
  | [], ps, k, x => by simp [zip3]
  | o :: os, [], k, x => by simp [zip3]
  | o :: os, p :: ps, k, x => by
    rw [zip3, List.mem_cons, zip3_mem os ps (k + 1) x]
    constructor
    · rintro (rfl | ⟨n, h1, h2, h3⟩)
      · exact ⟨0, rfl, rfl, rfl⟩
      · exact ⟨n + 1, by omega, h2, h3⟩
    · rintro ⟨n, h1, h2, h3⟩
      cases n with
      | zero =>
        simp at h2 h3
        obtain ⟨a, b, c⟩ := x
        simp only at h1 h2 h3
        exact .inl (by rw [h1, ← h2, ← h3]; rfl)
      | succ n => exact .inr ⟨n, by omega, by simpa using h2, by simpa using h3⟩
theorem preOf_spec {pres : List Nat} : ∀ {es : List Edge} {q : Nat}, preOf pres es = some q →
    (∀ x, q.testBit x = true → ∃ e ∈ es, Region.binds .any e = true ∧ ∃ p, pres[e.on]? = some p ∧ (x = e.on ∨ p.testBit x = true)) ∧ (∀ e ∈ es, Region.binds .any e = true → q.testBit e.on = true)
  | [], q, h => by simp only [preOf, Option.some.injEq] at h; subst h; exact ⟨fun x hx => by simp at hx, fun e he => by simp at he⟩
  | e :: es, q, h => by
    unfold preOf at h
    split at h
    · rename_i q' hq
      obtain ⟨i1, i2⟩ := preOf_spec hq
      have skip : Region.binds .any e = false → q' = q → (∀ x, q.testBit x = true → ∃ e' ∈ e :: es, Region.binds .any e' = true ∧ ∃ p, pres[e'.on]? = some p ∧ (x = e'.on ∨ p.testBit x = true)) ∧ (∀ e' ∈ e :: es, Region.binds .any e' = true → q.testBit e'.on = true) := fun hb he => by
        subst he
        exact ⟨fun x hx => let ⟨e', h1, h2⟩ := i1 x hx; ⟨e', List.mem_cons_of_mem _ h1, h2⟩, fun e' he' hb' => by
          rcases List.mem_cons.1 he' with rfl | he'
          · rw [hb] at hb'; cases hb'
          · exact i2 e' he' hb'⟩
      split at h
      · rename_i row hg
        simp only [Option.some.injEq] at h
        exact skip (by unfold Region.binds; rw [hg]; rfl) h
      · rename_i row hg
        simp only [Option.some.injEq] at h
        exact skip (by unfold Region.binds; rw [hg]; rfl) h
      · rename_i hg1 hg2
        have hb : Region.binds .any e = true := by
          unfold Region.binds
          cases hg : e.ground with
          | textOnly r => exact absurd hg (hg1 r)
          | gcOnly r => exact absurd hg (hg2 r)
          | _ => rfl
        split at h
        · rename_i p hp
          simp only [Option.some.injEq] at h; subst h
          have hbit : ∀ x, (Nat.lor (Nat.lor p (2 ^ e.on)) q').testBit x = ((p.testBit x || (2 ^ e.on).testBit x) || q'.testBit x) := fun x => by
            have h1 : (Nat.lor (Nat.lor p (2 ^ e.on)) q').testBit x = ((Nat.lor p (2 ^ e.on)).testBit x || q'.testBit x) := Nat.testBit_or _ _ x
            have h2 : (Nat.lor p (2 ^ e.on)).testBit x = (p.testBit x || (2 ^ e.on).testBit x) := Nat.testBit_or _ _ x
            rw [h1, h2]
          refine ⟨fun x hx => ?_, fun e' he' hb' => ?_⟩
          · rw [hbit, Bool.or_eq_true, Bool.or_eq_true] at hx
            rcases hx with (a | a) | a
            · exact ⟨e, List.mem_cons_self, hb, p, hp, .inr a⟩
            · rw [Nat.testBit_two_pow] at a
              exact ⟨e, List.mem_cons_self, hb, p, hp, .inl (by simp at a; exact a.symm)⟩
            · obtain ⟨e', h1, h2⟩ := i1 x a
              exact ⟨e', List.mem_cons_of_mem _ h1, h2⟩
          · rw [hbit]
            rcases List.mem_cons.1 he' with rfl | he'
            · simp
            · simp [i2 e' he' hb']
        · cases h
    · cases h
theorem presOf_spec : ∀ {os : List Oper} {p0 pres : List Nat}, presOf os p0 = some pres → (∃ r, pres = p0 ++ r) ∧ pres.length = p0.length + os.length ∧
    ∀ (i : Nat) o, os[i]? = some o → ∃ q, pres[p0.length + i]? = some q ∧ preOf (pres.take (p0.length + i)) o.after.toList = some q
  | [], p0, pres, h => by simp only [presOf, Option.some.injEq] at h; subst h; exact ⟨⟨[], by simp⟩, rfl, fun i o hi => by simp at hi⟩
  | o :: os, p0, pres, h => by
    unfold presOf at h
    split at h
    · rename_i p hp
      obtain ⟨⟨r, hr⟩, hlen, hi⟩ := presOf_spec h
      refine ⟨⟨p :: r, by rw [hr]; simp⟩, by rw [hlen]; simp; omega, fun i o' ho' => ?_⟩
      cases i with
      | zero =>
        simp only [List.getElem?_cons_zero, Option.some.injEq] at ho'; subst ho'
        refine ⟨p, by rw [hr]; simp, ?_⟩
        have : pres.take (p0.length + 0) = p0 := by rw [hr]; simp
        rw [this]; exact hp
      | succ i =>
        obtain ⟨q, h1, h2⟩ := hi i o' (by simpa using ho')
        simp only [List.length_append, List.length_singleton] at h1 h2
        exact ⟨q, by rw [show p0.length + (i + 1) = p0.length + 1 + i from by omega]; exact h1, by rw [show p0.length + (i + 1) = p0.length + 1 + i from by omega]; exact h2⟩
    · cases h
theorem pureMask_bit : ∀ (os : List Oper) (k i : Nat), (pureMask k os).testBit i = true → ∃ n o, i = k + n ∧ os[n]? = some o ∧ pureOp o.op = true
  | [], k, i, h => by simp [pureMask] at h
  | o :: os, k, i, h => by
    unfold pureMask at h
    cases hp : pureOp o.op with
    | false =>
      rw [hp, cond_false] at h
      obtain ⟨n, o', h1, h2, h3⟩ := pureMask_bit os (k + 1) i h
      exact ⟨n + 1, o', by omega, h2, h3⟩
    | true =>
      rw [hp, cond_true] at h
      have hb : (Nat.lor (2 ^ k) (pureMask (k + 1) os)).testBit i = ((2 ^ k).testBit i || (pureMask (k + 1) os).testBit i) := Nat.testBit_or _ _ i
      rw [hb, Bool.or_eq_true, Nat.testBit_two_pow] at h
      rcases h with a | a
      · exact ⟨0, o, by simp at a; omega, rfl, hp⟩
      · obtain ⟨n, o', h1, h2, h3⟩ := pureMask_bit os (k + 1) i a
        exact ⟨n + 1, o', by omega, h2, h3⟩
theorem dsts_nodup : ∀ {os : List Oper}, nodupB (dsts os) = true → ∀ (i j : Nat) (a b : Oper) d, os[i]? = some a → os[j]? = some b → a.dst = some d → b.dst = some d → i = j := by
  have memd : ∀ {os : List Oper} {i : Nat} {a : Oper} {d : Tmp}, os[i]? = some a → a.dst = some d → d ∈ dsts os := by
    intro os
    induction os with
    | nil => intro i a d h; simp at h
    | cons o os ih =>
      intro i a d h hd
      unfold dsts
      cases i with
      | zero => simp only [List.getElem?_cons_zero, Option.some.injEq] at h; subst h; rw [hd]; exact List.mem_cons_self
      | succ i =>
        have := ih (i := i) (by simpa using h) hd
        split
        · exact List.mem_cons_of_mem _ this
        · exact this
  intro os
  induction os with
  | nil => intro _ i j a b d h; simp at h
  | cons o os ih =>
    intro hn i j a b d hi hj ha hb
    unfold dsts at hn
    have hrest : nodupB (dsts os) = true ∧ ∀ d', o.dst = some d' → d' ∉ dsts os := by
      split at hn
      · rename_i d' hd'
        simp only [nodupB, Bool.and_eq_true, Bool.not_eq_true'] at hn
        refine ⟨hn.2, fun d2 h2 hm => ?_⟩
        rw [hd'] at h2; cases h2
        have : (dsts os).elem d' = true := by simpa using hm
        rw [this] at hn; simp at hn
      · rename_i hd'
        exact ⟨hn, fun d2 h2 => by rw [hd'] at h2; cases h2⟩
    cases i with
    | zero =>
      simp only [List.getElem?_cons_zero, Option.some.injEq] at hi; subst hi
      cases j with
      | zero => rfl
      | succ j => exact absurd (memd (by simpa using hj) hb) (hrest.2 d ha)
    | succ i =>
      cases j with
      | zero =>
        simp only [List.getElem?_cons_zero, Option.some.injEq] at hj; subst hj
        exact absurd (memd (by simpa using hi) ha) (hrest.2 d hb)
      | succ j => rw [ih hrest.1 i j a b d (by simpa using hi) (by simpa using hj) ha hb]
end Ex
end
section
namespace Ex
section
variable {P : Program} {ro : Nat} {X C : Hook} {ev : Option Nat → Nat → Code → St → Option (Ex × St)}
/-- Which ones have run. -/
def ranB (S : Nat → Bool) (r : Rec) : Bool := S r.j
/-- All that the evaluator did, in its own order. -/
structure Drawn (P : Program) (ro : Nat) (X C : Hook) (ev : Option Nat → Nat → Code → St → Option (Ex × St)) (ops : Array Oper) (nt : Nat) (all : List (Nat × Oper × Nat)) (m0 : Tr AO) (ts0 : TS) (c0 cE : Nat) (wl0 wlE : List Nat) (recs : List Rec) : Prop where
  facts : ∀ E r post, recs = E ++ r :: post → Fact P ro X C ev ops.toList nt all (pureMask 0 ops.toList) m0 ts0 E r ∧ c0 ≤ r.lo
  is : ∀ r ∈ recs, ops[r.j]? = some r.o
  every : ∀ (i : Nat) o, ops[i]? = some o → ∃ r ∈ recs, r.j = i
  all_mem : ∀ r ∈ recs, (r.j, r.o, r.pre) ∈ all
  edges : ∀ r ∈ recs, ∀ x, r.pre.testBit x = true → ∃ e ∈ r.o.after.toList, Region.binds .any e = true ∧ (x = e.on ∨ ∃ k ∈ recs, k.j = e.on ∧ k.pre.testBit x = true)
  bound : ∀ r ∈ recs, ∀ e ∈ r.o.after.toList, Region.binds .any e = true → r.pre.testBit e.on = true
  dsts : ∀ r ∈ recs, ∀ k ∈ recs, ∀ d, r.o.dst = some d → k.o.dst = some d → r.j = k.j
  m0wf : ∀ i, (m0.get i).isSome → i < c0
  wls : ∀ r ∈ recs, ∀ i ∈ r.h'.wl, i ∈ wlE
  wl0 : ∀ i ∈ wl0, i ∈ wlE
  cs : ∀ r ∈ recs, r.h'.c ≤ cE
/-- What stands when those of S have run. -/
structure Inv (P : Program) (ro : Nat) (tl : List Deferred) (nt : Nat) (m0 : Tr AO) (ts0 : TS) (wlE wl0 : List Nat) (dl : List Nat) (recs : List Rec) (κ0 : K) (w0 : World) (S : Nat → Bool) (κ : K) (a : Act) (w : World) : Prop where
  hr : HR P κ (memT (ranB S) m0 recs) w
  tr : TR κ (tsT (ranB S) ts0 recs) a.tmps
  nt : a.tmps.size = nt
  dr : DR tl κ dl a.defers
  core : Core ro κ0 κ m0 (memT (ranB S) m0 recs) wl0 wlE w0 w
  dom : ∀ i, κ.dom i → κ0.dom i ∨ ∃ r ∈ recs, S r.j = true ∧ r.lo ≤ i ∧ i < r.h'.c
section
variable {ops : Array Oper} {nt : Nat} {all : List (Nat × Oper × Nat)} {m0 : Tr AO} {ts0 : TS} {c0 cE : Nat} {wl0 wlE : List Nat} {recs : List Rec}
theorem Drawn.apart (D : Drawn P ro X C ev ops nt all m0 ts0 c0 cE wl0 wlE recs) {E post : List Rec} {r : Rec} (hs : recs = E ++ r :: post) : (∀ k ∈ E, k.j ≠ r.j) ∧ ∀ k ∈ post, k.j ≠ r.j := by
  refine ⟨(D.facts E r post hs).1.apart, fun k hk => ?_⟩
  obtain ⟨p1, p2, hp⟩ := List.append_of_mem hk
  have := (D.facts (E ++ r :: p1) k p2 (by rw [hs, hp]; simp)).1.apart r (by simp)
  exact fun q => this q.symm
theorem Drawn.one (D : Drawn P ro X C ev ops nt all m0 ts0 c0 cE wl0 wlE recs) {r k : Rec} (hr : r ∈ recs) (hk : k ∈ recs) (e : k.j = r.j) : k = r := by
  obtain ⟨E, post, hs⟩ := List.append_of_mem hr
  obtain ⟨a, b⟩ := D.apart hs
  rw [hs] at hk
  rcases List.mem_append.1 hk with q | q
  · exact absurd e (a k q)
  · rcases List.mem_cons.1 q with q | q
    · exact q
    · exact absurd e (b k q)
/-- A record's blocks stand below those behind it. -/
theorem Drawn.later (D : Drawn P ro X C ev ops nt all m0 ts0 c0 cE wl0 wlE recs) {E post : List Rec} {r : Rec} (hs : recs = E ++ r :: post) : ∀ k ∈ post, r.h'.c ≤ k.lo := by
  intro k hk
  obtain ⟨p1, p2, hp⟩ := List.append_of_mem hk
  exact (D.facts (E ++ r :: p1) k p2 (by rw [hs, hp]; simp)).1.above r (by simp)
theorem Drawn.up (D : Drawn P ro X C ev ops nt all m0 ts0 c0 cE wl0 wlE recs) (hF : Fit P) (hX : XOk P ro X) (hE : EvOk P ro ev) (hC : COk P ro C) {E post : List Rec} {r : Rec} (hs : recs = E ++ r :: post) : r.lo ≤ r.h'.c :=
  (oper_ok hF hX hE hC (D.facts E r post hs).1.run).1.1
/-- The memory that an operation was run over stands in the memory that is there. -/
theorem Drawn.sub (D : Drawn P ro X C ev ops nt all m0 ts0 c0 cE wl0 wlE recs) (hF : Fit P) (hX : XOk P ro X) (hE : EvOk P ro ev) (hC : COk P ro C) {E post : List Rec} {r : Rec} (hs : recs = E ++ r :: post) {S : Nat → Bool}
    (hS : ∀ k ∈ recs, S k.j = true → ∀ x, k.pre.testBit x = true → S x = true) (hr : S r.j = false) (hp : ∀ x, r.pre.testBit x = true → S x = true) :
    (∀ i o, (cond (pureOp r.o.op) .leaf (hide r.pre (memT (fun _ => true) m0 E) (segsOf E.reverse)) : Tr AO).get i = some o → (memT (ranB S) m0 recs).get i = some o ∧ i < r.lo) ∧
    (∀ t v, (hideT r.j r.pre (tsT (fun _ => true) ts0 E) all).get t = some v → (tsT (ranB S) ts0 recs).get t = some v) ∧
    (∀ k ∈ post, S k.j = true → ∀ i, r.touch i → ¬k.touch i) := by
  obtain ⟨F, hc0⟩ := D.facts E r post hs
  have hrm : r ∈ recs := by rw [hs]; simp
  have hpostS : ∀ k ∈ post, S k.j = true → k.pre.testBit r.j = false := fun k hk hSk => by
    cases hb : k.pre.testBit r.j with
    | false => rfl
    | true => have := hS k (by rw [hs]; simp [hk]) hSk r.j hb; rw [hr] at this; cases this
  -- those behind it that have run wrote nothing that was there, unless it is pure
  have hpostW : pureOp r.o.op = false → ∀ k ∈ post, S k.j = true → k.h'.wl = [] := fun hpo k hk hSk => by
    obtain ⟨p1, p2, hpp⟩ := List.append_of_mem hk
    obtain ⟨Fk, _⟩ := D.facts (E ++ r :: p1) k p2 (by rw [hs, hpp]; simp)
    cases hpk : pureOp k.o.op with
    | true => exact (Fk.still hpk).1
    | false =>
      rcases Fk.writes hpk with q | q
      · exact q
      · exfalso
        rcases q r (by simp) with q | q
        · rw [hpostS k hk hSk] at q; cases q
        · obtain ⟨n, o, h1, h2, h3⟩ := pureMask_bit _ _ _ q
          have h4 := D.is r hrm
          rw [← Array.getElem?_toList] at h4
          rw [Nat.zero_add] at h1
          rw [h1, h2] at h4
          cases h4
          rw [hpo] at h3; cases h3
  refine ⟨fun i o hi => ?_, fun t v hv => ?_, fun k hk hSk i hti htk => ?_⟩
  · cases hpo : pureOp r.o.op with
    | true => rw [hpo] at hi; simp [Tr.get] at hi
    | false =>
      rw [hpo, cond_false] at hi
      obtain ⟨h1, h2⟩ := hide_get _ _ _ _ _ hi
      have hlt : i < r.lo := by
        refine memT_true E m0 r.lo (fun i hi => by have := D.m0wf i hi; omega) (fun k hk i hi => ?_) i (by rw [h1]; rfl)
        obtain ⟨p1, p2, hpp⟩ := List.append_of_mem hk
        have hwf := (D.facts p1 k (p2 ++ r :: post) (by rw [hs, hpp]; simp)).1.wf
        have := hwf.1 i hi
        have := F.above k hk
        omega
      refine ⟨?_, hlt⟩
      rw [← h1, hs, memT_append]
      simp only [memT]
      have hfr : ranB S r = false := hr
      rw [hfr, cond_false]
      rw [memT_none post _ fun k hk htk => ?_]
      · refine memT_congr E _ _ (fun k hk htk => ?_) rfl
        show S k.j = true
        cases hb : r.pre.testBit k.j with
        | true => exact hp _ hb
        | false =>
          exfalso
          refine h2 ⟨k.j, k.h'.wl, k.lo, k.h'.c⟩ ?_ hb htk
          unfold segsOf
          exact List.mem_map.2 ⟨k, by simpa using hk, rfl⟩
      · cases hSk : S k.j with
        | false => exact hSk
        | true =>
          exfalso
          rcases htk with q | q
          · rw [hpostW hpo k hk hSk] at q; simp at q
          · have := D.later hs k hk
            have := D.up hF hX hE hC hs
            omega
  · obtain ⟨h1, h2⟩ := hideT_get _ _ _ _ _ _ hv
    rw [← h1, hs, tsT_append]
    simp only [tsT]
    have hfr : ranB S r = false := hr
    rw [hfr, cond_false]
    rw [tsT_none post _ fun k hk hdk => ?_]
    · refine tsT_congr E _ _ (fun k hk hdk => ?_) rfl
      show S k.j = true
      have hkm : k ∈ recs := by rw [hs]; simp [hk]
      rcases h2 _ (D.all_mem k hkm) hdk with q | q | q
      · exact hp _ q
      · exfalso
        obtain ⟨p1, p2, hpp⟩ := List.append_of_mem hk
        obtain ⟨x, hx, hxj⟩ := (D.facts p1 k (p2 ++ r :: post) (by rw [hs, hpp]; simp)).1.ahead _ q
        exact F.apart x (by rw [hpp]; simp [hx]) hxj
      · exact absurd q (F.apart k hk)
    · have hkm : k ∈ recs := by rw [hs]; simp [hk]
      rcases h2 _ (D.all_mem k hkm) hdk with q | q | q
      · exfalso
        obtain ⟨x, hx, hxj⟩ := F.ahead _ q
        have := D.one hkm (by rw [hs]; simp [hx]) hxj
        subst this
        obtain ⟨p1, p2, hpp⟩ := List.append_of_mem hk
        exact (D.facts (E ++ r :: p1) x p2 (by rw [hs, hpp]; simp)).1.apart x (by simp [hx]) rfl
      · cases hSk : S k.j with
        | false => exact hSk
        | true => rw [hpostS k hk hSk] at q; cases q
      · exact absurd q ((D.apart hs).2 k hk)
  · cases hpo : pureOp r.o.op with
    | true =>
      obtain ⟨q1, q2⟩ := F.still hpo
      rcases hti with q | q
      · rw [q1] at q; simp at q
      · omega
    | false =>
      have hlt : i < r.h'.c := by
        rcases hti with q | q
        · exact F.wf.2 i q
        · exact q.2
      rcases htk with q | q
      · rw [hpostW hpo k hk hSk] at q; simp at q
      · have := D.later hs k hk
        omega
end
end
end Ex
end
section
namespace Ex
section
variable {P : Program} {ro : Nat} {X C : Hook} {ev : Option Nat → Nat → Code → St → Option (Ex × St)}
variable {tl : List Deferred} {ops : Array Oper} {nt : Nat} {all : List (Nat × Oper × Nat)} {m0 : Tr AO} {ts0 : TS} {c0 cE : Nat} {wl0 wlE dl : List Nat} {recs : List Rec}
def addS (S : Nat → Bool) (j : Nat) (x : Nat) : Bool := S x || decide (x = j)
theorem draw_step (D : Drawn P ro X C ev ops nt all m0 ts0 c0 cE wl0 wlE recs) (hF : Fit P) (hX : XOk P ro X) (hE : EvOk P ro ev) (hC : COk P ro C) {r : Rec} (hrm : r ∈ recs) {S : Nat → Bool}
    (hS : ∀ k ∈ recs, S k.j = true → ∀ x, k.pre.testBit x = true → S x = true) (hr : S r.j = false) (hp : ∀ x, r.pre.testBit x = true → S x = true) {κ0 κ : K} {a : Act} {w0 w : World}
    (I : Inv P ro tl nt m0 ts0 wlE wl0 dl recs κ0 w0 S κ a w) (hfree : Free κ0 c0 cE) {rr : Option Nat} {Q : Exit → Act → World → Prop} {m : Nat} {next : Act → World → Prop}
    (k : ∀ κ' v' w', Inv P ro tl nt m0 ts0 wlE wl0 dl recs κ0 w0 (addS S r.j) κ' (a.put r.o.dst v') w' → next (a.put r.o.dst v') w') : wpOpIn (FW rr) m P ops Q r.j next a w := by
  obtain ⟨E, post, hs⟩ := List.append_of_mem hrm
  obtain ⟨F, hc0⟩ := D.facts E r post hs
  obtain ⟨sub1, sub2, sub3⟩ := D.sub hF hX hE hC hs hS hr hp
  have hup := D.up hF hX hE hC hs
  obtain ⟨hap1, hap2⟩ := D.apart hs
  obtain ⟨_, hop⟩ := oper_ok hF hX hE hC F.run
  generalize hmr : (cond (pureOp r.o.op) .leaf (hide r.pre (memT (fun _ => true) m0 E) (segsOf E.reverse)) : Tr AO) = mr at hop sub1
  have hfr : Free κ r.lo r.h'.c := fun i h1 h2 hd => by
    rcases I.dom i hd with q | ⟨x, hx, hSx, q1, q2⟩
    · exact hfree i (by omega) (by have := D.cs r hrm; omega) q
    · rw [hs] at hx
      rcases List.mem_append.1 hx with q | q
      · have := F.above x q; omega
      · rcases List.mem_cons.1 q with rfl | q
        · rw [hr] at hSx; cases hSx
        · have := D.later hs x q; omega
  refine hop κ rr a w next Q m r.j (D.is r hrm) ⟨fun i hi => ?_, fun i hi => by simp at hi⟩ (I.hr.sub fun i o h => (sub1 i o h).1) (fun t v hv => I.tr t v (sub2 t v hv)) hfr fun v' w' hc => ?_
  · obtain ⟨o, ho⟩ := Option.isSome_iff_exists.1 hi
    exact (sub1 i o ho).2
  obtain ⟨κ', H', G, V⟩ := hc
  have hS' : ∀ x, x ∈ recs → x ≠ r → ranB (addS S r.j) x = ranB S x := fun x hx hne => by
    unfold ranB addS
    have : x.j ≠ r.j := fun q => hne (D.one hrm hx q)
    simp [this]
  have hSr : ranB (addS S r.j) r = true := by unfold ranB addS; simp
  have gt : ∀ i, r.touch i → (memT (ranB (addS S r.j)) m0 recs).get i = r.h'.m.get i := fun i ht => by
    rw [hs, memT_append]
    simp only [memT]
    rw [hSr, cond_true, memT_none post _ fun x hx htx => ?_]
    · exact over_t ht _
    · rw [hS' x (by rw [hs]; simp [hx]) (fun q => hap2 x hx (by rw [q]))]
      cases hSx : S x.j with
      | false => exact hSx
      | true => exact absurd htx (sub3 x hx hSx i ht)
  have gn : ∀ i, ¬r.touch i → (memT (ranB (addS S r.j)) m0 recs).get i = (memT (ranB S) m0 recs).get i := fun i ht => by
    refine memT_congr recs _ _ (fun x hx htx => ?_) rfl
    exact hS' x hx fun q => ht (q ▸ htx)
  -- what lay in the operation's memory and was not touched lies there as it did
  have keep : ∀ i o, mr.get i = some o → ¬r.touch i → r.h'.m.get i = some o := fun i o h ht => by
    have hd := (I.hr.obj i o (sub1 i o h).1).1
    rw [G.same i hd fun q => ht (.inl q)]; exact h
  have dom_touch : ∀ i, κ.dom i → r.touch i → i ∈ r.h'.wl := fun i hd ht => by
    rcases ht with q | q
    · exact q
    · exact absurd hd (hfr i q.1 q.2)
  have hlt : ∀ i o, (memT (ranB S) m0 recs).get i = some o → κ.p i < w.heap.size := fun i o h => by
    obtain ⟨_, o1, h1, _⟩ := I.hr.obj i o h
    exact (Array.getElem?_eq_some_iff.1 h1).1
  have inj' : ∀ a b, ((memT (ranB (addS S r.j)) m0 recs).get a).isSome → ((memT (ranB (addS S r.j)) m0 recs).get b).isSome → r.touch a → ¬r.touch b → κ'.p a = κ'.p b → a = b := by
    intro a b ha hb hta htb e
    rw [gt a hta] at ha
    rw [gn b htb] at hb
    obtain ⟨y, hy⟩ := Option.isSome_iff_exists.1 hb
    have hdb := (I.hr.obj b y hy).1
    cases hm : mr.get b with
    | some z => exact H'.inj a b ha (by rw [keep b z hm htb]; rfl) e
    | none =>
      rw [G.ext.p b hdb] at e
      rcases G.fresh a ha with q | q | ⟨x, hx, hdx, hsx, hzx, ex⟩
      · have h1 := G.old a q ha
        obtain ⟨z, hz⟩ := Option.isSome_iff_exists.1 h1
        rw [G.ext.p a q] at e
        exact I.hr.inj a b (by rw [(sub1 a z hz).1]; rfl) (by rw [hy]; rfl) e
      · have := hlt b y hy; omega
      · obtain ⟨z, hz⟩ := Option.isSome_iff_exists.1 hsx
        have : x = b := I.hr.inj x b (by rw [(sub1 x z hz).1]; rfl) (by rw [hy]; rfl) (by rw [← ex, e])
        subst this
        simp only at hz
        rw [hm] at hz; cases hz
  have HR' : HR P κ' (memT (ranB (addS S r.j)) m0 recs) w' := by
    refine ⟨fun i o hi => ?_, fun a b ha hb e => ?_, H'.glob⟩
    · by_cases ht : r.touch i
      · rw [gt i ht] at hi; exact H'.obj i o hi
      · rw [gn i ht] at hi
        obtain ⟨hd, o1, h1, h2⟩ := I.hr.obj i o hi
        cases hm : mr.get i with
        | some z =>
          have := (sub1 i z hm).1
          rw [hi] at this; cases this
          exact H'.obj i o (keep i o hm ht)
        | none =>
          refine ⟨G.ext.dom i hd, o1, ?_, h2.ext G.ext hd⟩
          rw [G.ext.p i hd, G.frame (κ.p i) (hlt i o hi) fun x hx hsx q => ?_]
          · exact h1
          · obtain ⟨z, hz⟩ := Option.isSome_iff_exists.1 hsx
            have : x = i := I.hr.inj x i (by rw [(sub1 x z hz).1]; rfl) (by rw [hi]; rfl) q
            subst this
            simp only at hz
            rw [hm] at hz; cases hz
    · by_cases hta : r.touch a <;> by_cases htb : r.touch b
      · rw [gt a hta] at ha; rw [gt b htb] at hb; exact H'.inj a b ha hb e
      · exact inj' a b ha hb hta htb e
      · exact (inj' b a hb ha htb hta e.symm).symm
      · rw [gn a hta] at ha; rw [gn b htb] at hb
        obtain ⟨x, hx⟩ := Option.isSome_iff_exists.1 ha
        obtain ⟨y, hy⟩ := Option.isSome_iff_exists.1 hb
        rw [G.ext.p a (I.hr.obj a x hx).1, G.ext.p b (I.hr.obj b y hy).1] at e
        exact I.hr.inj a b ha hb e
  have core : Core ro κ κ' (memT (ranB S) m0 recs) (memT (ranB (addS S r.j)) m0 recs) wlE wlE w w' := by
    refine ⟨G.ext, G.size, G.os, G.tape, G.output, fun b hb hn => ?_, fun i hi => ?_, fun i hd hi => ?_, fun i hd hn => ?_, fun _ h => h⟩
    · refine G.frame b hb fun i hro hsi => ?_
      obtain ⟨z, hz⟩ := Option.isSome_iff_exists.1 hsi
      exact hn i hro (by rw [(sub1 i z hz).1]; rfl)
    · by_cases ht : r.touch i
      · rw [gt i ht] at hi
        rcases G.fresh i hi with q | q | ⟨x, hx, hdx, hsx, hzx, ex⟩
        · exact .inl q
        · exact .inr (.inl q)
        · obtain ⟨z, hz⟩ := Option.isSome_iff_exists.1 hsx
          refine .inr (.inr ⟨x, hx, hdx, by rw [(sub1 x z hz).1]; rfl, ?_, ex⟩)
          have htx : r.touch x := by
            by_cases q : r.touch x
            · exact q
            · rw [keep x z hz q] at hzx; cases hzx
          rw [gt x htx]; exact hzx
      · rw [gn i ht] at hi
        obtain ⟨x, hx⟩ := Option.isSome_iff_exists.1 hi
        exact .inl (I.hr.obj i x hx).1
    · by_cases ht : r.touch i
      · rw [gt i ht] at hi
        have h1 := G.old i hd hi
        obtain ⟨z, hz⟩ := Option.isSome_iff_exists.1 h1
        rw [(sub1 i z hz).1]; rfl
      · rw [gn i ht] at hi; exact hi
    · refine gn i fun ht => hn (D.wls r hrm i (dom_touch i hd ht))
  refine k κ' v' w' ⟨HR', ?_, ?_, ?_, I.core.trans core, fun i hi => ?_⟩
  · intro t v hv
    by_cases ht : r.o.dst = some t
    · have hval : (tsT (ranB (addS S r.j)) ts0 recs).get t = some r.v := by
        rw [hs, tsT_append]
        simp only [tsT]
        rw [hSr, cond_true, tsT_none post _ fun x hx hdx => ?_]
        · rw [putO_get, if_pos ht]
        · exfalso
          exact hap2 x hx (D.dsts x (by rw [hs]; simp [hx]) r hrm t hdx ht)
      rw [hval] at hv; cases hv
      have hlt2 : t < a.tmps.size := by rw [I.nt]; exact F.dst t ht
      simp [Act.put, ht, Array.getD, hlt2, V]
    · have hval : (tsT (ranB (addS S r.j)) ts0 recs).get t = (tsT (ranB S) ts0 recs).get t := by
        refine tsT_congr recs _ _ (fun x hx hdx => ?_) rfl
        exact hS' x hx fun q => ht (q ▸ hdx)
      rw [hval] at hv
      have e2 : (a.put r.o.dst v').tmps.getD t undef = a.tmps.getD t undef := by
        cases hd : r.o.dst with
        | none => rfl
        | some d =>
          have hne : d ≠ t := fun q => ht (by rw [hd, q])
          simp only [Act.put, Array.getD_eq_getD_getElem?]
          rw [Array.getElem?_setIfInBounds_ne hne]
      rw [e2]; exact (I.tr t v hv).ext G.ext
  · cases hd : r.o.dst with
    | none => exact I.nt
    | some d => simp [Act.put, I.nt]
  · have : (a.put r.o.dst v').defers = a.defers := by cases r.o.dst <;> rfl
    rw [this]; exact I.dr.ext G.ext
  · rcases G.new i hi with q | q
    · rcases I.dom i q with q | ⟨x, hx, hSx, q⟩
      · exact .inl q
      · exact .inr ⟨x, hx, by unfold addS; rw [hSx]; rfl, q⟩
    · exact .inr ⟨r, hrm, by unfold addS; simp, q⟩
end
end Ex
end
section
namespace Ex
section
variable {P : Program} {ro : Nat} {X C : Hook} {ev : Option Nat → Nat → Code → St → Option (Ex × St)}
theorem count_step (S : Nat → Bool) (i : Nat) (hi : S i = false) : ∀ l : List Nat, l.Nodup → l.countP (addS S i) = l.countP S + (if i ∈ l then 1 else 0)
  | [], _ => rfl
  | x :: xs, hn => by
    have hnx := List.nodup_cons.1 hn
    have ih := count_step S i hi xs hnx.2
    rw [List.countP_cons, List.countP_cons, ih]
    by_cases hx : x = i
    · subst hx
      have h1 : addS S x x = true := by simp [addS]
      rw [if_neg hnx.1]
      simp [h1, hi]
    · have h1 : addS S i x = S x := by simp [addS, hx]
      rw [h1]
      by_cases hm : i ∈ xs
      · simp [hm]; omega
      · simp [hm, Ne.symm hx]
theorem first_not {S : Nat → Bool} : ∀ (recs : List Rec), (∃ r ∈ recs, S r.j = false) → ∃ E r post, recs = E ++ r :: post ∧ (∀ k ∈ E, S k.j = true) ∧ S r.j = false
  | [], h => by obtain ⟨r, hr, _⟩ := h; simp at hr
  | x :: xs, h => by
    cases hx : S x.j with
    | false => exact ⟨[], x, xs, rfl, fun k hk => by simp at hk, hx⟩
    | true =>
      obtain ⟨E, r, post, h1, h2, h3⟩ := first_not xs (by
        obtain ⟨r, hr, hs⟩ := h
        rcases List.mem_cons.1 hr with rfl | hr
        · rw [hx] at hs; cases hs
        · exact ⟨r, hr, hs⟩)
      exact ⟨x :: E, r, post, by rw [h1]; rfl, fun k hk => by
        rcases List.mem_cons.1 hk with rfl | hk
        · exact hx
        · exact h2 k hk, h3⟩
theorem memT_all {p q : Rec → Bool} : ∀ (rs : List Rec) (m : Tr AO), (∀ r ∈ rs, p r = q r) → memT p m rs = memT q m rs
  | [], _, _ => rfl
  | r :: rs, m, h => by simp only [memT]; rw [h r List.mem_cons_self]; exact memT_all rs _ fun x hx => h x (List.mem_cons_of_mem _ hx)
theorem tsT_all {p q : Rec → Bool} : ∀ (rs : List Rec) (m : TS), (∀ r ∈ rs, p r = q r) → tsT p m rs = tsT q m rs
  | [], _, _ => rfl
  | r :: rs, m, h => by simp only [tsT]; rw [h r List.mem_cons_self]; exact tsT_all rs _ fun x hx => h x (List.mem_cons_of_mem _ hx)
variable {tl : List Deferred} {ops : Array Oper} {nt : Nat} {all : List (Nat × Oper × Nat)} {m0 : Tr AO} {ts0 : TS} {c0 cE : Nat} {wl0 wlE dl : List Nat} {recs : List Rec}
def listS (listed : Array Bool) (i : Nat) : Bool := listed.getD i false
theorem ready_mem {listed : Array Bool} {i : Nat} (hsz : listed.size = ops.size) : i ∈ Region.ready .any ops listed ↔ ∃ o, ops[i]? = some o ∧ listS listed i = false ∧ ∀ e ∈ o.after.toList, Region.binds .any e = true → listS listed e.on = true := by
  unfold Region.ready
  rw [List.mem_filter, List.mem_range]
  constructor
  · rintro ⟨hi, h⟩
    simp only [Bool.and_eq_true, Bool.not_eq_true', Array.getElem?_eq_getElem hi, Option.map_some, Option.getD_some] at h
    refine ⟨ops[i], Array.getElem?_eq_getElem hi, ?_, fun e he hb => ?_⟩
    · have : i < listed.size := by omega
      have h1 := h.1
      simp only [listS, Array.getD, this, dif_pos] at h1 ⊢
      exact h1
    · have h2 := h.2
      rw [← Array.all_toList, List.all_eq_true] at h2
      have := h2 e he
      rw [hb] at this
      simp only [Bool.not_true, Bool.false_or] at this
      exact this
  · rintro ⟨o, ho, h1, h2⟩
    have hi : i < ops.size := (Array.getElem?_eq_some_iff.1 ho).1
    refine ⟨hi, ?_⟩
    have : i < listed.size := by omega
    rw [ho]
    simp only [Bool.and_eq_true, Bool.not_eq_true', Option.map_some, Option.getD_some]
    refine ⟨?_, ?_⟩
    · simp only [listS, Array.getD, this, dif_pos] at h1 ⊢
      exact h1
    · rw [← Array.all_toList, List.all_eq_true]
      intro e he
      cases hb : Region.binds .any e with
      | false => rfl
      | true => simp only [Bool.not_true, Bool.false_or]; exact h2 e he hb
theorem listS_set {listed : Array Bool} {i : Nat} (hi : i < listed.size) : listS (listed.setIfInBounds i true) = addS (listS listed) i := by
  funext x
  unfold listS addS
  simp only [Array.getD_eq_getD_getElem?]
  by_cases h : x = i
  · subst h; simp [hi]
  · rw [Array.getElem?_setIfInBounds_ne (Ne.symm h)]; simp [h]
theorem draw_all (D : Drawn P ro X C ev ops nt all m0 ts0 c0 cE wl0 wlE recs) (hF : Fit P) (hX : XOk P ro X) (hE : EvOk P ro ev) (hC : COk P ro C) {κ0 : K} {w0 : World} (hfree : Free κ0 c0 cE) {rr : Option Nat} {Q : Exit → Act → World → Prop} {m : Nat}
    (fin : ∀ κ a w, Inv P ro tl nt m0 ts0 wlE wl0 dl recs κ0 w0 (fun _ => true) κ a w → Q .normal a w) :
    ∀ (fuel : Nat) (listed : Array Bool) κ a w, listed.size = ops.size → ops.size ≤ (List.range ops.size).countP (listS listed) + fuel → (∀ k ∈ recs, listS listed k.j = true → ∀ x, k.pre.testBit x = true → listS listed x = true) →
      Inv P ro tl nt m0 ts0 wlE wl0 dl recs κ0 w0 (listS listed) κ a w → wpAnyIn (FW rr) m P .any ops Q fuel listed a w := by
  have done : ∀ listed κ a w, (∀ r ∈ recs, listS listed r.j = true) → Inv P ro tl nt m0 ts0 wlE wl0 dl recs κ0 w0 (listS listed) κ a w → Q .normal a w := by
    intro listed κ a w hall I
    refine fin κ a w ?_
    have h1 : ∀ r ∈ recs, ranB (listS listed) r = ranB (fun _ => true) r := fun r hr => hall r hr
    refine ⟨?_, ?_, I.nt, I.dr, ?_, fun i hi => ?_⟩
    · rw [← memT_all recs m0 h1]; exact I.hr
    · rw [← tsT_all recs ts0 h1]; exact I.tr
    · rw [← memT_all recs m0 h1]; exact I.core
    · rcases I.dom i hi with q | ⟨r, hr, _, q⟩
      · exact .inl q
      · exact .inr ⟨r, hr, rfl, q⟩
  have none_ready : ∀ listed : Array Bool, listed.size = ops.size → Region.ready .any ops listed = [] → ∀ r ∈ recs, listS listed r.j = true := by
    intro listed hsz hnil r hr
    cases hS : listS listed r.j with
    | true => rfl
    | false =>
      exfalso
      obtain ⟨E, x, post, hs, h2, h3⟩ := first_not recs ⟨r, hr, hS⟩
      have hx : x ∈ recs := by rw [hs]; simp
      have : x.j ∈ Region.ready .any ops listed := by
        rw [ready_mem hsz]
        refine ⟨x.o, D.is x hx, h3, fun e he hb => ?_⟩
        obtain ⟨k, hk, hkj⟩ := (D.facts E x post hs).1.ahead e.on (D.bound x hx e he hb)
        rw [← hkj]; exact h2 k hk
      rw [hnil] at this; simp at this
  intro fuel
  induction fuel with
  | zero =>
    intro listed κ a w hsz hcnt hcl I
    have hall : ∀ r ∈ recs, listS listed r.j = true := fun r hr => by
      have h1 := List.countP_le_length (p := listS listed) (l := List.range ops.size)
      rw [List.length_range] at h1
      have h2 : (List.range ops.size).countP (listS listed) = (List.range ops.size).length := by rw [List.length_range]; omega
      rw [List.countP_eq_length] at h2
      have hlt : r.j < ops.size := (Array.getElem?_eq_some_iff.1 (D.is r hr)).1
      exact h2 r.j (List.mem_range.2 hlt)
    refine ⟨?_, done listed κ a w hall I⟩
    cases hq : Region.ready .any ops listed with
    | nil => rfl
    | cons i is =>
      exfalso
      have : i ∈ Region.ready .any ops listed := by rw [hq]; simp
      rw [ready_mem hsz] at this
      obtain ⟨o, ho, hS, _⟩ := this
      obtain ⟨r, hr, hj⟩ := D.every i o ho
      rw [← hj, hall r hr] at hS; cases hS
  | succ fuel ih =>
    intro listed κ a w hsz hcnt hcl I
    refine ⟨fun hnil => done listed κ a w (none_ready listed hsz hnil) I, fun i hi => ?_⟩
    rw [ready_mem hsz] at hi
    obtain ⟨o, ho, hS, hedge⟩ := hi
    obtain ⟨r, hr, hj⟩ := D.every i o ho
    have hro := D.is r hr
    rw [hj] at hro
    rw [ho] at hro
    cases hro
    have hlt : i < listed.size := by rw [hsz]; exact (Array.getElem?_eq_some_iff.1 ho).1
    have hpre : ∀ x, r.pre.testBit x = true → listS listed x = true := fun x hx => by
      obtain ⟨e, he, hb, q⟩ := D.edges r hr x hx
      have hon := hedge e he hb
      rcases q with rfl | ⟨k, hk, hkj, hkx⟩
      · exact hon
      · exact hcl k hk (by rw [hkj]; exact hon) x hkx
    rw [← hj]
    refine draw_step D hF hX hE hC hr hcl (by rw [hj]; exact hS) hpre I hfree fun κ' v' w' I' => ?_
    rw [hj] at I' ⊢
    rw [← listS_set hlt] at I'
    refine ih _ κ' _ w' (by simp [hsz]) ?_ (fun k hk hSk x hx => ?_) I'
    · rw [listS_set hlt, count_step _ i hS _ List.nodup_range, if_pos (List.mem_range.2 (by omega))]
      omega
    · rw [listS_set hlt] at hSk ⊢
      unfold addS at hSk ⊢
      rw [Bool.or_eq_true] at hSk ⊢
      rcases hSk with q | q
      · exact .inl (hcl k hk q x hx)
      · have hki : k.j = i := by simpa using q
        have : k = r := D.one hr hk (by rw [hki, hj])
        subst this
        exact .inl (hpre x hx)
theorem draw_c (hF : Fit P) (hX : XOk P ro X) (hE : EvOk P ro ev) (hC : COk P ro C) {aops : Array Oper} {nt : Nat} {all : List (Nat × Oper × Nat)} {pm : Nat} :
    ∀ (L : List (Nat × Oper × Nat)) (done : Nat) (segs : List Seg) (st st' : St), adraw P ro X ev C aops.toList nt all pm L done segs st = some st' → st.h.c ≤ st'.h.c
  | [], done, segs, st, st', e => by simp only [adraw, Option.some.injEq] at e; subst e; exact Nat.le_refl _
  | (j, o, pre) :: os, done, segs, st, st', e => by
    unfold adraw at e
    cases h1 : (within pre done && !Nat.testBit done j) with
    | false => rw [h1] at e; cases e
    | true =>
      rw [h1, cond_true] at e
      split at e
      · rename_i v h' hop
        split at e
        · cases h2 : (cond (pureOp o.op) (isNil h'.wl && Nat.beq h'.c st.h.c) (isNil h'.wl || within done (Nat.lor pre pm))) with
          | false => rw [h2] at e; cases e
          | true =>
            rw [h2, cond_true] at e
            have h3 := (oper_ok hF hX hE hC hop).1.1
            have h4 := draw_c hF hX hE hC os _ _ _ st' e
            exact Nat.le_trans h3 h4
        · cases e
      · cases e
theorem memT_zero {p : Rec → Bool} : ∀ (rs : List Rec) (m : Tr AO), (∀ r ∈ rs, p r = false) → memT p m rs = m
  | [], _, _ => rfl
  | r :: rs, m, h => by simp only [memT]; rw [h r List.mem_cons_self, cond_false]; exact memT_zero rs m fun x hx => h x (List.mem_cons_of_mem _ hx)
theorem tsT_zero {p : Rec → Bool} : ∀ (rs : List Rec) (m : TS), (∀ r ∈ rs, p r = false) → tsT p m rs = m
  | [], _, _ => rfl
  | r :: rs, m, h => by simp only [tsT]; rw [h r List.mem_cons_self, cond_false]; exact tsT_zero rs m fun x hx => h x (List.mem_cons_of_mem _ hx)
/-- A ROW OF OPERATIONS WHOSE ORDER IS DRAWN. -/
theorem draw_ok (hF : Fit P) (hX : XOk P ro X) (hE : EvOk P ro ev) (hC : COk P ro C) {st st' : St} (e : aregion P ro X ev C ops.toList nt true st = some st') : Up st.h st'.h ∧
    ∀ tl κ rr (a : Act) w (Q : Exit → Act → World → Prop) m id, WF st.h → HR P κ st.h.m w → TR κ st.ts a.tmps → a.tmps.size = nt → DR tl κ st.dl a.defers → Free κ st.h.c st'.h.c →
      (∀ κ' (a' : Act) w', HR P κ' st'.h.m w' → Gone ro κ κ' st.h st'.h w w' → TR κ' st'.ts a'.tmps → a'.tmps.size = nt → DR tl κ' st'.dl a'.defers → Q .normal a' w') → (Code.region id ops true).wpIn (FW rr) m P Q a w := by
  unfold aregion at e
  simp only [if_true] at e
  split at e
  · rename_i pres hpres
    split at e
    · rename_i hnd
      have hcc := draw_c hF hX hE hC _ _ _ _ _ e
      have facts := fun W : WF st.h => draw_facts hF hX hE hC (ops := ops.toList) (aops := ops) rfl W.1 _ 0 [] st st' e W rfl rfl (fun x => by simp) (fun k hk => by simp at hk) (Nat.le_refl _) (fun k hk => by simp at hk)
      refine ⟨⟨hcc, fun W => ?_⟩, fun tl κ rr a w Q m id W H T hn D hf kk => ?_⟩
      · obtain ⟨recs, _, _, _, _, _, _, _, _, g9⟩ := facts W
        exact g9.2 W
      obtain ⟨recs, g1, g2, g3, g4, g5, g6, g7, g8, g9⟩ := facts W
      obtain ⟨_, hplen, hpi⟩ := presOf_spec hpres
      have hmem : ∀ r ∈ recs, ops[r.j]? = some r.o ∧ pres[r.j]? = some r.pre := fun r hr => by
        have h1 : (r.j, r.o, r.pre) ∈ recs.map (fun r => (r.j, r.o, r.pre)) := List.mem_map.2 ⟨r, hr, rfl⟩
        rw [g1, sched_mem, zip3_mem] at h1
        obtain ⟨n, h2, h3, h4⟩ := h1
        simp only [Nat.zero_add] at h2 h3 h4
        subst h2
        rw [Array.getElem?_toList] at h3
        exact ⟨h3, h4⟩
      have hev : ∀ (i : Nat) o, ops[i]? = some o → ∃ r ∈ recs, r.j = i := fun i o ho => by
        rw [← Array.getElem?_toList] at ho
        obtain ⟨q, h1, h2⟩ := hpi i o ho
        simp only [List.length_nil, Nat.zero_add] at h1 h2
        have : (i, o, q) ∈ recs.map (fun r => (r.j, r.o, r.pre)) := by
          rw [g1, sched_mem, zip3_mem]
          exact ⟨i, by simp, ho, h1⟩
        obtain ⟨r, hr, he⟩ := List.mem_map.1 this
        simp only [Prod.mk.injEq] at he
        exact ⟨r, hr, he.1⟩
      have hspec : ∀ r ∈ recs, preOf (pres.take r.j) r.o.after.toList = some r.pre := fun r hr => by
        obtain ⟨h1, h2⟩ := hmem r hr
        rw [← Array.getElem?_toList] at h1
        obtain ⟨q, h3, h4⟩ := hpi r.j r.o h1
        simp only [List.length_nil, Nat.zero_add] at h3 h4
        rw [h2] at h3; cases h3
        exact h4
      have DD : Drawn P ro X C ev ops nt (sched ops.toList.length 0 (zip3 0 ops.toList pres)) st.h.m st.ts st.h.c st'.h.c st.h.wl st'.h.wl recs := by
        refine ⟨fun E r post hs => by simpa using g2 E r post hs, fun r hr => (hmem r hr).1, hev, fun r hr => ?_, fun r hr x hx => ?_, fun r hr e he hb => (preOf_spec (hspec r hr)).2 e he hb, fun r hr k hk d hd hd' => ?_, W.1, g7, g6, fun r hr => (g8 r hr).1⟩
        · rw [← g1]; exact List.mem_map.2 ⟨r, hr, rfl⟩
        · obtain ⟨e, he, hb, p, hp, q⟩ := (preOf_spec (hspec r hr)).1 x hx
          refine ⟨e, he, hb, ?_⟩
          rcases q with q | q
          · exact .inl q
          · rw [List.getElem?_take] at hp
            split at hp
            · have hlt := (List.getElem?_eq_some_iff.1 hp).1
              simp only [List.length_nil, Nat.zero_add] at hplen
              rw [hplen] at hlt
              have hlt' : e.on < ops.size := by simpa using hlt
              obtain ⟨k, hk, hkj⟩ := hev e.on _ (Array.getElem?_eq_getElem hlt')
              have := (hmem k hk).2
              rw [hkj, hp] at this
              exact .inr ⟨k, hk, hkj, by cases this; exact q⟩
            · cases hp
        · have h1 := (hmem r hr).1
          have h2 := (hmem k hk).1
          rw [← Array.getElem?_toList] at h1 h2
          exact dsts_nodup hnd r.j k.j r.o k.o d h1 h2 hd hd'
      refine wpIn_region_any hF.mixed ?_
      have hz : ∀ i, listS (Array.replicate ops.size false) i = false := fun i => by
        unfold listS
        simp only [Array.getD_eq_getD_getElem?, Array.getElem?_replicate]
        split <;> rfl
      refine draw_all DD hF hX hE hC (tl := tl) (dl := st.dl) (κ0 := κ) (w0 := { w with drawn := w.drawn + 1 }) hf ?_ ops.size _ κ a _ (by simp) (by omega) (fun k _ hSk => by rw [hz] at hSk; cases hSk) ?_
      · intro κ' a' w' I
        have e1 : memT (ranB fun _ => true) st.h.m recs = st'.h.m := by rw [g3]; rfl
        have e2 : tsT (ranB fun _ => true) st.ts recs = st'.ts := by rw [g4]; rfl
        refine kk κ' a' w' (by rw [← e1]; exact I.hr) ?_ (by rw [← e2]; exact I.tr) I.nt (by rw [g5]; exact I.dr)
        have c := I.core
        rw [e1] at c
        refine ⟨hcc, c.ext, fun i hi => ?_, c.size, c.os, c.tape, c.output, c.frame, c.fresh, c.old, c.same, c.wle⟩
        rcases I.dom i hi with q | ⟨r, hr, _, q1, q2⟩
        · exact .inl q
        · have := g8 r hr
          exact .inr ⟨by omega, by omega⟩
      · have hzz : ∀ r ∈ recs, ranB (listS (Array.replicate ops.size false)) r = false := fun r _ => hz r.j
        refine ⟨?_, ?_, hn, D, ?_, fun i hi => .inl hi⟩
        · rw [memT_zero recs _ hzz]; exact H.world rfl
        · rw [tsT_zero recs _ hzz]; exact T
        · rw [memT_zero recs _ hzz]
          exact ⟨Ext.refl κ, Nat.le_refl _, rfl, rfl, rfl, fun _ _ _ => rfl, fun i hi => by
            obtain ⟨o, ho⟩ := Option.isSome_iff_exists.1 hi
            exact .inl (H.obj i o ho).1, fun _ _ h => h, fun _ _ _ => rfl, g6⟩
    · cases e
  · cases e
end
end Ex
end
section
namespace Ex
section
variable {P : Program} {ro : Nat} {X C : Hook} {F : Fence} {n : Nat}
/-- A loop, from behind its first step. -/
def LoopWp (F : Fence) (n : Nat) (P : Program) (c : Code) (Q : Exit → Act → World → Prop) (a : Act) (w : World) : Prop :=
  ∀ (b : Frame) (k : List Item) (cs : List Frame), b.roundOf = F.round → F.fn b.fn → F.room (cs.length + 1 + n) →
    ∃ e a' w', Q e a' w' ∧ ArrivesIn (Machine.fenced P F) P (lone (b.atR a (.code c :: .inLoop c :: k)) cs w) b k cs e a' w'
theorem wp_of_loop {c : Code} {Q : Exit → Act → World → Prop} {a : Act} {w : World} (h : LoopWp F n P c Q a w) : (Code.loop c).wpIn F n P Q a w := by
  intro b k cs hro hb hr
  obtain ⟨e, a', w', hq, harr⟩ := h b k cs hro hb hr
  exact ⟨e, a', w', hq, .of_steps (.one (fenced_calm hb hr rfl) stepR_loop) harr⟩
theorem loop_step {c : Code} {Q : Exit → Act → World → Prop} {a : Act} {w : World} (h : c.wpIn F n P (Exit.then (LoopWp F n P c Q) Q) a w) : LoopWp F n P c Q a w := by
  intro b k cs hro hb hr
  obtain ⟨e, a₁, w₁, hq, harr⟩ := h b (.inLoop c :: k) cs hro hb hr
  cases e with
  | normal =>
    obtain ⟨e₂, a₂, w₂, hq₂, harr₂⟩ := hq b k cs hro hb hr
    exact ⟨e₂, a₂, w₂, hq₂, .of_steps (StepsIn.trans harr (.one (fenced_calm hb hr rfl) stepR_inLoop)) harr₂⟩
  | exit id => exact ⟨_, a₁, w₁, hq, .pass (x := .inLoop c) rfl (fun _ _ => .inl (by simp)) harr⟩
  | goto l => exact ⟨_, a₁, w₁, hq, .pass (x := .inLoop c) rfl (fun _ _ => .inl (by simp)) harr⟩
  | ret => exact ⟨_, a₁, w₁, hq, .pass (x := .inLoop c) rfl (fun _ _ => .inl (by simp)) harr⟩
  | panic ch => exact ⟨_, a₁, w₁, hq, .pass (x := .inLoop c) rfl (fun _ _ => .inl (by simp)) harr⟩
  | outgrown => exact ⟨_, a₁, w₁, hq, .pass (x := .inLoop c) rfl (fun _ _ => .inl (by simp)) harr⟩
/-- The same of loops. -/
def LpOk (P : Program) (ro : Nat) (ev : Option Nat → Nat → Code → St → Option (Ex × St)) : Prop := ∀ rnd nt code st e st', ev rnd nt (.loop code) st = some (e, st') →
  ∀ tl κ rr (a : Act) w (Q : Exit → Act → World → Prop) m, WF st.h → HR P κ st.h.m w → TR κ st.ts a.tmps → a.tmps.size = nt → DR tl κ st.dl a.defers → RR κ rnd rr → Free κ st.h.c st'.h.c →
    (∀ κ' (a' : Act) w', HR P κ' st'.h.m w' → Gone ro κ κ' st.h st'.h w w' → TR κ' st'.ts a'.tmps → a'.tmps.size = nt → DR tl κ' st'.dl a'.defers → Q (toExit e) a' w') → LoopWp (FW rr) m P code Q a w
theorem enterLoop_inner {w : World} {l : Nat} {r : Loop} (h : w.heap[l]? = some (.loop r)) (fn : FuncId) (tmps : Array Value) (ps : Array Tmp) (assign body : Code) :
    (Instr.enterLoop fn tmps ps assign body (some l)).run P w = .ok (w.heap.size, []) (w.alloc (.loop { state := .ready, pending := none, fn, tmps, params := ps, assign, body, defers := r.defers })) := by
  unfold Instr.enterLoop
  simp only [Sem.run_bind, run_getLoop h, Result.andThen_ok, Sem.run_pure, run_newObj, World.alloc_eq]
theorem hasBody_inv {g : Nat} (h : hasBody P g = true) : ∃ fn code, P.funcs[g]? = some fn ∧ fn.body = some code := by
  unfold hasBody at h
  split at h
  · rename_i fn hfn
    cases hb : fn.body with
    | none => rw [hb] at h; cases h
    | some c => exact ⟨fn, c, hfn, hb⟩
  · cases h
/-- The statement that ranges over a function, its record laid. -/
theorem range_ok' (hF : Fit P) (hC : COk P ro C) {ev : Option Nat → Nat → Code → St → Option (Ex × St)} (hE : EvOk P ro ev) {nt : Nat} {fo : Operand} {params : Array Tmp} {assign body : Code} {ts : TS} {g : Nat} {first captured : Array Value} {h1 h3 h4 : Hp} {dfr : Nat} {v : Value}
    (hf : evO P ts fo = some (.func (.func g) first captured)) (hb : hasBody P g = true) (hcall : acall P ro ev C g (first.toList ++ [.func (.yield h1.c) #[] #[]] ++ captured.toList) (h1.new (.loop .ready none nt ts params.toList assign body dfr)) = some (v, h3))
    {stt : LoopState} {pe : Option Code} {nt1 : Nat} {tsl : TS} {ps1 : List Tmp} {as1 bd1 : Code} {df1 : Nat} (hob : h3.m.get h1.c = some (.loop stt pe nt1 tsl ps1 as1 bd1 df1)) (hst : stt ≠ .busy)
    (hu : h3.upd ro h1.c (some (.loop .exhausted pe nt1 tsl ps1 as1 bd1 df1)) = some h4) : Up h1 h4 ∧
    ∀ κ rr (a : Act) w (Q : Exit → Act → World → Prop) m mark, WF h1 → HR P κ h1.m w → TR κ ts a.tmps → a.tmps.size = nt → κ.dom dfr → Free κ h1.c h4.c →
      (∀ κ' w', HR P κ' h4.m w' → Gone ro κ κ' h1 h4 w w' → match pe with
        | none => Q .normal { a with defers := mark ++ a.defers } w'
        | some c => c.wpIn (FW rr) m P Q { a with defers := mark ++ a.defers } w') →
      ∀ fn, ∃ (d : Deferred) (f : FuncId) (args : Array Value),
        (resolve a.eval (rangeCall fo w.heap.size) 0).run P (w.alloc (.loop { state := .ready, pending := none, fn, tmps := a.tmps, params, assign, body, defers := κ.p dfr })) = .ok d (w.alloc (.loop { state := .ready, pending := none, fn, tmps := a.tmps, params, assign, body, defers := κ.p dfr })) ∧
        (invoke d.target d.args).run P (w.alloc (.loop { state := .ready, pending := none, fn, tmps := a.tmps, params, assign, body, defers := κ.p dfr })) = .ok (.enter f args) (w.alloc (.loop { state := .ready, pending := none, fn, tmps := a.tmps, params, assign, body, defers := κ.p dfr })) ∧
        CallsIn (FW rr) (m - 1) P f args (w.alloc (.loop { state := .ready, pending := none, fn, tmps := a.tmps, params, assign, body, defers := κ.p dfr })) (rangePost (FW rr) m P w.heap.size Q { a with defers := mark ++ a.defers }) := by
  obtain ⟨up, hk⟩ := call_ok hE hC hcall
  have hup : Up h1 h4 := ((up_new h1 _).trans up).trans (up_upd hob hu)
  refine ⟨hup, fun κ rr a w Q m mark W H T hn hd hfr kk fn => ?_⟩
  obtain ⟨fnd, code, hfn, hbody⟩ := hasBody_inv hb
  have c4 := upd_c hu
  have hle : h1.c + 1 ≤ h3.c := up.1
  have hfree1 : ¬κ.dom h1.c := hfr h1.c (Nat.le_refl _) (by omega)
  have hx := Ext.add w.heap.size 0 0 hfree1
  generalize hrec : ({ state := .ready, pending := none, fn, tmps := a.tmps, params, assign, body, defers := κ.p dfr } : Loop) = rec
  have hor : OR P (κ.add h1.c w.heap.size 0 0) h1.c (.loop .ready none nt ts params.toList assign body dfr) (.loop rec) := by
    subst hrec
    exact .loop { state := .ready, pending := none, fn, tmps := a.tmps, params, assign, body, defers := κ.p dfr } nt ts params.toList dfr rfl hn (T.ext hx) (hx.dom _ hd) (hx.p _ hd).symm
  obtain ⟨H2, G2⟩ := go_new (ro := ro) (w' := w.alloc (.loop rec)) H hfree1 rfl rfl rfl rfl hor
  have r := evO_vr H.glob T hf
  generalize hq : a.eval fo = q at r
  have hpl : (κ.add h1.c w.heap.size 0 0).p h1.c = w.heap.size := by simp [K.add]
  cases r with
  | func _ _ _ xs' ys' hsx h1x hsy h2y =>
    have hargs : LR (κ.add h1.c w.heap.size 0 0) (first.toList ++ [.func (.yield h1.c) #[] #[]] ++ captured.toList) ((xs' ++ #[Value.func (.yield w.heap.size) #[] #[]]) ++ ys').toList := by
      rw [Array.toList_append, Array.toList_append]
      have hy := VR.yield (κ := κ.add h1.c w.heap.size 0 0) h1.c (.inr rfl)
      rw [hpl] at hy
      exact (((LR.of_arr hsx h1x).ext hx).append (LR.cons hy (LR.nil _))).append ((LR.of_arr hsy h2y).ext hx)
    refine ⟨{ target := .fn (.func g) ys', args := xs' ++ #[Value.func (.yield w.heap.size) #[] #[]] }, g, (xs' ++ #[Value.func (.yield w.heap.size) #[] #[]]) ++ ys', ?_, ?_, ?_⟩
    · simp only [resolve, hq, Deferred.ofValue, Sem.run_pure]
      have : Array.map a.eval #[Operand.const (Value.func (.yield w.heap.size) #[] #[])] = #[Value.func (.yield w.heap.size) #[] #[]] := by simp [Act.eval]
      rw [this]
    · simp only [invoke, callFunc, Sem.run_bind, run_program, Result.andThen_ok, hfn, hF.names g fnd hfn, Bool.false_eq_true, if_false, hbody, Option.isNone_some, Sem.run_pure]
    · have hc := hk (κ.add h1.c w.heap.size 0 0) _ _ (m - 1) ((up_new h1 _).2 W) H2 hargs (Free.le (Free.next hfr G2) (by omega))
      refine CallsIn.mono (F := FW rr) hc ?_
      rintro e w3 ⟨v', rfl, κ3, H3, G3, _⟩
      obtain ⟨r3, hr3, hp3, hn3, ht3, hdf3, hf3, hs3, hpe3, ha3, hb3, hdl3⟩ := loop_obj H3 hob
      have hpl3 : κ3.p h1.c = w.heap.size := by rw [G3.ext.p h1.c (.inr rfl)]; exact hpl
      obtain ⟨H4, G4⟩ := loop_set H3 hob hu hr3 hp3 hn3 ht3 hdf3 hf3 ha3 hb3
      rw [hpl3] at hr3 H4 G4
      have hsame : ({ r3 with state := .exhausted, pending := pe } : Loop) = { r3 with state := .exhausted } := by rw [← hpe3]
      rw [hsame] at H4 G4
      refine ⟨pe, _, by rw [← hpe3]; exact run_endLoop hr3 (by rw [hs3]; exact hst), ?_⟩
      have := kk κ3 _ H4 ((G2.trans G3).trans G4)
      cases pe <;> exact this
/-- A scope through which the run goes without a jump. -/
theorem wpIn_scope {F : Fence} {n : Nat} {Q : Exit → Act → World → Prop} {a : Act} {w : World} {c : Code} (h : c.wpIn F n P (Exit.noGoto Q) a w) : (Code.scope c).wpIn F n P Q a w := by
  intro b k cs hro hb hr
  have h0 : (lone (b.atR a (.code (.scope c) :: k)) cs w).fenced P F := fenced_calm hb hr rfl
  have s1 : step P (lone (b.atR a (.code (.scope c) :: k)) cs w) = .next (lone (b.atR a (.code c :: .inScope c :: k)) cs w) := step_lone_go (by simp [stepG, stepG.exec, Frame.atR])
  obtain ⟨e, a₁, w₁, hq, harr⟩ := h b (.inScope c :: k) cs hro hb hr
  cases e with
  | normal =>
    have s2 : step P (lone (b.atR a₁ (.inScope c :: k)) cs w₁) = .next (lone (b.atR a₁ k) cs w₁) := step_lone_go (by simp [stepG, stepG.exec, Frame.atR])
    exact ⟨.normal, a₁, w₁, hq, .head h0 s1 (StepsIn.trans harr (.one (fenced_calm hb hr rfl) s2))⟩
  | exit id =>
    have hx : exitTo id (.inScope c :: k) = exitTo id k := by simp [exitTo]
    exact ⟨.exit id, a₁, w₁, hq, fun k' hk => .head h0 s1 (harr.1 k' (by rw [hx]; exact hk)),
      fun hr' hk => let ⟨k₁, h1, h2⟩ := harr.2 hr' (by rw [hx]; exact hk); ⟨k₁, h1, .head h0 s1 h2⟩⟩
  | goto l => exact hq.elim
  | ret => exact ⟨_, a₁, w₁, hq, .of_steps (.one h0 s1) harr⟩
  | panic ch => exact ⟨_, a₁, w₁, hq, .of_steps (.one h0 s1) harr⟩
  | outgrown => exact ⟨_, a₁, w₁, hq, .of_steps (.one h0 s1) harr⟩
/-- THE EVALUATOR. -/
theorem evalN_ok (hF : Fit P) (hX : XOk P ro X) (hC : COk P ro C) : ∀ k, EvOk P ro (evalN P ro X C k) ∧ LpOk P ro (evalN P ro X C k)
  | 0 => ⟨fun rnd nt code st e st' h => by simp [evalN] at h, fun rnd nt code st e st' h => by simp [evalN] at h⟩
  | k + 1 => by
    obtain ⟨hE, hL⟩ := evalN_ok hF hX hC k
    -- loops
    have hloop : ∀ rnd nt b st e st', evalN P ro X C (k + 1) rnd nt (.loop b) st = some (e, st') → Up st.h st'.h ∧
        ∀ tl κ rr (a : Act) w (Q : Exit → Act → World → Prop) m, WF st.h → HR P κ st.h.m w → TR κ st.ts a.tmps → a.tmps.size = nt → DR tl κ st.dl a.defers → RR κ rnd rr → Free κ st.h.c st'.h.c →
          (∀ κ' (a' : Act) w', HR P κ' st'.h.m w' → Gone ro κ κ' st.h st'.h w w' → TR κ' st'.ts a'.tmps → a'.tmps.size = nt → DR tl κ' st'.dl a'.defers → Q (toExit e) a' w') → LoopWp (FW rr) m P b Q a w := by
      intro rnd nt b st e st' h
      simp only [evalN] at h
      split at h
      · rename_i st1 h1
        obtain ⟨u1, k1⟩ := hE _ _ _ _ _ _ h1
        obtain ⟨u2, _⟩ := hE _ _ _ _ _ _ h
        refine ⟨u1.trans u2, fun tl κ rr a w Q m W H T hn D R hf kk => ?_⟩
        refine loop_step (k1 tl κ rr a w _ m W H T hn D R (Free.le hf u2.1) fun κ1 a1 w1 H1 G1 T1 n1 D1 => ?_)
        exact hL _ _ _ _ _ _ h tl κ1 rr a1 w1 Q m (u1.2 W) H1 T1 n1 D1 (R.ext G1.ext) (Free.next hf G1) fun κ2 a2 w2 H2 G2 T2 n2 D2 => kk κ2 a2 w2 H2 (G1.trans G2) T2 n2 D2
      · rename_i hne
        obtain ⟨u1, k1⟩ := hE _ _ _ _ _ _ h
        refine ⟨u1, fun tl κ rr a w Q m W H T hn D R hf kk => ?_⟩
        refine loop_step (k1 tl κ rr a w _ m W H T hn D R hf fun κ1 a1 w1 H1 G1 T1 n1 D1 => ?_)
        have := kk κ1 a1 w1 H1 G1 T1 n1 D1
        cases e with
        | normal => exact absurd h (hne _)
        | exit id => exact this
        | ret => exact this
    refine ⟨fun rnd nt code st e st' h => ?_, fun rnd nt b st e st' h => (hloop rnd nt b st e st' h).2⟩
    cases code with
    | skip =>
      simp only [evalN, Option.some.injEq, Prod.mk.injEq] at h
      obtain ⟨rfl, rfl⟩ := h
      exact ⟨Up.refl _, fun tl κ rr a w Q m W H T hn D R hf kk => wpIn_skip (kk κ a w H (Gone.refl H) T hn D)⟩
    | label l =>
      simp only [evalN, Option.some.injEq, Prod.mk.injEq] at h
      obtain ⟨rfl, rfl⟩ := h
      exact ⟨Up.refl _, fun tl κ rr a w Q m W H T hn D R hf kk => wpIn_label (kk κ a w H (Gone.refl H) T hn D)⟩
    | region id ops draw =>
      simp only [evalN] at h
      split at h
      · rename_i st1 h1
        simp only [Option.some.injEq, Prod.mk.injEq] at h
        obtain ⟨rfl, rfl⟩ := h
        cases draw with
        | true =>
          obtain ⟨u, hk⟩ := draw_ok hF hX hE hC h1
          exact ⟨u, fun tl κ rr a w Q m W H T hn D R hf kk => hk tl κ rr a w Q m id W H T hn D hf kk⟩
        | false =>
          simp only [aregion, Bool.false_eq_true, if_false] at h1
          obtain ⟨u, hk⟩ := ops_ok hF hX hE hC ops.toList 0 st st1 rfl h1
          refine ⟨u, fun tl κ rr a w Q m W H T hn D R hf kk => wpIn_region ?_⟩
          have := hk tl κ rr a w Q m W H T hn D hf kk
          rw [List.range_eq_range', ← Array.length_toList]
          exact this
      · cases h
    | seq x y =>
      simp only [evalN] at h
      split at h
      · rename_i st1 h1
        obtain ⟨u1, k1⟩ := hE _ _ _ _ _ _ h1
        obtain ⟨u2, k2⟩ := hE _ _ _ _ _ _ h
        refine ⟨u1.trans u2, fun tl κ rr a w Q m W H T hn D R hf kk => wpIn_seq ?_⟩
        refine k1 tl κ rr a w _ m W H T hn D R (Free.le hf u2.1) fun κ1 a1 w1 H1 G1 T1 n1 D1 => ?_
        exact k2 tl κ1 rr a1 w1 Q m (u1.2 W) H1 T1 n1 D1 (R.ext G1.ext) (Free.next hf G1) fun κ2 a2 w2 H2 G2 T2 n2 D2 => kk κ2 a2 w2 H2 (G1.trans G2) T2 n2 D2
      · rename_i hne
        obtain ⟨u1, k1⟩ := hE _ _ _ _ _ _ h
        refine ⟨u1, fun tl κ rr a w Q m W H T hn D R hf kk => wpIn_seq ?_⟩
        refine k1 tl κ rr a w _ m W H T hn D R hf fun κ1 a1 w1 H1 G1 T1 n1 D1 => ?_
        have := kk κ1 a1 w1 H1 G1 T1 n1 D1
        cases e with
        | normal => exact absurd h (hne _)
        | exit id => exact this
        | ret => exact this
    | cond c x y =>
      simp only [evalN] at h
      split at h
      · rename_i t hc
        obtain ⟨u1, k1⟩ := hE _ _ _ _ _ _ h
        refine ⟨u1, fun tl κ rr a w Q m W H T hn D R hf kk => ?_⟩
        have rc := evO_vr H.glob T hc
        have hv : a.eval c = .bool t := by
          generalize a.eval c = q at rc
          cases rc; rfl
        exact wpIn_cond hv (k1 tl κ rr a w Q m W H T hn D R hf kk)
      · cases h
    | block id b =>
      simp only [evalN] at h
      split at h
      · rename_i id' st1 h1
        obtain ⟨u1, k1⟩ := hE _ _ _ _ _ _ h1
        by_cases hid : id' = id
        · rw [if_pos hid] at h
          simp only [Option.some.injEq, Prod.mk.injEq] at h
          obtain ⟨rfl, rfl⟩ := h
          refine ⟨u1, fun tl κ rr a w Q m W H T hn D R hf kk => wpIn_block (k1 tl κ rr a w _ m W H T hn D R hf fun κ1 a1 w1 H1 G1 T1 n1 D1 => ?_)⟩
          have := kk κ1 a1 w1 H1 G1 T1 n1 D1
          show Exit.inBlock id Q (.exit id') a1 w1
          simp only [Exit.inBlock, hid, if_true]; exact this
        · rw [if_neg hid] at h
          simp only [Option.some.injEq, Prod.mk.injEq] at h
          obtain ⟨rfl, rfl⟩ := h
          refine ⟨u1, fun tl κ rr a w Q m W H T hn D R hf kk => wpIn_block (k1 tl κ rr a w _ m W H T hn D R hf fun κ1 a1 w1 H1 G1 T1 n1 D1 => ?_)⟩
          have := kk κ1 a1 w1 H1 G1 T1 n1 D1
          show Exit.inBlock id Q (.exit id') a1 w1
          simp only [Exit.inBlock, hid, if_false]; exact this
      · rename_i hne
        obtain ⟨u1, k1⟩ := hE _ _ _ _ _ _ h
        refine ⟨u1, fun tl κ rr a w Q m W H T hn D R hf kk => wpIn_block (k1 tl κ rr a w _ m W H T hn D R hf fun κ1 a1 w1 H1 G1 T1 n1 D1 => ?_)⟩
        have := kk κ1 a1 w1 H1 G1 T1 n1 D1
        cases e with
        | normal => exact this
        | exit id => exact absurd h (hne _ _)
        | ret => exact this
    | loop b =>
      obtain ⟨u, hk⟩ := hloop rnd nt b st e st' h
      exact ⟨u, fun tl κ rr a w Q m W H T hn D R hf kk => wp_of_loop (hk tl κ rr a w Q m W H T hn D R hf kk)⟩
    | exit id =>
      simp only [evalN, Option.some.injEq, Prod.mk.injEq] at h
      obtain ⟨rfl, rfl⟩ := h
      exact ⟨Up.refl _, fun tl κ rr a w Q m W H T hn D R hf kk => wpIn_exit (kk κ a w H (Gone.refl H) T hn D)⟩
    | ret =>
      simp only [evalN, Option.some.injEq, Prod.mk.injEq] at h
      obtain ⟨rfl, rfl⟩ := h
      exact ⟨Up.refl _, fun tl κ rr a w Q m W H T hn D R hf kk => wpIn_ret (kk κ a w H (Gone.refl H) T hn D)⟩
    | rangeFunc fo params assign body =>
      simp only [evalN] at h
      split at h
      · rename_i dfr dl h1 g first captured hls hf
        by_cases hb : hasBody P g = true
        · rw [if_pos hb] at h
          split at h
          · rename_i v h3 hcall
            split at h
            · rename_i stt pe nt1 tsl ps1 as1 bd1 df1 hob
              by_cases hst : stt = .busy
              · rw [if_pos hst] at h; cases h
              · rw [if_neg hst] at h
                split at h
                · rename_i h4 hu
                  obtain ⟨up, hk⟩ := range_ok' hF hC hE (nt := nt) (params := params) (assign := assign) (body := body) hf hb hcall hob hst hu
                  have hls' := hls
                  -- where it begins, and where it ends
                  have hfin : Up st.h st'.h ∧ Up h4 st'.h ∧ ∀ tl κ0 (w0 : World) rr (a0 : Act) (Q : Exit → Act → World → Prop) m κ1 w1, WF h4 → RR κ0 rnd rr → (∀ κ' (a' : Act) w', HR P κ' st'.h.m w' → Gone ro κ0 κ' st.h st'.h w0 w' → TR κ' st'.ts a'.tmps → a'.tmps.size = nt → DR tl κ' st'.dl a'.defers → Q (toExit e) a' w') →
                      HR P κ1 h4.m w1 → Gone ro κ0 κ1 st.h h4 w0 w1 → TR κ1 st.ts a0.tmps → a0.tmps.size = nt → DR tl κ1 (dl ++ st.dl) a0.defers → Free κ0 st.h.c st'.h.c → match pe with
                        | none => Q .normal a0 w1
                        | some c => c.wpIn (FW rr) m P Q a0 w1 := by
                    have hu0 : Up st.h h1 := by
                      unfold loopStart at hls
                      split at hls
                      · simp only [Option.some.injEq, Prod.mk.injEq] at hls; obtain ⟨_, _, rfl⟩ := hls; exact up_new _ _
                      · split at hls
                        · simp only [Option.some.injEq, Prod.mk.injEq] at hls; obtain ⟨_, _, rfl⟩ := hls; exact Up.refl _
                        · cases hls
                    cases pe with
                    | none =>
                      simp only [Option.some.injEq, Prod.mk.injEq] at h
                      obtain ⟨rfl, rfl⟩ := h
                      exact ⟨hu0.trans up, Up.refl _, fun tl κ0 w0 rr a0 Q m κ1 w1 W4 R kk H1 G1 T1 n1 D1 _ => kk κ1 a0 w1 H1 G1 T1 n1 D1⟩
                    | some c =>
                      simp only at h
                      obtain ⟨u2, k2⟩ := hE _ _ _ _ _ _ h
                      refine ⟨(hu0.trans up).trans u2, u2, fun tl κ0 w0 rr a0 Q m κ1 w1 W4 R kk H1 G1 T1 n1 D1 hf => ?_⟩
                      exact k2 tl κ1 rr a0 w1 Q m W4 H1 T1 n1 D1 (R.ext G1.ext) (Free.next hf G1) fun κ2 a2 w2 H2 G2 T2 n2 D2 => kk κ2 a2 w2 H2 (G1.trans G2) T2 n2 D2
                  obtain ⟨hu1, hu2, hend⟩ := hfin
                  refine ⟨hu1, fun tl κ rr a w Q m W H T hn D R hfr kk => wpIn_rangeFunc fun fn _ => ?_⟩
                  cases rnd with
                  | none =>
                    cases rr with
                    | some _ => exact R.elim
                    | none =>
                      simp only [loopStart, Option.some.injEq, Prod.mk.injEq] at hls
                      obtain ⟨rfl, rfl, rfl⟩ := hls
                      have hle : st.h.c + 1 ≤ h4.c := up.1
                      have hfree0 : ¬κ.dom st.h.c := hfr st.h.c (Nat.le_refl _) (by have := hu2.1; omega)
                      have hx := Ext.add w.heap.size 0 0 hfree0
                      obtain ⟨H1, G1⟩ := go_new (ro := ro) (n := 0) (s := 0) (w' := w.alloc (.deferred (some []))) H hfree0 rfl rfl rfl rfl OR.dfr
                      have hpd : (κ.add st.h.c w.heap.size 0 0).p st.h.c = w.heap.size := by simp [K.add]
                      have hside := fun κ' w' (H' : HR P κ' h4.m w') (G' : Gone ro (κ.add st.h.c w.heap.size 0 0) κ' (st.h.new .dfr) h4 (w.alloc (.deferred (some []))) w') =>
                        hend tl κ w none { a with defers := [{ target := .collected w.heap.size, args := #[] }] ++ a.defers } Q m κ' w' (up.2 ((up_new _ _).2 W)) trivial kk H' (G1.trans G') (T.ext (G1.trans G').ext) hn (by
                          have GG := G1.trans G'
                          refine ⟨fun i hi => ?_, ?_⟩
                          · rcases List.mem_append.1 hi with q | q
                            · rw [List.mem_singleton.1 q]; exact G'.ext.dom _ (.inr rfl)
                            · exact GG.ext.dom i (D.1 i q)
                          · rw [List.map_append, List.append_assoc, ← (D.ext GG.ext).2]
                            have : κ'.p st.h.c = w.heap.size := by rw [G'.ext.p st.h.c (.inr rfl)]; exact hpd
                            simp [this]) hfr
                      obtain ⟨d, f, args, q1, q2, q3⟩ := hk (κ.add st.h.c w.heap.size 0 0) none a _ Q m [{ target := .collected w.heap.size, args := #[] }] ((up_new _ _).2 W) H1 (T.ext hx) hn (.inr rfl) (Free.le (Free.next hfr G1) hu2.1) hside fn
                      have hsz : (w.alloc (.deferred (some []))).heap.size = w.heap.size + 1 := by simp
                      rw [hpd] at q1 q2 q3
                      rw [hsz] at q1 q3
                      exact ⟨w.heap.size + 1, _, _, d, _, f, args, _, run_enterLoop_outer fn a.tmps params assign body, q1, fun _ _ => trivial, q2, FW_depth none, q3⟩
                  | some l =>
                    cases rr with
                    | none => exact R.elim
                    | some l' =>
                      obtain ⟨hdl, rfl⟩ := R
                      simp only [loopStart] at hls
                      split at hls
                      · rename_i s0 p0 n0 t0 ps0 a0 b0 d0 hobl
                        simp only [Option.some.injEq, Prod.mk.injEq] at hls
                        obtain ⟨rfl, rfl, rfl⟩ := hls
                        obtain ⟨r, hr, _, _, _, hdd, hdf, _, _, _, _, _⟩ := loop_obj H hobl
                        have hside := fun κ' w' (H' : HR P κ' h4.m w') (G' : Gone ro κ κ' st.h h4 w w') =>
                          hend tl κ w (some (κ.p l)) { a with defers := [] ++ a.defers } Q m κ' w' (up.2 W) ⟨hdl, rfl⟩ kk H' G' (T.ext G'.ext) hn (D.ext G'.ext) hfr
                        obtain ⟨d, f, args, q1, q2, q3⟩ := hk κ (some (κ.p l)) a w Q m [] W H T hn hdd (Free.le hfr hu2.1) hside fn
                        rw [← hdf] at q1 q2 q3
                        exact ⟨w.heap.size, _, _, d, _, f, args, _, enterLoop_inner hr fn a.tmps params assign body, q1, fun _ _ => trivial, q2, FW_depth _, q3⟩
                      · cases hls
                · cases h
            · cases h
          · cases h
        · rw [if_neg hb] at h; cases h
      · cases h
    | scope b =>
      simp only [evalN] at h
      obtain ⟨u1, k1⟩ := hE _ _ _ _ _ _ h
      refine ⟨u1, fun tl κ rr a w Q m W H T hn D R hf kk => wpIn_scope ?_⟩
      refine k1 tl κ rr a w _ m W H T hn D R hf fun κ1 a1 w1 H1 G1 T1 n1 D1 => ?_
      have := kk κ1 a1 w1 H1 G1 T1 n1 D1
      cases e <;> exact this
    | goto l => simp [evalN] at h
    | refuse s => simp [evalN] at h
#print axioms evalN_ok
end
end Ex
end
section
namespace Ex
open Go.RowKit
section
variable {P : Program} {ro : Nat} {X C : Hook}
/-- What the evaluator says of a call holds of it. -/
theorem calls_ok (hF : Fit P) (hX : XOk P ro X) (hC : COk P ro C) {k f : Nat} {args : List Value} {h h' : Hp} {v : Value} (e : acall P ro (evalN P ro X C k) C f args h = some (v, h')) (W : WF h) {κ : K} {w : World} {args' : Array Value}
    (H : HR P κ h.m w) (r : LR κ args args'.toList) (hf : ∀ i, h.c ≤ i → ¬κ.dom i) : Calls P f args' w fun e w' => ∃ v', e = .returned v' ∧ Comes' P ro κ h w v h' v' w' :=
  callsIn_wide.1 ((call_ok (evalN_ok hF hX hC k).1 hC e).2 κ w args' 0 W H r fun i a _ => hf i a)
/-- No function is known. -/
def noHook : Hook := fun _ _ _ => none
theorem noHook_ok : COk P ro noHook := fun _ _ _ _ _ h => by simp [noHook] at h
/-- A function for which the model stands in, on values without an address. -/
def pureExt (P : Program) (e : Array Value → Sem Value) (args : List Value) (h : Hp) : Option (Value × Hp) :=
  if args.all closed then
    match cval? P (e args.toArray) with
    | some v => some (v, h)
    | none => none
  else none
def cloneExt (args : List Value) (h : Hp) : Option (Value × Hp) :=
  match args with
  | [.iface t (.map (some r))] => match h.m.get r with
    | some (.map es clock) => some (.iface t (.map (some h.c)), h.new (.map es clock))
    | _ => none
  | _ => none
/-- How a function is stood in for. -/
def ExtIs (P : Program) (f : Nat) (e : Array Value → Sem Value) : Prop := ∀ (args : Array Value) (w : World), (callFunc f args).run P w = ((e args).run P w).andThen fun v w' => .ok (.value v) w'
def HookOk (P : Program) (ro : Nat) (f : Nat) (x : List Value → Hp → Option (Value × Hp)) : Prop := ∀ args h v h', x args h = some (v, h') → Up h h' ∧
  ∀ κ w (args' : Array Value), HR P κ h.m w → LR κ args args'.toList → Free κ h.c h'.c → ∃ v' w', (callFunc f args').run P w = .ok (.value v') w' ∧ Comes' P ro κ h w v h' v' w'
theorem pureExt_ok {f : Nat} {e : Array Value → Sem Value} (hf : ExtIs P f e) : HookOk P ro f (pureExt P e) := by
  intro args h v h' hx
  unfold pureExt at hx
  split at hx
  · rename_i hc
    split at hx
    · rename_i u hu
      simp only [Option.some.injEq, Prod.mk.injEq] at hx
      obtain ⟨rfl, rfl⟩ := hx
      refine ⟨Up.refl _, fun κ w args' H r _ => ⟨u, w, ?_, κ, H, Gone.refl H, (cval_run hu κ w).2⟩⟩
      have he := r.closed hc
      have : args' = args.toArray := by apply Array.ext'; rw [he]
      rw [hf, this, (cval_run hu κ w).1]; rfl
    · cases hx
  · cases hx
theorem cloneExt_ok {f : Nat} (hf : ExtIs P f Extern.MapsClone.clone) : HookOk P ro f cloneExt := by
  intro args h v h' hx
  unfold cloneExt at hx
  split at hx
  · rename_i t r
    split at hx
    · rename_i es clock hob
      simp only [Option.some.injEq, Prod.mk.injEq] at hx
      obtain ⟨rfl, rfl⟩ := hx
      refine ⟨up_new _ _, fun κ w args' H rl hfr => ?_⟩
      obtain ⟨y, ys, hy, r1, r2⟩ := rl.cons_inv
      have := r2.nil_inv
      subst this
      have harg : args' = #[y] := by apply Array.ext'; rw [hy]
      subst harg
      cases r1 with
      | iface _ _ u hu =>
        cases hu with
        | map _ hr =>
          obtain ⟨_, es', ho', he⟩ := map_obj H hob
          have hfree := hfr h.c (Nat.le_refl _) (by simp [Hp.new])
          have hx := Ext.add w.heap.size 0 0 hfree
          obtain ⟨a, b⟩ := go_new (ro := ro) (n := 0) (s := 0) (w' := w.alloc (.map es' clock)) H hfree rfl rfl rfl rfl (.map es clock es' ⟨he.1, fun i e e' p q => (he.2 i e e' p q).ext hx⟩)
          refine ⟨.iface t (.map (some w.heap.size)), w.alloc (.map es' clock), ?_, _, a, b, ?_⟩
          · have hd : Extern.MapsClone.clone #[.iface t (.map (some (κ.p r)))] = (getObj (κ.p r) >>= fun o => match o with
              | .map entries clock => (newObj (.map entries clock) >>= fun n => pure (.iface t (.map (some n))))
              | _ => stuck "maps.clone: a map expected") := rfl
            rw [hf, hd, Sem.run_bind, r_getObj ho' (by simp)]
            rfl
          · have := VR.map (κ := κ.add h.c w.heap.size 0 0) h.c (.inr rfl)
            simp only [K.add, if_true] at this
            exact .iface _ _ _ this
    · cases hx
  · cases hx
/-- The blocks that were there, by their numbers; others by the given map. -/
theorem hr_start {m : Tr AO} {κ : K} {w : World} (ho : ∀ i o, m.get i = some o → κ.dom i ∧ ∃ o', w.heap[κ.p i]? = some o' ∧ OR P κ i o o') (hi : ∀ a b, (m.get a).isSome → (m.get b).isSome → κ.p a = κ.p b → a = b)
    (hg : ∀ g, g < P.globals.size → κ.dom g ∧ κ.p g = g) : HR P κ m w := ⟨ho, hi, hg⟩
/-- Behind a call that wrote to nothing that was there: all is as it was. -/
theorem Gone.below {κ κ' : K} {h h' : Hp} {w w' : World} (G : Gone ro κ κ' h h' w w') (hn : ∀ i, ro ≤ i → h.m.get i = none) : Below w.heap.size w w' :=
  ⟨G.os, G.tape, G.output, G.size, fun b hb => G.frame b hb fun i hi hs => by rw [hn i hi] at hs; cases hs⟩
end
end Ex
end
end Go.Proofs.YtjncnppbaldmiaaGreatDoor
