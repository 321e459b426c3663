/- Each of the evaluator's operations beside the model's. No condition. -/
import Derived.Test.YtgbladpoglhleaaGreatDoorRun10
namespace Go.Proofs.YtgbladpoglhleaaGreatDoor
namespace Ex
section
variable {P : Program} {ro : Nat} {X : Hook}
/-- What is asked of the program: its choices, and a name that no function bears. -/
structure Fit (P : Program) : Prop where
  mixed : P.follows .mixedOrders = true
  names : ∀ (f : Nat) fn, P.funcs[f]? = some fn → (fn.name == "runtime.NumGoroutine") = false
/-- What a call becomes: in the evaluator's memory and in the world. -/
def Comes' (P : Program) (ro : Nat) (κ : K) (h : Hp) (w : World) (v : Value) (h' : Hp) (v' : Value) (w' : World) : Prop := ∃ κ', HR P κ' h'.m w' ∧ Gone ro κ κ' h h' w w' ∧ VR κ' v v'
/-- All numbers in use lie below the count. -/
def WF (h : Hp) : Prop := (∀ i, (h.m.get i).isSome → i < h.c) ∧ ∀ i ∈ h.wl, i < h.c
def Up (h h' : Hp) : Prop := h.c ≤ h'.c ∧ (WF h → WF h')
theorem Up.refl (h : Hp) : Up h h := ⟨Nat.le_refl _, id⟩
theorem Up.trans {a b c : Hp} (x : Up a b) (y : Up b c) : Up a c := ⟨Nat.le_trans x.1 y.1, fun w => y.2 (x.2 w)⟩
theorem up_new (h : Hp) (o : AO) : Up h (h.new o) := ⟨by simp [Hp.new], fun w => ⟨fun i hi => by
    rw [Hp.get_new] at hi
    show i < h.c + 1
    split at hi
    · omega
    · have := w.1 i hi; omega, fun i hi => by
    show i < h.c + 1
    have := w.2 i hi; omega⟩⟩
theorem up_upd {h h' : Hp} {b : Nat} {x : AO} {o : Option AO} (hb : h.m.get b = some x) (e : h.upd ro b o = some h') : Up h h' := by
  rw [(Hp.upd_inv e).2]
  refine ⟨Nat.le_refl _, fun w => ⟨fun i hi => ?_, fun i hi => ?_⟩⟩
  · simp only [Tr.get_put] at hi
    split at hi
    · rename_i q; rw [q]; exact w.1 b (by rw [hb]; rfl)
    · exact w.1 i hi
  · rcases mem_addW.1 hi with rfl | hi
    · exact w.1 _ (by rw [hb]; rfl)
    · exact w.2 i hi
def XOk (P : Program) (ro : Nat) (X : Hook) : Prop := ∀ (f : Nat) fn args h v h', P.funcs[f]? = some fn → fn.body = none → X f args h = some (v, h') → Up h h' ∧
  ∀ κ w (args' : Array Value), HR P κ h.m w → LR κ args args'.toList → Free κ h.c h'.c → ∃ v' w', (callFunc f args').run P w = .ok (.value v') w' ∧ Comes' P ro κ h w v h' v' w'
def ORun (P : Program) (s : Sem Next) (w : World) (v' : Value) (w' : World) : Prop := s.run P w = .ok (.value v') w' ∨ (v' = undef ∧ s.run P w = .ok .skip w')
def OutOk (P : Program) (ro : Nat) (ts : TS) (h : Hp) (o : Oper) : Out → Prop
  | .val v h' => Up h h' ∧ ∀ κ (a : Act) w, HR P κ h.m w → TR κ ts a.tmps → Free κ h.c h'.c → ∃ v' w', ORun P (execOp a.eval o) w v' w' ∧ Comes' P ro κ h w v h' v' w'
  | .enter f args h' => h' = h ∧ ∀ κ (a : Act) w, HR P κ h.m w → TR κ ts a.tmps → ∃ args' : Array Value, (execOp a.eval o).run P w = .ok (.enter f args') w ∧ LR κ args args'.toList
  | .round l args h' => h' = h ∧ ∀ κ (a : Act) w, HR P κ h.m w → TR κ ts a.tmps → ∃ args' : Array Value, κ.dom l ∧ (execOp a.eval o).run P w = (Instr.yield (κ.p l) args').run P w ∧ LR κ args args'.toList
theorem parts_pr {κ : K} (H : ∀ g, g < P.globals.size → κ.dom g ∧ κ.p g = g) {ts : TS} {a : Act} (T : TR κ ts a.tmps) : ∀ {xs : List (Nat × Operand)} {vs : List (Nat × Value)}, evParts P ts xs = some vs → PR κ vs (xs.map fun (i, x) => (i, a.eval x))
  | [], vs, e => by simp only [evParts, Option.some.injEq] at e; subst e; exact ⟨rfl, fun i p p' h => by simp at h⟩
  | (i, x) :: xs, vs, e => by
    simp only [evParts, Option.bind_eq_bind] at e
    obtain ⟨v, hv, e⟩ := Option.bind_eq_some_iff.1 e
    obtain ⟨ws, hw, e⟩ := Option.bind_eq_some_iff.1 e
    simp only [Option.some.injEq] at e; subst e
    have ih := parts_pr H T hw
    refine ⟨by simp [ih.1], fun j p p' a b => ?_⟩
    cases j with
    | zero => simp at a b; subst a; subst b; exact ⟨rfl, evO_vr H T hv⟩
    | succ j => exact ih.2 j p p' (by simpa using a) (by simpa using b)
theorem opt_r {κ : K} (H : ∀ g, g < P.globals.size → κ.dom g ∧ κ.p g = g) {ts : TS} {a : Act} (T : TR κ ts a.tmps) {x : Option Operand} {v : Option Value} (e : evOpt P ts x = some v) : OptR κ v (x.map a.eval) := by
  cases x with
  | none => simp only [evOpt, Option.some.injEq] at e; subst e; trivial
  | some x =>
    simp only [evOpt] at e
    obtain ⟨u, hu, rfl⟩ := Option.map_eq_some_iff.1 e
    exact evO_vr H T hu
theorem upd_c {h h' : Hp} {b : Nat} {o : Option AO} (e : h.upd ro b o = some h') : h'.c = h.c := by rw [(Hp.upd_inv e).2]
theorem st_up {h h' : Hp} {b off : Nat} {vs : List Value} (e : stAt ro h b off vs = some h') : Up h h' := by
  unfold stAt at e
  split at e
  · rename_i c t hob
    by_cases hc : (Nat.ble (off + vs.length) c.length && vs.all scalar) = true
    · rw [hc] at e; exact up_upd hob e
    · have : (Nat.ble (off + vs.length) c.length && vs.all scalar) = false := by simpa using hc
      rw [this] at e; cases e
  · cases e
theorem append_up {h h' : Hp} {ats : List TypeId} {s x v : Value} (e : aappend P ro ats h s x = some (v, h')) : Up h h' := by
  unfold aappend at e
  repeat' split at e
  all_goals first
    | (cases e; done)
    | (simp only [Option.some.injEq, Prod.mk.injEq] at e
       obtain ⟨-, rfl⟩ := e
       first
        | exact Up.refl _
        | exact up_new _ _
        | (rename_i q; exact st_up q)
        | (rename_i q; exact (up_upd (by assumption) q).trans (up_new _ _)))
theorem copy_up {h h' : Hp} {ats : List TypeId} {s x v : Value} (e : acopy P ro ats h s x = some (v, h')) : Up h h' := by
  unfold acopy at e
  repeat' split at e
  all_goals first
    | (cases e; done)
    | (simp only [Option.some.injEq, Prod.mk.injEq] at e
       obtain ⟨-, rfl⟩ := e
       first
        | exact Up.refl _
        | (rename_i q; exact st_up q))
theorem update_up {h h' : Hp} {t : TypeId} {m k v : Value} (e : aupdate P ro t h m k v = some h') : Up h h' := by
  unfold aupdate at e
  repeat' split at e
  all_goals first | (cases e; done) | exact up_upd (by assumption) e
theorem delete_up {h h' : Hp} {t : TypeId} {m k : Value} (e : adelete P ro t h m k = some h') : Up h h' := by
  unfold adelete at e
  repeat' split at e
  all_goals first | (cases e; done) | exact up_upd (by assumption) e | (simp only [Option.some.injEq] at e; subst e; exact Up.refl _)
theorem next_up {h h' : Hp} {it v : Value} {b : Bool} (e : anext ro h it b = some (v, h')) : Up h h' := by
  unfold anext at e
  repeat' split at e
  all_goals first
    | (cases e; done)
    | (simp only [Option.some.injEq, Prod.mk.injEq] at e
       obtain ⟨-, rfl⟩ := e
       first
        | exact Up.refl _
        | (rename_i q; exact up_upd (by assumption) q))
theorem range_up {h h' : Hp} {t : TypeId} {x v : Value} (e : arange P t h x = some (v, h')) : Up h h' := by
  unfold arange at e
  repeat' split at e
  all_goals first
    | (cases e; done)
    | (simp only [Option.some.injEq, Prod.mk.injEq] at e
       obtain ⟨-, rfl⟩ := e
       exact up_new _ _)
theorem makeSlice_up {h h' : Hp} {t : TypeId} {l c v : Value} (e : amakeSlice P t h l c = some (v, h')) : Up h h' := by
  unfold amakeSlice at e
  simp only [Option.bind_eq_bind] at e
  obtain ⟨d, hd, e⟩ := Option.bind_eq_some_iff.1 e
  split at e
  · obtain ⟨_, _, e⟩ := Option.bind_eq_some_iff.1 e
    obtain ⟨_, _, e⟩ := Option.bind_eq_some_iff.1 e
    obtain ⟨_, _, e⟩ := Option.bind_eq_some_iff.1 e
    obtain ⟨_, _, e⟩ := Option.bind_eq_some_iff.1 e
    split at e
    · simp only [Option.some.injEq, Prod.mk.injEq] at e
      obtain ⟨-, rfl⟩ := e
      exact up_new _ _
    · cases e
  · cases e
theorem buildSlice_up {h h' : Hp} {t : TypeId} {n : Nat} {ps : List (Nat × Value)} {v : Value} (e : abuildSlice P t n ps h = some (v, h')) : Up h h' := by
  unfold abuildSlice at e
  repeat' split at e
  all_goals first
    | (cases e; done)
    | (simp only [Option.some.injEq, Prod.mk.injEq] at e
       obtain ⟨-, rfl⟩ := e
       exact up_new _ _)
theorem store_up {h h' : Hp} {t : TypeId} {a v : Value} (e : astore P ro t h a v = some h') : Up h h' := by
  unfold astore at e
  split at e
  · simp only [Option.bind_eq_bind] at e
    obtain ⟨n, hn, e⟩ := Option.bind_eq_some_iff.1 e
    repeat' split at e
    all_goals first
      | (cases e; done)
      | (simp only [Option.some.injEq] at e; subst e; exact Up.refl _)
      | exact st_up e
  · cases e
theorem convert_up {h h' : Hp} {s d : TypeId} {x v : Value} (e : aconvert P s d h x = some (v, h')) : Up h h' := by
  unfold aconvert at e
  simp only [Option.bind_eq_bind] at e
  obtain ⟨d1, hd1, e⟩ := Option.bind_eq_some_iff.1 e
  obtain ⟨d2, hd2, e⟩ := Option.bind_eq_some_iff.1 e
  split at e
  · simp only [Option.some.injEq, Prod.mk.injEq] at e; rw [← e.2]; exact Up.refl _
  · simp only [Option.some.injEq, Prod.mk.injEq] at e; rw [← e.2]; exact Up.refl _
  · obtain ⟨d3, hd3, e⟩ := Option.bind_eq_some_iff.1 e
    split at e
    · simp only [Option.some.injEq, Prod.mk.injEq] at e; rw [← e.2]; exact up_new _ _
    · cases e
  · obtain ⟨d3, hd3, e⟩ := Option.bind_eq_some_iff.1 e
    split at e
    · simp only [Option.some.injEq, Prod.mk.injEq] at e; rw [← e.2]; exact Up.refl _
    · cases e
  · obtain ⟨d3, hd3, e⟩ := Option.bind_eq_some_iff.1 e
    split at e
    · obtain ⟨_, _, e⟩ := Option.bind_eq_some_iff.1 e
      obtain ⟨_, _, e⟩ := Option.bind_eq_some_iff.1 e
      simp only [Option.some.injEq, Prod.mk.injEq] at e; rw [← e.2]; exact Up.refl _
    · cases e
  · cases e
theorem unsafeString_up {h h' : Hp} {ats : List TypeId} {s x v : Value} (e : aunsafeString P ro ats h s x = some (v, h')) : Up h h' := by
  unfold aunsafeString at e
  repeat' split at e
  all_goals first
    | (cases e; done)
    | (simp only [Option.some.injEq, Prod.mk.injEq] at e
       obtain ⟨-, rfl⟩ := e
       rename_i q
       exact up_upd (by assumption) q)
/-- An operation that only makes a value. -/
theorem out_val {ts : TS} {h : Hp} {o : Oper} {v : Value} (e : ∀ κ (a : Act) w, HR P κ h.m w → TR κ ts a.tmps → ∃ v', (execOp a.eval o).run P w = .ok (.value v') w ∧ VR κ v v') : OutOk P ro ts h o (.val v h) :=
  ⟨Up.refl _, fun κ a w H T _ => let ⟨v', hr, hv⟩ := e κ a w H T; ⟨v', w, .inl hr, κ, H, Gone.refl H, hv⟩⟩
theorem valH_inv {x : Option Value} {h : Hp} {out : Out} (e : valH x h = some out) : ∃ v, x = some v ∧ out = .val v h := by
  cases x with
  | none => cases e
  | some v => simp only [valH, Option.some.injEq] at e; exact ⟨v, rfl, e.symm⟩
theorem pairH_inv {x : Option (Value × Hp)} {out : Out} (e : pairH x = some out) : ∃ v h', x = some (v, h') ∧ out = .val v h' := by
  cases x with
  | none => cases e
  | some p => obtain ⟨v, h'⟩ := p; simp only [pairH, Option.some.injEq] at e; exact ⟨v, h', rfl, e.symm⟩
theorem skipH_inv {x : Option Hp} {out : Out} (e : skipH x = some out) : ∃ h', x = some h' ∧ out = .val undef h' := by
  cases x with
  | none => cases e
  | some h' => simp only [skipH, Option.some.injEq] at e; exact ⟨h', rfl, e.symm⟩
theorem vr_undef (κ : K) : VR κ undef undef := (LR.nil κ).tuple
theorem run_v {s : Sem Value} {v' : Value} {w w' : World} (e : s.run P w = .ok v' w') : (do pure (.value (← s)) : Sem Next).run P w = .ok (.value v') w' := by simp [e]
theorem run_u {s : Sem Unit} {w w' : World} (e : s.run P w = .ok () w') : (do s; pure .skip : Sem Next).run P w = .ok .skip w' := by simp [e]
theorem callV_ok (hF : Fit P) (hX : XOk P ro X) {ts : TS} {h : Hp} {o : Oper} {c : Call} (ho : o.op = .call c) {fo : Operand} (hc : c.callee = .value fo) {f : Value} {args : List Value} (hf : evO P ts fo = some f) (ha : evAll P ts c.args.toList = some args)
    {out : Out} (e : acallV P X h f args = some out) : OutOk P ro ts h o out := by
  have hres : ∀ (a : Act) fn (first captured : Array Value) w, a.eval fo = .func fn first captured → (execOp a.eval o).run P w = (invoke (.fn fn captured) (first ++ c.args.map a.eval)).run P w := by
    intro a fn first captured w hv
    simp only [execOp, ho, resolve, hc, hv, Deferred.ofValue, Sem.run_bind, Sem.run_pure, Result.andThen_ok]
  unfold acallV at e
  split at e
  · rename_i g first captured
    have hall : ∀ κ (a : Act) w, HR P κ h.m w → TR κ ts a.tmps → ∃ first' captured' : Array Value, a.eval fo = .func (.func g) first' captured' ∧ LR κ (first.toList ++ args ++ captured.toList) ((first' ++ c.args.map a.eval) ++ captured').toList := by
      intro κ a w H T
      have r := evO_vr H.glob T hf
      generalize hq : a.eval fo = q at r
      cases r with
      | func _ _ _ xs' ys' hx h1 hy h2 =>
        refine ⟨xs', ys', rfl, ?_⟩
        have l := evAll_lr H.glob T ha
        rw [Array.toList_append, Array.toList_append, Array.toList_map]
        exact ((LR.of_arr hx h1).append l).append (LR.of_arr hy h2)
    split at e
    · rename_i fn hfn
      split at e
      · rename_i code hb
        simp only [Option.some.injEq] at e; subst e
        refine ⟨rfl, fun κ a w H T => ?_⟩
        obtain ⟨first', captured', hev, hl⟩ := hall κ a w H T
        refine ⟨_, ?_, hl⟩
        rw [hres a _ _ _ w hev]
        simp only [invoke, callFunc, Sem.run_bind, run_program, Result.andThen_ok, hfn, hF.names g fn hfn, Bool.false_eq_true, if_false, hb, Option.isNone_some, Sem.run_pure]
      · rename_i hb
        obtain ⟨v, h', hx, rfl⟩ := pairH_inv e
        obtain ⟨hm, hrun⟩ := hX g fn _ h v h' hfn hb hx
        refine ⟨hm, fun κ a w H T hfr => ?_⟩
        obtain ⟨first', captured', hev, hl⟩ := hall κ a w H T
        obtain ⟨v', w', hr, hC⟩ := hrun κ w _ H hl hfr
        exact ⟨v', w', .inl (by rw [hres a _ _ _ w hev]; exact hr), hC⟩
    · cases e
  · rename_i l first captured
    simp only [Option.some.injEq] at e; subst e
    refine ⟨rfl, fun κ a w H T => ?_⟩
    have r := evO_vr H.glob T hf
    generalize hq : a.eval fo = q at r
    cases r with
    | yield _ hl =>
      refine ⟨#[] ++ c.args.map a.eval, hl, by rw [hres a _ _ _ w hq]; rfl, ?_⟩
      have l := evAll_lr H.glob T ha
      rw [Array.toList_append, Array.toList_map]
      exact (LR.nil κ).append l
  · cases e
theorem builtin_ok {ts : TS} {h : Hp} {o : Oper} {c : Call} (ho : o.op = .call c) {b : Builtin} (hc : c.callee = .builtin b) {args : List Value} (ha : evAll P ts c.args.toList = some args)
    {out : Out} (e : abuiltin P ro b c.argTypes.toList o.type h args = some out) : OutOk P ro ts h o out := by
  have hres : ∀ (a : Act) w, (execOp a.eval o).run P w = (builtin b c.argTypes o.type (c.args.map fun | .const _ => true | _ => false) (c.args.map a.eval)).run P w := by
    intro a w
    simp only [execOp, ho, resolve, hc, Sem.run_bind, Sem.run_pure, Result.andThen_ok, invoke]
    rfl
  have hargs : ∀ κ (a : Act) w, HR P κ h.m w → TR κ ts a.tmps → LR κ args (c.args.map a.eval).toList := fun κ a w H T => by
    rw [Array.toList_map]; exact evAll_lr H.glob T ha
  have two : ∀ {κ : K} {x y : Value} {zs : Array Value}, LR κ [x, y] zs.toList → ∃ x' y', zs = #[x', y'] ∧ VR κ x x' ∧ VR κ y y' := by
    intro κ x y zs r
    obtain ⟨x', l1, e1, r1, r2⟩ := r.cons_inv
    obtain ⟨y', l2, e2, r3, r4⟩ := r2.cons_inv
    have := r4.nil_inv
    subst this; subst e2
    exact ⟨x', y', by apply Array.ext'; rw [e1], r1, r3⟩
  have tt : c.argTypes.toList.toArray = c.argTypes := Array.toArray_toList
  unfold abuiltin at e
  split at e
  · rename_i s x
    obtain ⟨v, h', hx, rfl⟩ := pairH_inv e
    refine ⟨append_up hx, fun κ a w H T hfr => ?_⟩
    obtain ⟨s', x', hz, r1, r2⟩ := two (hargs κ a w H T)
    obtain ⟨v', w', κ', hr, hH, hG, hV⟩ := (append_ok (ty := o.type) H r1 r2 hx).2 hfr
    refine ⟨v', w', .inl ?_, κ', hH, hG, hV⟩
    rw [hres a w, hz]
    rw [tt] at hr
    exact run_v hr
  · rename_i s x
    obtain ⟨v, h', hx, rfl⟩ := pairH_inv e
    refine ⟨copy_up hx, fun κ a w H T hfr => ?_⟩
    obtain ⟨s', x', hz, r1, r2⟩ := two (hargs κ a w H T)
    obtain ⟨_, v', w', hr, hH, hG, hV⟩ := copy_ok (ty := o.type) H r1 r2 hx
    refine ⟨v', w', .inl ?_, κ, hH, hG, hV⟩
    rw [hres a w, hz]
    rw [tt] at hr
    exact run_v hr
  · rename_i s x
    obtain ⟨v, h', hx, rfl⟩ := pairH_inv e
    refine ⟨unsafeString_up hx, fun κ a w H T hfr => ?_⟩
    obtain ⟨s', x', hz, r1, r2⟩ := two (hargs κ a w H T)
    obtain ⟨v', w', hr, hH, hG, hV⟩ := unsafeString_ok (ty := o.type) H r1 r2 hx
    refine ⟨v', w', .inl ?_, κ, hH, hG, hV⟩
    rw [hres a w, hz]
    exact run_v hr
  · rename_i s x
    simp only [Option.bind_eq_bind] at e
    obtain ⟨mt, hmt, e2⟩ := Option.bind_eq_some_iff.1 e
    obtain ⟨h', hx, e3⟩ := Option.bind_eq_some_iff.1 e2
    simp only [Option.some.injEq] at e3; subst e3
    refine ⟨delete_up hx, fun κ a w H T hfr => ?_⟩
    obtain ⟨s', x', hz, r1, r2⟩ := two (hargs κ a w H T)
    obtain ⟨_, w', hr, hH, hG⟩ := delete_ok H r1 r2 o.type hx
    refine ⟨.tuple #[], w', .inl ?_, κ, hH, hG, vr_undef κ⟩
    rw [hres a w, hz]
    have hd : Builtin.delete_ c.argTypes o.type #[s', x'] = Builtin.delete_ #[mt] o.type #[s', x'] := by
      have h1 : c.argTypes[0]? = some mt := by rw [← Array.getElem?_toList]; exact hmt
      simp only [Builtin.delete_, h1, List.getElem?_toArray, List.getElem?_cons_zero]
    refine run_v ?_
    rw [hd]; exact hr
  · rename_i x
    simp only [Option.bind_eq_bind] at e
    obtain ⟨mt, hmt, e2⟩ := Option.bind_eq_some_iff.1 e
    obtain ⟨v, hx, rfl⟩ := valH_inv e2
    refine out_val fun κ a w H T => ?_
    obtain ⟨x', l1, hz, r1, r2⟩ := (hargs κ a w H T).cons_inv
    have hl1 := r2.nil_inv
    subst hl1
    have hz' : c.args.map a.eval = #[x'] := by apply Array.ext'; rw [hz]
    obtain ⟨v', hr, hV⟩ := lenB_ok (ty := o.type) H r1 c.argTypes (by rw [← Array.getElem?_toList]; exact hmt) hx
    refine ⟨v', ?_, hV⟩
    rw [hres a w, hz']
    exact run_v hr
  · split at e
    · rename_i hc2
      obtain ⟨v, hx, rfl⟩ := valH_inv e
      refine out_val fun κ a w H T => ?_
      obtain ⟨hr, hV⟩ := cval_run hx κ w
      refine ⟨v, ?_, hV⟩
      have := (hargs κ a w H T).closed hc2
      have hz' : c.args.map a.eval = args.toArray := by apply Array.ext'; rw [this]
      rw [hres a w, hz', ← tt]
      exact run_v hr
    · cases e
  · split at e
    · rename_i hc2
      obtain ⟨v, hx, rfl⟩ := valH_inv e
      refine out_val fun κ a w H T => ?_
      obtain ⟨hr, hV⟩ := cval_run hx κ w
      refine ⟨v, ?_, hV⟩
      have := (hargs κ a w H T).closed hc2
      have hz' : c.args.map a.eval = args.toArray := by apply Array.ext'; rw [this]
      rw [hres a w, hz', ← tt]
      exact run_v hr
    · cases e
  · cases e
/-- EACH OPERATION. -/
theorem aop_ok (hF : Fit P) (hX : XOk P ro X) {ts : TS} {h : Hp} {o : Oper} {out : Out} (e : aop P ro X ts h o = some out) : OutOk P ro ts h o out := by
  unfold aop at e
  split at e
  case h_1 x ho =>
    obtain ⟨v, hx, rfl⟩ := valH_inv e
    exact out_val fun κ a w H T => ⟨_, by simp only [execOp, ho, Sem.run_pure], evO_vr H.glob T hx⟩
  case h_2 x ho =>
    obtain ⟨v, hx, rfl⟩ := valH_inv e
    exact out_val fun κ a w H T => ⟨_, by simp only [execOp, ho, Sem.run_pure], evO_vr H.glob T hx⟩
  case h_3 c x y ho =>
    split at e
    · rename_i t hc
      obtain ⟨v, hx, rfl⟩ := valH_inv e
      refine out_val fun κ a w H T => ?_
      have rc := evO_vr H.glob T hc
      generalize hq : a.eval c = q at rc
      cases rc with
      | bool _ =>
        refine ⟨if t then a.eval x else a.eval y, ?_, ?_⟩
        · simp only [execOp, ho, hq, asBool, Sem.run_bind, Sem.run_pure, Result.andThen_ok]
        · cases t with
          | true => exact evO_vr H.glob T hx
          | false => exact evO_vr H.glob T hx
    · cases e
  case h_4 el ho =>
    split at e
    · rename_i z hz
      simp only [Option.some.injEq] at e; subst e
      refine ⟨up_new _ _, fun κ a w H T hf => ?_⟩
      obtain ⟨v', w', κ', hr, hH, hG, hV⟩ := alloc_ok (ro := ro) H (hf h.c (Nat.le_refl _) (by simp [Hp.new])) hz
      exact ⟨v', w', .inl (by simp only [execOp, ho]; exact run_v hr), κ', hH, hG, hV⟩
    · cases e
  case h_5 el x ho =>
    split at e
    · rename_i v s hx hs
      simp only [Option.some.injEq] at e; subst e
      refine ⟨up_new _ _, fun κ a w H T hf => ?_⟩
      obtain ⟨v', w', κ', hr, hH, hG, hV⟩ := box_ok (ro := ro) H (hf h.c (Nat.le_refl _) (by simp [Hp.new])) (evO_vr H.glob T hx) hs
      exact ⟨v', w', .inl (by simp only [execOp, ho]; exact run_v hr), κ', hH, hG, hV⟩
    · cases e
  case h_6 t ps ho =>
    split at e
    · rename_i l hl
      obtain ⟨v, hx, rfl⟩ := valH_inv e
      refine out_val fun κ a w H T => ?_
      obtain ⟨v', hr, hV⟩ := build_ok (w := w) (parts_pr H.glob T hl) hx
      refine ⟨v', ?_, hV⟩
      simp only [execOp, ho]
      refine run_v ?_
      have : (ps.map fun (i, x) => (i, a.eval x)) = (ps.toList.map fun (i, x) => (i, a.eval x)).toArray := by apply Array.ext'; simp
      rw [this]; exact hr
    · cases e
  case h_7 t n ps ho =>
    split at e
    · rename_i l hl
      obtain ⟨v, h', hx, rfl⟩ := pairH_inv e
      refine ⟨buildSlice_up hx, fun κ a w H T hf => ?_⟩
      obtain ⟨hc, hgo⟩ := buildSlice_ok (ro := ro) H (parts_pr H.glob T hl) hx
      obtain ⟨v', w', κ', hr, hH, hG, hV⟩ := hgo (hf h.c (Nat.le_refl _) (by omega))
      refine ⟨v', w', .inl ?_, κ', hH, hG, hV⟩
      simp only [execOp, ho]
      refine run_v ?_
      have : (ps.map fun (i, x) => (i, a.eval x)) = (ps.toList.map fun (i, x) => (i, a.eval x)).toArray := by apply Array.ext'; simp
      rw [this]; exact hr
    · cases e
  case h_8 t x ho =>
    split at e
    · rename_i v hv
      obtain ⟨v, hx, rfl⟩ := valH_inv e
      refine out_val fun κ a w H T => ?_
      obtain ⟨v', hr, hV⟩ := aload_ok H (evO_vr H.glob T hv) hx
      exact ⟨v', by simp only [execOp, ho]; exact run_v hr, hV⟩
    · cases e
  case h_9 t x y ho =>
    split at e
    · rename_i v u hv hu
      obtain ⟨h', hx, rfl⟩ := skipH_inv e
      refine ⟨store_up hx, fun κ a w H T hf => ?_⟩
      obtain ⟨_, w', hr, hH, hG⟩ := astore_ok H (evO_vr H.glob T hv) (evO_vr H.glob T hu) hx
      exact ⟨undef, w', .inr ⟨rfl, by simp only [execOp, ho]; exact run_u hr⟩, κ, hH, hG, vr_undef κ⟩
    · cases e
  case h_10 x ho =>
    split at e
    · rename_i v hv
      obtain ⟨v, hx, rfl⟩ := valH_inv e
      exact out_val fun κ a w H T => nilCheck_ok (evO_vr H.glob T hv) hx o x a.eval ho rfl
    · cases e
  case h_11 op t x y yt ho =>
    split at e
    · rename_i v u hv hu
      obtain ⟨v, hx, rfl⟩ := valH_inv e
      refine out_val fun κ a w H T => ?_
      obtain ⟨v', hr, hV⟩ := bin_ok H (evO_vr H.glob T hv) (evO_vr H.glob T hu) hx
      exact ⟨v', by simp only [execOp, ho]; exact run_v hr, hV⟩
    · cases e
  case h_12 op t x ho =>
    split at e
    · rename_i v hv
      split at e
      · rename_i hc
        obtain ⟨u, hx, rfl⟩ := valH_inv e
        refine out_val fun κ a w H T => ?_
        obtain ⟨hr, hV⟩ := cval_run hx κ w
        refine ⟨u, ?_, hV⟩
        simp only [execOp, ho, (evO_vr H.glob T hv).closed hc]
        exact run_v hr
      · cases e
    · cases e
  case h_13 s d x ho =>
    split at e
    · rename_i v hv
      obtain ⟨v, h', hx, rfl⟩ := pairH_inv e
      refine ⟨convert_up hx, fun κ a w H T hf => ?_⟩
      obtain ⟨v', w', κ', hr, hH, hG, hV⟩ := (convert_ok (ro := ro) H (evO_vr H.glob T hv) hx).2 hf
      exact ⟨v', w', .inl (by simp only [execOp, ho]; exact run_v hr), κ', hH, hG, hV⟩
    · cases e
  case h_14 t x ho =>
    split at e
    · rename_i v hv
      obtain ⟨v, hx, rfl⟩ := valH_inv e
      refine out_val fun κ a w H T => ?_
      obtain ⟨v', hr, hV⟩ := arrayAt_ok (w := w) (evO_vr H.glob T hv) hx
      exact ⟨v', by simp only [execOp, ho]; exact run_v hr, hV⟩
    · cases e
  case h_15 t x ho =>
    split at e
    · cases e
    · rename_i v d hne hv hd
      simp only [Option.some.injEq] at e; subst e
      refine out_val fun κ a w H T => ?_
      refine ⟨.iface t (a.eval x), ?_, .iface _ _ _ (evO_vr H.glob T hv)⟩
      simp only [execOp, ho]
      refine run_v ?_
      simp only [Instr.makeInterface, Sem.run_bind, run_underlying hd, Result.andThen_ok]
      cases d <;> first | rfl | exact (hne _ rfl).elim
    · cases e
  case h_16 fn first captured ho =>
    split at e
    · rename_i l1 l2 h1 h2
      split at e
      · rename_i hfn
        simp only [Option.some.injEq] at e; subst e
        refine out_val fun κ a w H T => ?_
        have r1 := evAll_lr H.glob T h1
        have r2 := evAll_lr H.glob T h2
        cases fn with
        | func f =>
          refine ⟨.func (.func f) (first.map a.eval) (captured.map a.eval), by simp [execOp, ho, Instr.makeFunc], ?_⟩
          refine .func _ _ _ _ _ ?_ (fun i v v' x y => ?_) ?_ (fun i v v' x y => ?_)
          · have := r1.1; simpa using this
          · refine r1.2 i v v' (by simpa using x) ?_
            rw [← Array.getElem?_toList, Array.toList_map] at y; exact y
          · have := r2.1; simpa using this
          · refine r2.2 i v v' (by simpa using x) ?_
            rw [← Array.getElem?_toList, Array.toList_map] at y; exact y
        | _ => simp [fnOk] at hfn
      · cases e
    · cases e
  case h_17 t r ho =>
    have key : ∀ (hr : ∀ κ (a : Act) w, HR P κ h.m w → TR κ ts a.tmps → (Instr.makeMap t (r.map a.eval)).run P w = .ok (.map (some w.heap.size)) { w with heap := w.heap.push (.map #[] 0) }),
        OutOk P ro ts h o (.val (.map (some h.c)) (h.new (.map [] 0))) := by
      intro hr
      refine ⟨up_new _ _, fun κ a w H T hf => ?_⟩
      obtain ⟨x, y⟩ := go_new (ro := ro) (n := 0) (s := 0) (w' := { w with heap := w.heap.push (.map #[] 0) }) H (hf h.c (Nat.le_refl _) (by simp [Hp.new])) rfl rfl rfl rfl (.map [] 0 #[] ⟨rfl, fun i e e' q => by simp at q⟩)
      refine ⟨_, _, .inl (by simp only [execOp, ho]; exact run_v (hr κ a w H T)), _, x, y, ?_⟩
      have := VR.map (κ := κ.add h.c w.heap.size 0 0) h.c (.inr rfl)
      simp only [K.add, if_true] at this
      exact this
    split at e
    · rename_i kt et hd hr
      simp only [Option.some.injEq] at e; subst e
      refine key fun κ a w H T => ?_
      have ro := opt_r H.glob T hr
      cases hq : r.map a.eval with
      | none => simp [Instr.makeMap]
      | some q => rw [hq] at ro; exact ro.elim
    · rename_i kt et k n hd hr
      simp only [Option.some.injEq] at e; subst e
      refine key fun κ a w H T => ?_
      have ro := opt_r H.glob T hr
      cases hq : r.map a.eval with
      | none => rw [hq] at ro; exact ro.elim
      | some q =>
        rw [hq] at ro
        cases ro with
        | int => simp [Instr.makeMap, run_underlying hd, asInt, asIntOf]
    · cases e
  case h_18 t l c ho =>
    split at e
    · rename_i v u hv hu
      obtain ⟨v, h', hx, rfl⟩ := pairH_inv e
      refine ⟨makeSlice_up hx, fun κ a w H T hf => ?_⟩
      obtain ⟨hc, hgo⟩ := makeSlice_ok (ro := ro) H (evO_vr H.glob T hv) (evO_vr H.glob T hu) hx
      obtain ⟨v', w', κ', hr, hH, hG, hV⟩ := hgo (hf h.c (Nat.le_refl _) (by omega))
      exact ⟨v', w', .inl (by simp only [execOp, ho]; exact run_v hr), κ', hH, hG, hV⟩
    · cases e
  case h_19 t x lo hi mx ho =>
    split at e
    · rename_i v1 v2 v3 v4 h1 h2 h3 h4
      obtain ⟨v, hx, rfl⟩ := valH_inv e
      refine out_val fun κ a w H T => ?_
      obtain ⟨v', hr, hV⟩ := aslice_ok H (evO_vr H.glob T h1) (opt_r H.glob T h2) (opt_r H.glob T h3) (opt_r H.glob T h4) hx
      exact ⟨v', by simp only [execOp, ho]; exact run_v hr, hV⟩
    · cases e
  case h_20 t x f ho =>
    split at e
    · rename_i v hv
      obtain ⟨v, hx, rfl⟩ := valH_inv e
      refine out_val fun κ a w H T => ?_
      obtain ⟨v', hr, hV⟩ := fieldAddr_ok (w := w) (evO_vr H.glob T hv) hx
      exact ⟨v', by simp only [execOp, ho]; exact run_v hr, hV⟩
    · cases e
  case h_21 t x f ho =>
    split at e
    · rename_i v hv
      obtain ⟨v, hx, rfl⟩ := valH_inv e
      refine out_val fun κ a w H T => ?_
      obtain ⟨v', hr, hV⟩ := field_ok (w := w) (evO_vr H.glob T hv) hx
      exact ⟨v', by simp only [execOp, ho]; exact run_v hr, hV⟩
    · cases e
  case h_22 t x i ho =>
    split at e
    · rename_i v u hv hu
      obtain ⟨v, hx, rfl⟩ := valH_inv e
      refine out_val fun κ a w H T => ?_
      obtain ⟨v', hr, hV⟩ := indexAddr_ok (w := w) (evO_vr H.glob T hv) (evO_vr H.glob T hu) hx
      exact ⟨v', by simp only [execOp, ho]; exact run_v hr, hV⟩
    · cases e
  case h_23 t x i ho =>
    split at e
    · rename_i v u hv hu
      obtain ⟨v, hx, rfl⟩ := valH_inv e
      refine out_val fun κ a w H T => ?_
      obtain ⟨v', hr, hV⟩ := index_ok (w := w) (evO_vr H.glob T hv) (evO_vr H.glob T hu) hx
      exact ⟨v', by simp only [execOp, ho]; exact run_v hr, hV⟩
    · cases e
  case h_24 t m k ok ho =>
    split at e
    · rename_i v u hv hu
      obtain ⟨v, hx, rfl⟩ := valH_inv e
      refine out_val fun κ a w H T => ?_
      obtain ⟨v', hr, hV⟩ := lookup_ok H (evO_vr H.glob T hv) (evO_vr H.glob T hu) hx
      exact ⟨v', by simp only [execOp, ho]; exact run_v hr, hV⟩
    · cases e
  case h_25 t m k x ho | h_26 t m k x ho =>
    split at e
    · rename_i v u y hv hu hy
      obtain ⟨h', hx, rfl⟩ := skipH_inv e
      refine ⟨update_up hx, fun κ a w H T hf => ?_⟩
      obtain ⟨_, w', hr, hH, hG⟩ := update_ok H (evO_vr H.glob T hv) (evO_vr H.glob T hu) (evO_vr H.glob T hy) hx
      exact ⟨undef, w', .inr ⟨rfl, by simp only [execOp, ho]; exact run_u hr⟩, κ, hH, hG, vr_undef κ⟩
    · cases e
  case h_27 t x ho =>
    split at e
    · rename_i v hv
      obtain ⟨v, h', hx, rfl⟩ := pairH_inv e
      refine ⟨range_up hx, fun κ a w H T hf => ?_⟩
      obtain ⟨hc, hgo⟩ := range_ok (ro := ro) H (evO_vr H.glob T hv) hx
      obtain ⟨v', w', κ', hr, hH, hG, hV⟩ := hgo (hf h.c (Nat.le_refl _) (by omega))
      exact ⟨v', w', .inl (by simp only [execOp, ho]; exact run_v hr), κ', hH, hG, hV⟩
    · cases e
  case h_28 it s ho =>
    split at e
    · rename_i v hv
      obtain ⟨v, h', hx, rfl⟩ := pairH_inv e
      refine ⟨next_up hx, fun κ a w H T hf => ?_⟩
      obtain ⟨_, v', w', hr, hH, hG, hV⟩ := next_ok H o.type (evO_vr H.glob T hv) hx
      exact ⟨v', w', .inl (by simp only [execOp, ho]; exact run_v hr), κ, hH, hG, hV⟩
    · cases e
  case h_29 it ho =>
    split at e
    · rename_i v hv
      obtain ⟨v, hx, rfl⟩ := valH_inv e
      refine out_val fun κ a w H T => ?_
      obtain ⟨v', hr, hV⟩ := entry_ok H (evO_vr H.glob T hv) hx
      exact ⟨v', by simp only [execOp, ho]; exact run_v hr, hV⟩
    · cases e
  case h_30 x xt at_ ok ho =>
    split at e
    · rename_i v hv
      obtain ⟨v, hx, rfl⟩ := valH_inv e
      refine out_val fun κ a w H T => ?_
      obtain ⟨v', hr, hV⟩ := assert_ok (w := w) (xt := xt) (evO_vr H.glob T hv) hx
      exact ⟨v', by simp only [execOp, ho]; exact run_v hr, hV⟩
    · cases e
  case h_31 t i ho =>
    split at e
    · rename_i vs hv
      obtain ⟨v, hx, rfl⟩ := valH_inv e
      refine out_val fun κ a w H T => ?_
      have r := evO_vr H.glob T hv
      generalize hq : a.eval t = q at r
      cases r with
      | tuple _ xs' hsz hh =>
        obtain ⟨v', y, hV⟩ := (LR.of_arr hsz hh).get (i := i) (by rw [Array.getElem?_toList]; exact hx)
        rw [Array.getElem?_toList] at y
        refine ⟨v', ?_, hV⟩
        simp only [execOp, ho, hq]
        exact run_v (by simp [Instr.extract, y])
    · cases e
  case h_32 c ho =>
    split at e
    · rename_i b hc
      split at e
      · rename_i args ha
        exact builtin_ok ho hc ha e
      · cases e
    · rename_i f hc
      split at e
      · rename_i f args hf ha
        exact callV_ok hF hX ho hc hf ha e
      · cases e
    · cases e
  case h_33 => cases e
end
end Ex
end Go.Proofs.YtgbladpoglhleaaGreatDoor
