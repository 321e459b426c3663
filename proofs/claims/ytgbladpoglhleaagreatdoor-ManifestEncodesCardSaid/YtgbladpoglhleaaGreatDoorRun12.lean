/- The evaluator's calls, rounds and rows of operations beside the machine's. No condition. -/
import Derived.Test.YtgbladpoglhleaaGreatDoorRun11
namespace Go.Proofs.YtgbladpoglhleaaGreatDoor
namespace Ex
/-- A fence that lets everything in; in a round or not. -/
def FW (r : Option Nat) : Fence := { Fence.wide with round := r }
theorem FW_fn (r : Option Nat) (f : FuncId) : (FW r).fn f := trivial
theorem FW_depth (r : Option Nat) {n : Nat} : (FW r).depth.isSome = true → 1 ≤ n := fun h => by cases h
def toExit : Ex → Exit
  | .normal => .normal
  | .exit id => .exit id
  | .ret => .ret
def RR (κ : K) : Option Nat → Option Nat → Prop
  | none, none => True
  | some l, some l' => κ.dom l ∧ l' = κ.p l
  | _, _ => False
theorem RR.ext {κ κ' : K} (x : Ext κ κ') {r r' : Option Nat} (h : RR κ r r') : RR κ' r r' := by
  cases r <;> cases r' <;> first | exact h | exact ⟨x.dom _ h.1, by rw [x.p _ h.1]; exact h.2⟩
def DR (κ : K) (dl : List Nat) (ds : List Deferred) : Prop := (∀ r ∈ dl, κ.dom r) ∧ ds = dl.map fun r => { target := .collected (κ.p r), args := #[] }
theorem DR.ext {κ κ' : K} (x : Ext κ κ') {dl : List Nat} {ds : List Deferred} (h : DR κ dl ds) : DR κ' dl ds :=
  ⟨fun r hr => x.dom r (h.1 r hr), by rw [h.2]; exact List.map_congr_left fun r hr => by rw [x.p r (h.1 r hr)]⟩
section
variable (P : Program) (ro : Nat)
/-- What is asked of an evaluation of code. -/
def EvOk (ev : Option Nat → Nat → Code → St → Option (Ex × St)) : Prop := ∀ rnd nt code st e st', ev rnd nt code st = some (e, st') → Up st.h st'.h ∧
  ∀ κ rr (a : Act) w (Q : Exit → Act → World → Prop) m, WF st.h → HR P κ st.h.m w → TR κ st.ts a.tmps → a.tmps.size = nt → DR κ st.dl a.defers → RR κ rnd rr → Free κ st.h.c st'.h.c →
    (∀ κ' (a' : Act) w', HR P κ' st'.h.m w' → Gone ro κ κ' st.h st'.h w w' → TR κ' st'.ts a'.tmps → a'.tmps.size = nt → DR κ' st'.dl a'.defers → Q (toExit e) a' w') → code.wpIn (FW rr) m P Q a w
/-- .. and of what is known of functions. -/
def COk (C : FuncId → List Value → Hp → Option (Value × Hp)) : Prop := ∀ (f : Nat) args h v h', C f args h = some (v, h') → Up h h' ∧
  ∀ κ w (args' : Array Value), HR P κ h.m w → LR κ args args'.toList → Free κ h.c h'.c → Calls P f args' w fun e w' => ∃ v', e = .returned v' ∧ Comes' P ro κ h w v h' v' w'
end
section
variable {P : Program} {ro : Nat} {X C : Hook} {ev : Option Nat → Nat → Code → St → Option (Ex × St)} {κ : K}
theorem TR.put {ts ts' : TS} {a : Act} {nt : Nat} {d : Option Tmp} {v v' : Value} (T : TR κ ts a.tmps) (hn : a.tmps.size = nt) (r : VR κ v v') (e : putD nt ts d v = some ts') :
    TR κ ts' (a.put d v').tmps ∧ (a.put d v').tmps.size = nt ∧ (a.put d v').defers = a.defers := by
  cases d with
  | none => simp only [putD, Option.some.injEq] at e; subst e; exact ⟨T, hn, rfl⟩
  | some d =>
    simp only [putD] at e
    by_cases hd : d + 1 ≤ nt
    · rw [bleT hd] at e
      simp only [cond_true, Option.some.injEq] at e; subst e
      refine ⟨fun t u hu => ?_, by simp [Act.put, hn], rfl⟩
      rw [Tr.get_put] at hu
      simp only [Act.put]
      by_cases ht : t = d
      · subst ht
        rw [if_pos rfl] at hu; cases hu
        have hlt : t < a.tmps.size := by rw [hn]; exact hd
        simp [Array.getD, hlt, r]
      · rw [if_neg ht] at hu
        have := T t u hu
        have e2 : (a.tmps.setIfInBounds d v').getD t undef = a.tmps.getD t undef := by
          simp only [Array.getD_eq_getD_getElem?]
          rw [Array.getElem?_setIfInBounds_ne (Ne.symm ht)]
        rw [e2]; exact this
    · rw [bleF hd] at e; cases e
theorem guard_ok {ops : Array Oper} {ts : TS} {o : Oper} {a : Act} {b : Bool} (T : TR κ ts a.tmps) (e : guardB ops.toList ts o = some b) : Region.wanted o (yielded ops a.tmps) = b := by
  unfold guardB at e
  unfold Region.wanted
  split at e
  · rename_i hg; rw [hg]; simpa using e
  · rename_i j want hg
    rw [hg]
    simp only
    unfold yielded
    rw [Array.getElem?_toList] at e
    split at e
    · rename_i hd
      simp only [Option.some.injEq] at e; subst e
      rw [hd]; rfl
    · rename_i d hd
      rw [hd]
      simp only [Option.bind_some]
      split at e
      · rename_i b' hb
        simp only [Option.some.injEq] at e; subst e
        have r := T d _ hb
        generalize hq : a.tmps.getD d undef = q at r
        cases r with
        | bool _ =>
          have : a.tmps[d]? = some (.bool b') := by
            simp only [Array.getD_eq_getD_getElem?] at hq
            cases hx : a.tmps[d]? with
            | none => rw [hx] at hq; simp [undef] at hq
            | some x => rw [hx] at hq; simp at hq; rw [hq]
          rw [this]; rfl
      · rename_i vs hb
        have r := T d _ hb
        generalize hq : a.tmps.getD d undef = q at r
        cases r with
        | tuple _ xs' hx _ =>
          have hbf : b = false := by
            by_cases h0 : vs.size = 0
            · rw [beqT h0] at e; simpa using e.symm
            · rw [beqF h0] at e; cases e
          subst hbf
          simp only [Array.getD_eq_getD_getElem?] at hq
          cases hy : a.tmps[d]? with
          | none => rfl
          | some x => rw [hy] at hq; simp at hq; subst hq; rfl
      · cases e
theorem setParams_ok {nt : Nat} : ∀ {ps : List Tmp} {vs : List Value} {ts ts' : TS} {tm : Array Value} {vs' : List Value}, setParams nt ps vs ts = some ts' → TR κ ts tm → tm.size = nt → LR κ vs vs' →
    ps.length = vs'.length ∧ TR κ ts' ((ps.zip vs').foldl (fun tm p => tm.setIfInBounds p.1 p.2) tm) ∧ ((ps.zip vs').foldl (fun tm p => tm.setIfInBounds p.1 p.2) tm).size = nt
  | [], [], ts, ts', tm, vs', e, T, hn, r => by
    simp only [setParams, Option.some.injEq] at e; subst e
    rw [r.nil_inv]; exact ⟨rfl, T, hn⟩
  | [], v :: vs, ts, ts', tm, vs', e, T, hn, r => by simp [setParams] at e
  | t :: ps, [], ts, ts', tm, vs', e, T, hn, r => by simp [setParams] at e
  | t :: ps, v :: vs, ts, ts', tm, vs', e, T, hn, r => by
    simp only [setParams] at e
    split at e
    · rename_i ts2 h2
      obtain ⟨y, ys, rfl, r1, r2⟩ := r.cons_inv
      obtain ⟨T2, hn2, _⟩ := TR.put (a := { tmps := tm, defers := [] }) T hn r1 h2
      obtain ⟨a1, a2, a3⟩ := setParams_ok e T2 hn2 r2
      exact ⟨by simp [a1], a2, a3⟩
    · cases e
theorem putArgs_get : ∀ (vs : List Value) (i : Nat) (ts : TS) (t : Nat), (putArgs i vs ts).get t = if i ≤ t ∧ t < i + vs.length then vs[t - i]? else ts.get t
  | [], i, ts, t => by simp [putArgs]; omega
  | v :: vs, i, ts, t => by
    rw [putArgs, putArgs_get vs (i + 1) _ t, Tr.get_put]
    by_cases h1 : i + 1 ≤ t ∧ t < i + 1 + vs.length
    · rw [if_pos h1, if_pos (by simp; omega), show t - i = (t - (i + 1)) + 1 from by omega, List.getElem?_cons_succ]
    · rw [if_neg h1]
      by_cases h2 : t = i
      · subst h2; simp
      · rw [if_neg h2, if_neg (by simp; omega)]
theorem putArgs_ok {vs : List Value} {args' : Array Value} {nt : Nat} (r : LR κ vs args'.toList) (hle : vs.length ≤ nt) :
    TR κ (putArgs 0 vs .leaf) (args' ++ Array.replicate (nt - args'.size) undef) ∧ (args' ++ Array.replicate (nt - args'.size) undef).size = nt := by
  have hs : args'.size = vs.length := by have := r.1; simpa using this.symm
  refine ⟨fun t v hv => ?_, by simp; omega⟩
  rw [putArgs_get] at hv
  split at hv
  · rename_i hc
    simp only [Nat.sub_zero] at hv
    obtain ⟨v', a, b⟩ := r.get hv
    rw [Array.getElem?_toList] at a
    have : (args' ++ Array.replicate (nt - args'.size) undef).getD t undef = v' := by
      simp only [Array.getD_eq_getD_getElem?]
      rw [Array.getElem?_append_left (by omega), a]; rfl
    rw [this]; exact b
  · simp [Tr.get] at hv
theorem res_ok {ts : TS} {h : Hp} {tm : Array Value} {w : World} (H : HR P κ h.m w) (T : TR κ ts tm) : ∀ {rs : List ResultVar} {vs : List Value}, resOf P ts h rs = some vs →
    ∃ vs', LR κ vs vs' ∧ (rs.mapM (fun | .tmp t => pure (tm.getD t undef) | .cell a t => do loadVar t (← asAddr (tm.getD a undef)) : ResultVar → Sem Value)).run P w = .ok vs' w
  | [], vs, e => by simp only [resOf, Option.some.injEq] at e; subst e; exact ⟨[], LR.nil κ, rfl⟩
  | .tmp t :: rs, vs, e => by
    simp only [resOf, Option.bind_eq_bind] at e
    obtain ⟨v, hv, e⟩ := Option.bind_eq_some_iff.1 e
    obtain ⟨ws, hw, e⟩ := Option.bind_eq_some_iff.1 e
    simp only [Option.some.injEq] at e; subst e
    obtain ⟨vs', r, hr⟩ := res_ok H T hw
    exact ⟨_, LR.cons (T t v hv) r, by simp only [List.mapM_cons, Sem.run_bind, Sem.run_pure, Result.andThen_ok, hr]⟩
  | .cell a t :: rs, vs, e => by
    simp only [resOf, Option.bind_eq_bind] at e
    obtain ⟨v, hv, e⟩ := Option.bind_eq_some_iff.1 e
    obtain ⟨ws, hw, e⟩ := Option.bind_eq_some_iff.1 e
    simp only [Option.some.injEq] at e; subst e
    obtain ⟨p, hp, hl⟩ := Option.bind_eq_some_iff.1 hv
    obtain ⟨vs', r, hr⟩ := res_ok H T hw
    have rp := T a p hp
    obtain ⟨v', hv', rv⟩ := aload_ok H rp hl
    refine ⟨_, LR.cons rv r, ?_⟩
    have : (do loadVar t (← asAddr (tm.getD a undef)) : Sem Value).run P w = .ok v' w := by
      unfold aload at hl
      generalize hq : tm.getD a undef = q at rp hv'
      cases rp with
      | ptr b off hd => simpa [asAddr, Instr.loadAt, Instr.sureAddr] using hv'
      | _ => simp at hl
    simp only [List.mapM_cons, Sem.run_bind, Sem.run_pure]
    simp only [Sem.run_bind] at this
    rw [this]
    simp only [Result.andThen_ok, hr]
theorem one_ok {vs : List Value} {vs' : List Value} (r : LR κ vs vs') : VR κ (one vs) (if h : vs'.toArray.size = 1 then vs'.toArray[0] else .tuple vs'.toArray) := by
  match vs, r with
  | [], r => rw [r.nil_inv]; exact (LR.nil κ).tuple
  | [v], r =>
    obtain ⟨y, ys, rfl, h1, h2⟩ := r.cons_inv
    rw [h2.nil_inv]; exact h1
  | v :: u :: vs, r =>
    obtain ⟨y, ys, rfl, h1, h2⟩ := r.cons_inv
    obtain ⟨z, zs, rfl, h3, h4⟩ := h2.cons_inv
    have hne : ¬ (y :: z :: zs).toArray.size = 1 := by simp
    rw [dif_neg hne]
    exact (LR.cons h1 (LR.cons h3 h4)).tuple
end
end Ex
end Go.Proofs.YtgbladpoglhleaaGreatDoor
