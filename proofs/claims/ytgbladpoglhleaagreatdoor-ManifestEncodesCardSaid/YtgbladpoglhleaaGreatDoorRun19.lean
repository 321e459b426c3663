/- THE EVALUATOR IS SOUND: what it says of a call holds of the machine. No condition. -/
import Derived.Test.YtgbladpoglhleaaGreatDoorRun18
namespace Go.Proofs.YtgbladpoglhleaaGreatDoor
namespace Ex
section
variable {P : Program} {ro : Nat} {X C : Hook} {F : Fence} {n : Nat}
/-- A loop, from behind its first step. -/
def LoopWp (F : Fence) (n : Nat) (P : Program) (c : Code) (Q : Exit → Act → World → Prop) (a : Act) (w : World) : Prop :=
  ∀ (b : Frame) (k : List Item) (cs : List Frame), b.roundOf = F.round → F.fn b.fn → F.room (cs.length + 1 + n) →
    ∃ e a' w', Q e a' w' ∧ ArrivesIn (Machine.fenced P F) P (lone (b.atR a (.code c :: .inLoop c :: k)) cs w) b k cs e a' w'
theorem wp_of_loop {c : Code} {Q : Exit → Act → World → Prop} {a : Act} {w : World} (h : LoopWp F n P c Q a w) : (Code.loop c).wpIn F n P Q a w := by
  intro b k cs hro hb hr
  obtain ⟨e, a', w', hq, harr⟩ := h b k cs hro hb hr
  exact ⟨e, a', w', hq, .of_steps (.one (fenced_calm hb hr rfl) stepR_loop) harr⟩
theorem loop_step {c : Code} {Q : Exit → Act → World → Prop} {a : Act} {w : World} (h : c.wpIn F n P (Exit.then (LoopWp F n P c Q) Q) a w) : LoopWp F n P c Q a w := by
  intro b k cs hro hb hr
  obtain ⟨e, a₁, w₁, hq, harr⟩ := h b (.inLoop c :: k) cs hro hb hr
  cases e with
  | normal =>
    obtain ⟨e₂, a₂, w₂, hq₂, harr₂⟩ := hq b k cs hro hb hr
    exact ⟨e₂, a₂, w₂, hq₂, .of_steps (StepsIn.trans harr (.one (fenced_calm hb hr rfl) stepR_inLoop)) harr₂⟩
  | exit id => exact ⟨_, a₁, w₁, hq, .pass (x := .inLoop c) rfl (fun _ _ => .inl (by simp)) harr⟩
  | goto l => exact ⟨_, a₁, w₁, hq, .pass (x := .inLoop c) rfl (fun _ _ => .inl (by simp)) harr⟩
  | ret => exact ⟨_, a₁, w₁, hq, .pass (x := .inLoop c) rfl (fun _ _ => .inl (by simp)) harr⟩
  | panic ch => exact ⟨_, a₁, w₁, hq, .pass (x := .inLoop c) rfl (fun _ _ => .inl (by simp)) harr⟩
  | outgrown => exact ⟨_, a₁, w₁, hq, .pass (x := .inLoop c) rfl (fun _ _ => .inl (by simp)) harr⟩
/-- The same of loops. -/
def LpOk (P : Program) (ro : Nat) (ev : Option Nat → Nat → Code → St → Option (Ex × St)) : Prop := ∀ rnd nt code st e st', ev rnd nt (.loop code) st = some (e, st') →
  ∀ κ rr (a : Act) w (Q : Exit → Act → World → Prop) m, WF st.h → HR P κ st.h.m w → TR κ st.ts a.tmps → a.tmps.size = nt → DR κ st.dl a.defers → RR κ rnd rr → Free κ st.h.c st'.h.c →
    (∀ κ' (a' : Act) w', HR P κ' st'.h.m w' → Gone ro κ κ' st.h st'.h w w' → TR κ' st'.ts a'.tmps → a'.tmps.size = nt → DR κ' st'.dl a'.defers → Q (toExit e) a' w') → LoopWp (FW rr) m P code Q a w
theorem enterLoop_inner {w : World} {l : Nat} {r : Loop} (h : w.heap[l]? = some (.loop r)) (fn : FuncId) (tmps : Array Value) (ps : Array Tmp) (assign body : Code) :
    (Instr.enterLoop fn tmps ps assign body (some l)).run P w = .ok (w.heap.size, []) (w.alloc (.loop { state := .ready, pending := none, fn, tmps, params := ps, assign, body, defers := r.defers })) := by
  unfold Instr.enterLoop
  simp only [Sem.run_bind, run_getLoop h, Result.andThen_ok, Sem.run_pure, run_newObj, World.alloc_eq]
theorem hasBody_inv {g : Nat} (h : hasBody P g = true) : ∃ fn code, P.funcs[g]? = some fn ∧ fn.body = some code := by
  unfold hasBody at h
  split at h
  · rename_i fn hfn
    cases hb : fn.body with
    | none => rw [hb] at h; cases h
    | some c => exact ⟨fn, c, hfn, hb⟩
  · cases h
/-- The statement that ranges over a function, its record laid. -/
theorem range_ok' (hF : Fit P) (hC : COk P ro C) {ev : Option Nat → Nat → Code → St → Option (Ex × St)} (hE : EvOk P ro ev) {nt : Nat} {fo : Operand} {params : Array Tmp} {assign body : Code} {ts : TS} {g : Nat} {first captured : Array Value} {h1 h3 h4 : Hp} {dfr : Nat} {v : Value}
    (hf : evO P ts fo = some (.func (.func g) first captured)) (hb : hasBody P g = true) (hcall : acall P ro ev C g (first.toList ++ [.func (.yield h1.c) #[] #[]] ++ captured.toList) (h1.new (.loop .ready none nt ts params.toList assign body dfr)) = some (v, h3))
    {stt : LoopState} {pe : Option Code} {nt1 : Nat} {tsl : TS} {ps1 : List Tmp} {as1 bd1 : Code} {df1 : Nat} (hob : h3.m.get h1.c = some (.loop stt pe nt1 tsl ps1 as1 bd1 df1)) (hst : stt ≠ .busy)
    (hu : h3.upd ro h1.c (some (.loop .exhausted pe nt1 tsl ps1 as1 bd1 df1)) = some h4) : Up h1 h4 ∧
    ∀ κ rr (a : Act) w (Q : Exit → Act → World → Prop) m mark, WF h1 → HR P κ h1.m w → TR κ ts a.tmps → a.tmps.size = nt → κ.dom dfr → Free κ h1.c h4.c →
      (∀ κ' w', HR P κ' h4.m w' → Gone ro κ κ' h1 h4 w w' → match pe with
        | none => Q .normal { a with defers := mark ++ a.defers } w'
        | some c => c.wpIn (FW rr) m P Q { a with defers := mark ++ a.defers } w') →
      ∀ fn, ∃ (d : Deferred) (f : FuncId) (args : Array Value),
        (resolve a.eval (rangeCall fo w.heap.size) 0).run P (w.alloc (.loop { state := .ready, pending := none, fn, tmps := a.tmps, params, assign, body, defers := κ.p dfr })) = .ok d (w.alloc (.loop { state := .ready, pending := none, fn, tmps := a.tmps, params, assign, body, defers := κ.p dfr })) ∧
        (invoke d.target d.args).run P (w.alloc (.loop { state := .ready, pending := none, fn, tmps := a.tmps, params, assign, body, defers := κ.p dfr })) = .ok (.enter f args) (w.alloc (.loop { state := .ready, pending := none, fn, tmps := a.tmps, params, assign, body, defers := κ.p dfr })) ∧
        CallsIn (FW rr) (m - 1) P f args (w.alloc (.loop { state := .ready, pending := none, fn, tmps := a.tmps, params, assign, body, defers := κ.p dfr })) (rangePost (FW rr) m P w.heap.size Q { a with defers := mark ++ a.defers }) := by
  obtain ⟨up, hk⟩ := call_ok hE hC hcall
  have hup : Up h1 h4 := ((up_new h1 _).trans up).trans (up_upd hob hu)
  refine ⟨hup, fun κ rr a w Q m mark W H T hn hd hfr kk fn => ?_⟩
  obtain ⟨fnd, code, hfn, hbody⟩ := hasBody_inv hb
  have c4 := upd_c hu
  have hle : h1.c + 1 ≤ h3.c := up.1
  have hfree1 : ¬κ.dom h1.c := hfr h1.c (Nat.le_refl _) (by omega)
  have hx := Ext.add w.heap.size 0 0 hfree1
  generalize hrec : ({ state := .ready, pending := none, fn, tmps := a.tmps, params, assign, body, defers := κ.p dfr } : Loop) = rec
  have hor : OR P (κ.add h1.c w.heap.size 0 0) h1.c (.loop .ready none nt ts params.toList assign body dfr) (.loop rec) := by
    subst hrec
    exact .loop { state := .ready, pending := none, fn, tmps := a.tmps, params, assign, body, defers := κ.p dfr } nt ts params.toList dfr rfl hn (T.ext hx) (hx.dom _ hd) (hx.p _ hd).symm
  obtain ⟨H2, G2⟩ := go_new (ro := ro) (w' := w.alloc (.loop rec)) H hfree1 rfl rfl rfl rfl hor
  have r := evO_vr H.glob T hf
  generalize hq : a.eval fo = q at r
  have hpl : (κ.add h1.c w.heap.size 0 0).p h1.c = w.heap.size := by simp [K.add]
  cases r with
  | func _ _ _ xs' ys' hsx h1x hsy h2y =>
    have hargs : LR (κ.add h1.c w.heap.size 0 0) (first.toList ++ [.func (.yield h1.c) #[] #[]] ++ captured.toList) ((xs' ++ #[Value.func (.yield w.heap.size) #[] #[]]) ++ ys').toList := by
      rw [Array.toList_append, Array.toList_append]
      have hy := VR.yield (κ := κ.add h1.c w.heap.size 0 0) h1.c (.inr rfl)
      rw [hpl] at hy
      exact (((LR.of_arr hsx h1x).ext hx).append (LR.cons hy (LR.nil _))).append ((LR.of_arr hsy h2y).ext hx)
    refine ⟨{ target := .fn (.func g) ys', args := xs' ++ #[Value.func (.yield w.heap.size) #[] #[]] }, g, (xs' ++ #[Value.func (.yield w.heap.size) #[] #[]]) ++ ys', ?_, ?_, ?_⟩
    · simp only [resolve, rangeCall, hq, Deferred.ofValue, Sem.run_pure]
      have : Array.map a.eval #[Operand.const (Value.func (.yield w.heap.size) #[] #[])] = #[Value.func (.yield w.heap.size) #[] #[]] := by simp [Act.eval]
      rw [this]
    · simp only [invoke, callFunc, Sem.run_bind, run_program, Result.andThen_ok, hfn, hF.names g fnd hfn, Bool.false_eq_true, if_false, hbody, Option.isNone_some, Sem.run_pure]
    · have hc := hk (κ.add h1.c w.heap.size 0 0) _ _ (m - 1) ((up_new h1 _).2 W) H2 hargs (Free.le (Free.next hfr G2) (by omega))
      refine CallsIn.mono (F := FW rr) hc ?_
      rintro e w3 ⟨v', rfl, κ3, H3, G3, _⟩
      obtain ⟨r3, hr3, hp3, hn3, ht3, hdf3, hf3, hs3, hpe3, ha3, hb3, hdl3⟩ := loop_obj H3 hob
      have hpl3 : κ3.p h1.c = w.heap.size := by rw [G3.ext.p h1.c (.inr rfl)]; exact hpl
      obtain ⟨H4, G4⟩ := loop_set H3 hob hu hr3 hp3 hn3 ht3 hdf3 hf3 ha3 hb3
      rw [hpl3] at hr3 H4 G4
      have hsame : ({ r3 with state := .exhausted, pending := pe } : Loop) = { r3 with state := .exhausted } := by rw [← hpe3]
      rw [hsame] at H4 G4
      refine ⟨pe, _, by rw [← hpe3]; exact run_endLoop hr3 (by rw [hs3]; exact hst), ?_⟩
      have := kk κ3 _ H4 ((G2.trans G3).trans G4)
      cases pe <;> exact this
/-- THE EVALUATOR. -/
theorem evalN_ok (hF : Fit P) (hX : XOk P ro X) (hC : COk P ro C) : ∀ k, EvOk P ro (evalN P ro X C k) ∧ LpOk P ro (evalN P ro X C k)
  | 0 => ⟨fun rnd nt code st e st' h => by simp [evalN] at h, fun rnd nt code st e st' h => by simp [evalN] at h⟩
  | k + 1 => by
    obtain ⟨hE, hL⟩ := evalN_ok hF hX hC k
    -- loops
    have hloop : ∀ rnd nt b st e st', evalN P ro X C (k + 1) rnd nt (.loop b) st = some (e, st') → Up st.h st'.h ∧
        ∀ κ rr (a : Act) w (Q : Exit → Act → World → Prop) m, WF st.h → HR P κ st.h.m w → TR κ st.ts a.tmps → a.tmps.size = nt → DR κ st.dl a.defers → RR κ rnd rr → Free κ st.h.c st'.h.c →
          (∀ κ' (a' : Act) w', HR P κ' st'.h.m w' → Gone ro κ κ' st.h st'.h w w' → TR κ' st'.ts a'.tmps → a'.tmps.size = nt → DR κ' st'.dl a'.defers → Q (toExit e) a' w') → LoopWp (FW rr) m P b Q a w := by
      intro rnd nt b st e st' h
      simp only [evalN] at h
      split at h
      · rename_i st1 h1
        obtain ⟨u1, k1⟩ := hE _ _ _ _ _ _ h1
        obtain ⟨u2, _⟩ := hE _ _ _ _ _ _ h
        refine ⟨u1.trans u2, fun κ rr a w Q m W H T hn D R hf kk => ?_⟩
        refine loop_step (k1 κ rr a w _ m W H T hn D R (Free.le hf u2.1) fun κ1 a1 w1 H1 G1 T1 n1 D1 => ?_)
        exact hL _ _ _ _ _ _ h κ1 rr a1 w1 Q m (u1.2 W) H1 T1 n1 D1 (R.ext G1.ext) (Free.next hf G1) fun κ2 a2 w2 H2 G2 T2 n2 D2 => kk κ2 a2 w2 H2 (G1.trans G2) T2 n2 D2
      · rename_i hne
        obtain ⟨u1, k1⟩ := hE _ _ _ _ _ _ h
        refine ⟨u1, fun κ rr a w Q m W H T hn D R hf kk => ?_⟩
        refine loop_step (k1 κ rr a w _ m W H T hn D R hf fun κ1 a1 w1 H1 G1 T1 n1 D1 => ?_)
        have := kk κ1 a1 w1 H1 G1 T1 n1 D1
        cases e with
        | normal => exact absurd h (hne _)
        | exit id => exact this
        | ret => exact this
    refine ⟨fun rnd nt code st e st' h => ?_, fun rnd nt b st e st' h => (hloop rnd nt b st e st' h).2⟩
    cases code with
    | skip =>
      simp only [evalN, Option.some.injEq, Prod.mk.injEq] at h
      obtain ⟨rfl, rfl⟩ := h
      exact ⟨Up.refl _, fun κ rr a w Q m W H T hn D R hf kk => wpIn_skip (kk κ a w H (Gone.refl H) T hn D)⟩
    | label l =>
      simp only [evalN, Option.some.injEq, Prod.mk.injEq] at h
      obtain ⟨rfl, rfl⟩ := h
      exact ⟨Up.refl _, fun κ rr a w Q m W H T hn D R hf kk => wpIn_label (kk κ a w H (Gone.refl H) T hn D)⟩
    | region id ops draw =>
      simp only [evalN] at h
      split at h
      · rename_i st1 h1
        simp only [Option.some.injEq, Prod.mk.injEq] at h
        obtain ⟨rfl, rfl⟩ := h
        cases draw with
        | true =>
          obtain ⟨u, hk⟩ := draw_ok hF hX hE hC h1
          exact ⟨u, fun κ rr a w Q m W H T hn D R hf kk => hk κ rr a w Q m id W H T hn D hf kk⟩
        | false =>
          simp only [aregion, Bool.false_eq_true, if_false] at h1
          obtain ⟨u, hk⟩ := ops_ok hF hX hE hC ops.toList 0 st st1 rfl h1
          refine ⟨u, fun κ rr a w Q m W H T hn D R hf kk => wpIn_region ?_⟩
          have := hk κ rr a w Q m W H T hn D hf kk
          rw [List.range_eq_range', ← Array.length_toList]
          exact this
      · cases h
    | seq x y =>
      simp only [evalN] at h
      split at h
      · rename_i st1 h1
        obtain ⟨u1, k1⟩ := hE _ _ _ _ _ _ h1
        obtain ⟨u2, k2⟩ := hE _ _ _ _ _ _ h
        refine ⟨u1.trans u2, fun κ rr a w Q m W H T hn D R hf kk => wpIn_seq ?_⟩
        refine k1 κ rr a w _ m W H T hn D R (Free.le hf u2.1) fun κ1 a1 w1 H1 G1 T1 n1 D1 => ?_
        exact k2 κ1 rr a1 w1 Q m (u1.2 W) H1 T1 n1 D1 (R.ext G1.ext) (Free.next hf G1) fun κ2 a2 w2 H2 G2 T2 n2 D2 => kk κ2 a2 w2 H2 (G1.trans G2) T2 n2 D2
      · rename_i hne
        obtain ⟨u1, k1⟩ := hE _ _ _ _ _ _ h
        refine ⟨u1, fun κ rr a w Q m W H T hn D R hf kk => wpIn_seq ?_⟩
        refine k1 κ rr a w _ m W H T hn D R hf fun κ1 a1 w1 H1 G1 T1 n1 D1 => ?_
        have := kk κ1 a1 w1 H1 G1 T1 n1 D1
        cases e with
        | normal => exact absurd h (hne _)
        | exit id => exact this
        | ret => exact this
    | cond c x y =>
      simp only [evalN] at h
      split at h
      · rename_i t hc
        obtain ⟨u1, k1⟩ := hE _ _ _ _ _ _ h
        refine ⟨u1, fun κ rr a w Q m W H T hn D R hf kk => ?_⟩
        have rc := evO_vr H.glob T hc
        have hv : a.eval c = .bool t := by
          generalize a.eval c = q at rc
          cases rc; rfl
        exact wpIn_cond hv (k1 κ rr a w Q m W H T hn D R hf kk)
      · cases h
    | block id b =>
      simp only [evalN] at h
      split at h
      · rename_i id' st1 h1
        obtain ⟨u1, k1⟩ := hE _ _ _ _ _ _ h1
        by_cases hid : id' = id
        · rw [if_pos hid] at h
          simp only [Option.some.injEq, Prod.mk.injEq] at h
          obtain ⟨rfl, rfl⟩ := h
          refine ⟨u1, fun κ rr a w Q m W H T hn D R hf kk => wpIn_block (k1 κ rr a w _ m W H T hn D R hf fun κ1 a1 w1 H1 G1 T1 n1 D1 => ?_)⟩
          have := kk κ1 a1 w1 H1 G1 T1 n1 D1
          show Exit.inBlock id Q (.exit id') a1 w1
          simp only [Exit.inBlock, hid, if_true]; exact this
        · rw [if_neg hid] at h
          simp only [Option.some.injEq, Prod.mk.injEq] at h
          obtain ⟨rfl, rfl⟩ := h
          refine ⟨u1, fun κ rr a w Q m W H T hn D R hf kk => wpIn_block (k1 κ rr a w _ m W H T hn D R hf fun κ1 a1 w1 H1 G1 T1 n1 D1 => ?_)⟩
          have := kk κ1 a1 w1 H1 G1 T1 n1 D1
          show Exit.inBlock id Q (.exit id') a1 w1
          simp only [Exit.inBlock, hid, if_false]; exact this
      · rename_i hne
        obtain ⟨u1, k1⟩ := hE _ _ _ _ _ _ h
        refine ⟨u1, fun κ rr a w Q m W H T hn D R hf kk => wpIn_block (k1 κ rr a w _ m W H T hn D R hf fun κ1 a1 w1 H1 G1 T1 n1 D1 => ?_)⟩
        have := kk κ1 a1 w1 H1 G1 T1 n1 D1
        cases e with
        | normal => exact this
        | exit id => exact absurd h (hne _ _)
        | ret => exact this
    | loop b =>
      obtain ⟨u, hk⟩ := hloop rnd nt b st e st' h
      exact ⟨u, fun κ rr a w Q m W H T hn D R hf kk => wp_of_loop (hk κ rr a w Q m W H T hn D R hf kk)⟩
    | exit id =>
      simp only [evalN, Option.some.injEq, Prod.mk.injEq] at h
      obtain ⟨rfl, rfl⟩ := h
      exact ⟨Up.refl _, fun κ rr a w Q m W H T hn D R hf kk => wpIn_exit (kk κ a w H (Gone.refl H) T hn D)⟩
    | ret =>
      simp only [evalN, Option.some.injEq, Prod.mk.injEq] at h
      obtain ⟨rfl, rfl⟩ := h
      exact ⟨Up.refl _, fun κ rr a w Q m W H T hn D R hf kk => wpIn_ret (kk κ a w H (Gone.refl H) T hn D)⟩
    | rangeFunc fo params assign body =>
      simp only [evalN] at h
      split at h
      · rename_i dfr dl h1 g first captured hls hf
        by_cases hb : hasBody P g = true
        · rw [if_pos hb] at h
          split at h
          · rename_i v h3 hcall
            split at h
            · rename_i stt pe nt1 tsl ps1 as1 bd1 df1 hob
              by_cases hst : stt = .busy
              · rw [if_pos hst] at h; cases h
              · rw [if_neg hst] at h
                split at h
                · rename_i h4 hu
                  obtain ⟨up, hk⟩ := range_ok' hF hC hE (nt := nt) (params := params) (assign := assign) (body := body) hf hb hcall hob hst hu
                  have hls' := hls
                  -- where it begins, and where it ends
                  have hfin : Up st.h st'.h ∧ Up h4 st'.h ∧ ∀ κ0 (w0 : World) rr (a0 : Act) (Q : Exit → Act → World → Prop) m κ1 w1, WF h4 → RR κ0 rnd rr → (∀ κ' (a' : Act) w', HR P κ' st'.h.m w' → Gone ro κ0 κ' st.h st'.h w0 w' → TR κ' st'.ts a'.tmps → a'.tmps.size = nt → DR κ' st'.dl a'.defers → Q (toExit e) a' w') →
                      HR P κ1 h4.m w1 → Gone ro κ0 κ1 st.h h4 w0 w1 → TR κ1 st.ts a0.tmps → a0.tmps.size = nt → DR κ1 (dl ++ st.dl) a0.defers → Free κ0 st.h.c st'.h.c → match pe with
                        | none => Q .normal a0 w1
                        | some c => c.wpIn (FW rr) m P Q a0 w1 := by
                    have hu0 : Up st.h h1 := by
                      unfold loopStart at hls
                      split at hls
                      · simp only [Option.some.injEq, Prod.mk.injEq] at hls; obtain ⟨_, _, rfl⟩ := hls; exact up_new _ _
                      · split at hls
                        · simp only [Option.some.injEq, Prod.mk.injEq] at hls; obtain ⟨_, _, rfl⟩ := hls; exact Up.refl _
                        · cases hls
                    cases pe with
                    | none =>
                      simp only [Option.some.injEq, Prod.mk.injEq] at h
                      obtain ⟨rfl, rfl⟩ := h
                      exact ⟨hu0.trans up, Up.refl _, fun κ0 w0 rr a0 Q m κ1 w1 W4 R kk H1 G1 T1 n1 D1 _ => kk κ1 a0 w1 H1 G1 T1 n1 D1⟩
                    | some c =>
                      simp only at h
                      obtain ⟨u2, k2⟩ := hE _ _ _ _ _ _ h
                      refine ⟨(hu0.trans up).trans u2, u2, fun κ0 w0 rr a0 Q m κ1 w1 W4 R kk H1 G1 T1 n1 D1 hf => ?_⟩
                      exact k2 κ1 rr a0 w1 Q m W4 H1 T1 n1 D1 (R.ext G1.ext) (Free.next hf G1) fun κ2 a2 w2 H2 G2 T2 n2 D2 => kk κ2 a2 w2 H2 (G1.trans G2) T2 n2 D2
                  obtain ⟨hu1, hu2, hend⟩ := hfin
                  refine ⟨hu1, fun κ rr a w Q m W H T hn D R hfr kk => wpIn_rangeFunc fun fn _ => ?_⟩
                  cases rnd with
                  | none =>
                    cases rr with
                    | some _ => exact R.elim
                    | none =>
                      simp only [loopStart, Option.some.injEq, Prod.mk.injEq] at hls
                      obtain ⟨rfl, rfl, rfl⟩ := hls
                      have hle : st.h.c + 1 ≤ h4.c := up.1
                      have hfree0 : ¬κ.dom st.h.c := hfr st.h.c (Nat.le_refl _) (by have := hu2.1; omega)
                      have hx := Ext.add w.heap.size 0 0 hfree0
                      obtain ⟨H1, G1⟩ := go_new (ro := ro) (n := 0) (s := 0) (w' := w.alloc (.deferred (some []))) H hfree0 rfl rfl rfl rfl OR.dfr
                      have hpd : (κ.add st.h.c w.heap.size 0 0).p st.h.c = w.heap.size := by simp [K.add]
                      have hside := fun κ' w' (H' : HR P κ' h4.m w') (G' : Gone ro (κ.add st.h.c w.heap.size 0 0) κ' (st.h.new .dfr) h4 (w.alloc (.deferred (some []))) w') =>
                        hend κ w none { a with defers := [{ target := .collected w.heap.size, args := #[] }] ++ a.defers } Q m κ' w' (up.2 ((up_new _ _).2 W)) trivial kk H' (G1.trans G') (T.ext (G1.trans G').ext) hn (by
                          have GG := G1.trans G'
                          refine ⟨fun i hi => ?_, ?_⟩
                          · rcases List.mem_append.1 hi with q | q
                            · rw [List.mem_singleton.1 q]; exact G'.ext.dom _ (.inr rfl)
                            · exact GG.ext.dom i (D.1 i q)
                          · rw [List.map_append, ← (D.ext GG.ext).2]
                            have : κ'.p st.h.c = w.heap.size := by rw [G'.ext.p st.h.c (.inr rfl)]; exact hpd
                            simp [this]) hfr
                      obtain ⟨d, f, args, q1, q2, q3⟩ := hk (κ.add st.h.c w.heap.size 0 0) none a _ Q m [{ target := .collected w.heap.size, args := #[] }] ((up_new _ _).2 W) H1 (T.ext hx) hn (.inr rfl) (Free.le (Free.next hfr G1) hu2.1) hside fn
                      have hsz : (w.alloc (.deferred (some []))).heap.size = w.heap.size + 1 := by simp
                      rw [hpd] at q1 q2 q3
                      rw [hsz] at q1 q3
                      exact ⟨w.heap.size + 1, _, _, d, _, f, args, _, run_enterLoop_outer fn a.tmps params assign body, q1, fun _ _ => trivial, q2, FW_depth none, q3⟩
                  | some l =>
                    cases rr with
                    | none => exact R.elim
                    | some l' =>
                      obtain ⟨hdl, rfl⟩ := R
                      simp only [loopStart] at hls
                      split at hls
                      · rename_i s0 p0 n0 t0 ps0 a0 b0 d0 hobl
                        simp only [Option.some.injEq, Prod.mk.injEq] at hls
                        obtain ⟨rfl, rfl, rfl⟩ := hls
                        obtain ⟨r, hr, _, _, _, hdd, hdf, _, _, _, _, _⟩ := loop_obj H hobl
                        have hside := fun κ' w' (H' : HR P κ' h4.m w') (G' : Gone ro κ κ' st.h h4 w w') =>
                          hend κ w (some (κ.p l)) { a with defers := [] ++ a.defers } Q m κ' w' (up.2 W) ⟨hdl, rfl⟩ kk H' G' (T.ext G'.ext) hn (D.ext G'.ext) hfr
                        obtain ⟨d, f, args, q1, q2, q3⟩ := hk κ (some (κ.p l)) a w Q m [] W H T hn hdd (Free.le hfr hu2.1) hside fn
                        rw [← hdf] at q1 q2 q3
                        exact ⟨w.heap.size, _, _, d, _, f, args, _, enterLoop_inner hr fn a.tmps params assign body, q1, fun _ _ => trivial, q2, FW_depth _, q3⟩
                      · cases hls
                · cases h
            · cases h
          · cases h
        · rw [if_neg hb] at h; cases h
      · cases h
    | scope b => simp [evalN] at h
    | goto l => simp [evalN] at h
    | refuse s => simp [evalN] at h
#print axioms evalN_ok
end
end Ex
end Go.Proofs.YtgbladpoglhleaaGreatDoor
