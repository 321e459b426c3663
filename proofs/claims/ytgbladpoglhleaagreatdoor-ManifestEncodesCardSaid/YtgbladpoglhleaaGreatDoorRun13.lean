/- The evaluator's calls and rounds beside the machine's. No condition. -/
import Derived.Test.YtgbladpoglhleaaGreatDoorRun12
import Derived.RangeFuncRecord
namespace Go.Proofs.YtgbladpoglhleaaGreatDoor
namespace Ex
section
variable {P : Program} {ro : Nat} {X C : Hook} {ev : Option Nat → Nat → Code → St → Option (Ex × St)} {κ : K}
theorem shut_c : ∀ {dl : List Nat} {h h' : Hp}, shut ro dl h = some h' → h'.c = h.c ∧ Up h h'
  | [], h, h', e => by simp only [shut, Option.some.injEq] at e; rw [e]; exact ⟨rfl, Up.refl _⟩
  | r :: rs, h, h', e => by
    simp only [shut] at e
    split at e
    · split at e
      · rename_i hob _ h2 hu
        obtain ⟨a, b⟩ := shut_c e
        exact ⟨by rw [a, upd_c hu], (up_upd hob hu).trans b⟩
      · cases e
    · cases e
theorem shut_ok {fn : Func} {tmps : Array Value} {R : Ending → World → Prop} {m : Nat} : ∀ {dl : List Nat} {ds : List Deferred} {h h' : Hp} {w : World}, shut ro dl h = some h' → HR P κ h.m w → DR κ dl ds →
    (∀ w', HR P κ h'.m w' → Gone ro κ κ h h' w w' → ∃ v, (results fn tmps).run P w' = .ok v w' ∧ R (.returned v) w') → LeavesInM Fence.wide m P fn tmps R ds .returning w
  | [], ds, h, h', w, e, H, D, k => by
    simp only [shut, Option.some.injEq] at e; subst e
    have : ds = [] := D.2
    subst this
    exact k w H (Gone.refl H)
  | r :: rs, ds, h, h', w, e, H, D, k => by
    obtain ⟨d1, d2⟩ := D
    rw [List.map_cons] at d2
    subst d2
    simp only [shut] at e
    split at e
    · rename_i hob
      split at e
      · rename_i h2 hu
        obtain ⟨_, o', ho', hor⟩ := H.obj r _ hob
        cases hor with
        | dfr =>
          obtain ⟨H2, G2⟩ := go_killw (w' := w.putObj (κ.p r) (.deferred none)) H hob hu (by simp) (fun k hk => World.putObj_heap_other hk) rfl rfl rfl
          refine ⟨by simp, .inl ⟨κ.p r, _, rfl, run_takeDeferred ho', ?_⟩⟩
          exact shut_ok e H2 ⟨fun i hi => d1 i (List.mem_cons_of_mem _ hi), rfl⟩ fun w' H' G' => k w' H' (G2.trans G')
      · cases e
    · cases e
theorem cut_mem {m : Tr AO} {old new : List Nat} {i : Nat} : i ∈ cut m old new ↔ i ∈ old ∨ (i ∈ new ∧ (m.get i).isSome) := by
  have hh : ∀ x, has m x = (m.get x).isSome := fun x => by unfold has; cases m.get x <;> rfl
  unfold cut
  induction new with
  | nil => simp
  | cons x xs ih =>
    simp only [List.foldr_cons]
    cases hx : has m x with
    | true =>
      simp only [cond_true, mem_addW, ih]
      rw [hh] at hx
      constructor
      · rintro (rfl | a | ⟨a, b⟩)
        · exact .inr ⟨List.mem_cons_self, hx⟩
        · exact .inl a
        · exact .inr ⟨List.mem_cons_of_mem _ a, b⟩
      · rintro (a | ⟨a, b⟩)
        · exact .inr (.inl a)
        · rcases List.mem_cons.1 a with rfl | a
          · exact .inl rfl
          · exact .inr (.inr ⟨a, b⟩)
    | false =>
      simp only [cond_false, ih]
      rw [hh] at hx
      constructor
      · rintro (a | ⟨a, b⟩)
        · exact .inl a
        · exact .inr ⟨List.mem_cons_of_mem _ a, b⟩
      · rintro (a | ⟨a, b⟩)
        · exact .inl a
        · rcases List.mem_cons.1 a with rfl | a
          · rw [hx] at b; cases b
          · exact .inr ⟨a, b⟩
/-- What was written of what was there: that will do. -/
theorem Gone.cut {κ' : K} {h h' : Hp} {w w' : World} (A : Gone ro κ κ' h h' w w') : Gone ro κ κ' h { h' with wl := cut h.m h.wl h'.wl } w w' :=
  { A with
    same := fun i hd hn => by
      by_cases hi : i ∈ h'.wl
      · cases hm : h.m.get i with
        | some x => exact absurd (cut_mem.2 (.inr ⟨hi, by rw [hm]; rfl⟩)) hn
        | none =>
          show h'.m.get i = none
          cases hm' : h'.m.get i with
          | none => rfl
          | some y => have := A.old i hd (by rw [hm']; rfl); rw [hm] at this; cases this
      · exact A.same i hd hi
    wle := fun i hi => cut_mem.2 (.inl hi) }
theorem Free.le {lo hi hi' : Nat} (h : Free κ lo hi) (e : hi' ≤ hi) : Free κ lo hi' := fun i a b => h i a (by omega)
theorem Free.next {κ' : K} {h h1 : Hp} {w w1 : World} {hi : Nat} (f : Free κ h.c hi) (G : Gone ro κ κ' h h1 w w1) : Free κ' h1.c hi := fun i a b hd => by
  have := G.mono
  rcases G.new i hd with q | q
  · exact f i (by omega) b q
  · omega
/-- A CALL. -/
theorem call_ok (hE : EvOk P ro ev) (hC : COk P ro C) {f : Nat} {args : List Value} {h h' : Hp} {v : Value} (e : acall P ro ev C f args h = some (v, h')) : Up h h' ∧
    ∀ κ w (args' : Array Value) m, WF h → HR P κ h.m w → LR κ args args'.toList → Free κ h.c h'.c → CallsIn Fence.wide m P f args' w fun e w' => ∃ v', e = .returned v' ∧ Comes' P ro κ h w v h' v' w' := by
  unfold acall at e
  split at e
  · rename_i r hc
    simp only [Option.some.injEq] at e; subst e
    obtain ⟨hm, hk⟩ := hC f args h v h' hc
    exact ⟨hm, fun κ w args' m _ H r hf => callsIn_wide.2 (hk κ w args' H r hf)⟩
  · split at e
    · rename_i fn hfn
      split at e
      · rename_i code hb
        by_cases hle : args.length ≤ fn.ntmps
        · rw [bleT hle, cond_true] at e
          split at e
          · cases e
          · rename_i ee st hne hev
            split at e
            · rename_i h2 hsh
              split at e
              · rename_i vs hres
                simp only [Option.some.injEq, Prod.mk.injEq] at e
                obtain ⟨rfl, rfl⟩ := e
                obtain ⟨hm, hk⟩ := hE _ _ _ _ _ _ hev
                have hc2 := (shut_c hsh).1
                have hm' : Up h { h2 with wl := Ex.cut h.m h.wl h2.wl } := by
                  have hu := hm.trans (shut_c hsh).2
                  refine ⟨hu.1, fun w => ⟨(hu.2 w).1, fun i hi => ?_⟩⟩
                  rcases cut_mem.1 hi with q | q
                  · have := w.2 i q; have := hu.1; simp only at *; omega
                  · exact (hu.2 w).2 i q.1
                refine ⟨hm', fun κ w args' m W H r hf => ?_⟩
                refine callsIn_of_wp_marks (F := Fence.wide) hfn hb trivial ?_
                obtain ⟨T, hn⟩ := putArgs_ok (nt := fn.ntmps) r hle
                refine hk κ none { tmps := args' ++ Array.replicate (fn.ntmps - args'.size) undef, defers := [] } w _ m W H T hn ⟨fun _ q => by simp at q, rfl⟩ trivial (Free.le hf (by rw [hc2]; exact Nat.le_refl _)) ?_
                intro κ' a' w' H' G' T' hn' D'
                have fin : LeavesInM Fence.wide m P fn a'.tmps (fun e w' => ∃ v', e = .returned v' ∧ Comes' P ro κ h w (one vs) { h2 with wl := Ex.cut h.m h.wl h2.wl } v' w') a'.defers .returning w' := by
                  refine shut_ok hsh H' D' fun w2 H2 G2 => ?_
                  obtain ⟨vs', rv, hrun⟩ := res_ok H2 T' hres
                  refine ⟨_, ?_, _, rfl, κ', H2, (G'.trans G2).cut, one_ok rv⟩
                  unfold results
                  simp only [Sem.run_bind, Array.mapM_eq_mapM_toList, Sem.run_map]
                  exact congrArg (fun q : Result (List Value) => (q.andThen fun a w' => Result.ok a.toArray w').andThen fun a w' => Sem.run P (pure (if h : a.size = 1 then a[0] else .tuple a)) w') hrun
                cases ee with
                | normal => exact fin
                | ret => exact fin
                | exit id => exact (hne id rfl).elim
              · cases e
            · cases e
          · cases e
        · rw [bleF hle] at e; cases e
      · cases e
    · cases e
theorem loop_obj {h : Hp} {w : World} (H : HR P κ h.m w) {b : Nat} {st : LoopState} {pe : Option Code} {nt : Nat} {ts : TS} {ps : List Tmp} {as bd : Code} {df : Nat} (hb : h.m.get b = some (.loop st pe nt ts ps as bd df)) :
    ∃ r : Loop, w.heap[κ.p b]? = some (.loop r) ∧ r.params.toList = ps ∧ r.tmps.size = nt ∧ TR κ ts r.tmps ∧ κ.dom df ∧ r.defers = κ.p df ∧ r.state = st ∧ r.pending = pe ∧ r.assign = as ∧ r.body = bd ∧ κ.dom b := by
  obtain ⟨hd, o', ho', hor⟩ := H.obj b _ hb
  cases hor with
  | loop r _ _ _ _ hp hn ht hdf hf => exact ⟨r, ho', hp, hn, ht, hdf, hf, rfl, rfl, rfl, rfl, hd⟩
/-- A loop's record turned. -/
theorem loop_set {h h' : Hp} {w : World} (H : HR P κ h.m w) {b : Nat} {x : AO} {r : Loop} {st : LoopState} {pe : Option Code} {nt : Nat} {ts : TS} {ps : List Tmp} {as bd : Code} {df : Nat} (hb : h.m.get b = some x)
    (e : h.upd ro b (some (.loop st pe nt ts ps as bd df)) = some h') (hr : w.heap[κ.p b]? = some (.loop r)) (h1 : r.params.toList = ps) (h2 : r.tmps.size = nt) (h3 : TR κ ts r.tmps) (h4 : κ.dom df) (h5 : r.defers = κ.p df) (h6 : r.assign = as) (h7 : r.body = bd) :
    HR P κ h'.m (w.putObj (κ.p b) (.loop { r with state := st, pending := pe })) ∧ Gone ro κ κ h h' w (w.putObj (κ.p b) (.loop { r with state := st, pending := pe })) := by
  have ho : OR P κ b (.loop st pe nt ts ps as bd df) (.loop { r with state := st, pending := pe }) := by
    subst h6; subst h7
    exact .loop { r with state := st, pending := pe } nt ts ps df h1 h2 h3 h4 h5
  exact set_ok H hb e hr ho
/-- A ROUND. -/
theorem round_ok (hE : EvOk P ro ev) {l : Nat} {args : List Value} {h h' : Hp} {v : Value} (e : around ro ev l args h = some (v, h')) : Up h h' ∧
    ∀ κ w (args' : Array Value) rr m, WF h → HR P κ h.m w → LR κ args args'.toList → Free κ h.c h'.c → ∃ fn tmps assign body, (Instr.yield (κ.p l) args').run P w = .ok (.round (κ.p l) fn tmps assign body) w ∧
      RoundIn (FW rr) m P (κ.p l) fn tmps assign body w fun e w' => ∃ v', e = .returned v' ∧ Comes' P ro κ h w v h' v' w' := by
  unfold around at e
  split at e
  · rename_i st0 pe0 nt ts params assign body df0 hob
    split at e
    · rename_i ts1 hps
      split at e
      · rename_i st1 hev1
        split at e
        · rename_i pe nt1 tsl ps1 as1 bd1 df1 hob1 hdl1
          split at e
          · rename_i h2 hu2
            split at e
            · rename_i ee st3 hev3
              split at e
              · rename_i st3s pe3 nt3 ts3 ps3 as3 bd3 df3 hob3
                split at e
                · rename_i h4 hu4
                  simp only [Option.some.injEq, Prod.mk.injEq] at e
                  obtain ⟨rfl, rfl⟩ := e
                  obtain ⟨m1, k1⟩ := hE _ _ _ _ _ _ hev1
                  obtain ⟨m3, k3⟩ := hE _ _ _ _ _ _ hev3
                  have c2 := upd_c hu2
                  have c4 := upd_c hu4
                  have hup : Up h h4 := ((m1.trans (up_upd hob1 hu2)).trans m3).trans (up_upd hob3 hu4)
                  refine ⟨hup, fun κ w args' rr m W H r hf => ?_⟩
                  have W2 := (m1.trans (up_upd hob1 hu2)).2 W
                  replace m1 := m1.1
                  replace m3 := m3.1
                  simp only at m1 m3
                  obtain ⟨r0, hr0, hp0, hn0, ht0, _, _, _, _, hass, hbod, hdl⟩ := loop_obj H hob
                  obtain ⟨q1, q2, q3⟩ := setParams_ok hps ht0 hn0 r
                  have hsz : args'.size = r0.params.size := by rw [← hp0] at q1; simpa using q1.symm
                  refine ⟨r0.fn, _, r0.assign, r0.body, run_yield hr0 hsz, ?_⟩
                  have hfold : ((r0.params.zip args').foldl (fun tmps (t, a) => tmps.setIfInBounds t a) r0.tmps) = ((params.zip args'.toList).foldl (fun tm p => tm.setIfInBounds p.1 p.2) r0.tmps) := by
                    rw [← Array.foldl_toList, Array.toList_zip, hp0]
                  rw [hfold]
                  refine roundIn_of_wpIn trivial ?_
                  rw [hass, hbod]
                  show assign.wpIn (FW (some (κ.p l))) m P _ _ w
                  refine k1 κ (some (κ.p l)) { tmps := _, defers := [] } w _ m W H q2 q3 ⟨fun _ q => by simp at q, rfl⟩ ⟨hdl, rfl⟩ (Free.le hf (by omega)) ?_
                  intro κ1 a1 w1 H1 G1 T1 n1 D1
                  obtain ⟨r1, hr1, hp1, hn1, ht1, hdf1, hf1, hs1, hpe1, ha1, hb1, hdl1'⟩ := loop_obj H1 hob1
                  have hpl : κ1.p l = κ.p l := G1.ext.p l hdl
                  obtain ⟨H2, G2⟩ := loop_set H1 hob1 hu2 hr1 hp1 hn1 ht1 hdf1 hf1 ha1 hb1
                  rw [hpl] at hr1 H2 G2
                  show ∃ w₂, _ ∧ _
                  refine ⟨_, run_beginRound hr1 hs1, ?_⟩
                  have hsame : ({ r1 with state := .busy, pending := pe } : Loop) = { r1 with state := .busy } := by rw [← hpe1]
                  rw [hsame] at H2 G2
                  have G12 := G1.trans G2
                  refine k3 κ1 (some (κ.p l)) a1 _ _ m W2 H2 T1 n1 (by rw [hdl1] at D1; exact D1) ⟨hdl1', hpl.symm⟩ (Free.le (Free.next hf G12) (by omega)) ?_
                  intro κ3 a3 w3 H3 G3 T3 n3 D3
                  obtain ⟨r3, hr3, hp3, hn3, ht3, hdf3, hf3, hs3, hpe3, ha3, hb3, hdl3'⟩ := loop_obj H3 hob3
                  have hpl3 : κ3.p l = κ.p l := by rw [G3.ext.p l hdl1']; exact hpl
                  obtain ⟨H4, G4⟩ := loop_set H3 hob3 hu4 hr3 hp3 hn3 ht3 hdf3 hf3 ha3 hb3
                  rw [hpl3] at hr3 H4 G4
                  have fin := fun jump : Option Code => run_endRound (P := P) jump hr3
                  have G := (G12.trans G3).trans G4
                  cases ee with
                  | normal => exact ⟨_, _, fin none, _, rfl, κ3, H4, G, .bool _⟩
                  | ret => exact ⟨_, _, fin (some .ret), _, rfl, κ3, H4, G, .bool _⟩
                  | exit id => exact ⟨_, _, fin (some (.exit id)), _, rfl, κ3, H4, G, .bool _⟩
                · cases e
              · cases e
            · cases e
          · cases e
        · cases e
      · cases e
    · cases e
  · cases e
/-- AN OPERATION, in its row. -/
theorem oper_ok (hF : Fit P) (hX : XOk P ro X) (hE : EvOk P ro ev) (hC : COk P ro C) {ops : Array Oper} {ts : TS} {h h' : Hp} {o : Oper} {v : Value} (e : aoper P ro X ev C ops.toList ts h o = some (v, h')) : Up h h' ∧
    ∀ κ rr (a : Act) w (next : Act → World → Prop) (Q : Exit → Act → World → Prop) m i, ops[i]? = some o → WF h → HR P κ h.m w → TR κ ts a.tmps → Free κ h.c h'.c →
      (∀ v' w', Comes' P ro κ h w v h' v' w' → next (a.put o.dst v') w') → wpOpIn (FW rr) m P ops Q i next a w := by
  unfold aoper at e
  split at e
  · rename_i hg
    split at e
    · rename_i v1 h1 hop
      simp only [Option.some.injEq, Prod.mk.injEq] at e
      obtain ⟨rfl, rfl⟩ := e
      obtain ⟨hm, hk⟩ := aop_ok hF hX hop
      refine ⟨hm, fun κ rr a w next Q m i hi W H T hf k => ?_⟩
      obtain ⟨v', w', hr, hc⟩ := hk κ a w H T hf
      have hnd : ∀ c, o.op ≠ .defer c := fun c q => by simp [aop, q] at hop
      unfold wpOpIn
      simp only [hi, guard_ok T hg, if_true]
      refine ⟨fun f _ => trivial, ?_⟩
      rw [Oper.semAt_eq _ _ _ hnd]
      rcases hr with hr | ⟨rfl, hr⟩
      · rw [hr]; exact k _ _ hc
      · rw [hr]; exact k _ _ hc
    · rename_i f args h1 hop
      obtain ⟨rfl, hk⟩ := aop_ok hF hX hop
      obtain ⟨hm, hcall⟩ := call_ok hE hC e
      refine ⟨hm, fun κ rr a w next Q m i hi W H T hf k => ?_⟩
      obtain ⟨args', hr, hl⟩ := hk κ a w H T
      have hnd : ∀ c, o.op ≠ .defer c := fun c q => by simp [aop, q] at hop
      unfold wpOpIn
      simp only [hi, guard_ok T hg, if_true]
      refine ⟨fun f _ => trivial, ?_⟩
      rw [Oper.semAt_eq _ _ _ hnd, hr]
      refine ⟨FW_depth rr, ?_⟩
      have := hcall κ w args' (m - 1) W H hl hf
      refine CallsIn.mono (F := FW rr) this ?_
      rintro e w' ⟨v', rfl, hc⟩
      exact k _ _ hc
    · rename_i l args h1 hop
      obtain ⟨rfl, hk⟩ := aop_ok hF hX hop
      obtain ⟨hm, hround⟩ := round_ok hE e
      refine ⟨hm, fun κ rr a w next Q m i hi W H T hf k => ?_⟩
      obtain ⟨args', hdl, hr, hl⟩ := hk κ a w H T
      obtain ⟨fn, tmps, assign, body, hy, hR⟩ := hround κ w args' rr (m - 1) W H hl hf
      have hnd : ∀ c, o.op ≠ .defer c := fun c q => by simp [aop, q] at hop
      unfold wpOpIn
      simp only [hi, guard_ok T hg, if_true]
      refine ⟨fun f _ => trivial, ?_⟩
      rw [Oper.semAt_eq _ _ _ hnd, hr, hy]
      refine ⟨FW_depth rr, ?_⟩
      refine RoundIn.mono hR ?_
      rintro e w' ⟨v', rfl, hc⟩
      exact k _ _ hc
    · cases e
  · rename_i hg
    simp only [Option.some.injEq, Prod.mk.injEq] at e
    obtain ⟨rfl, rfl⟩ := e
    refine ⟨Up.refl _, fun κ rr a w next Q m i hi W H T hf k => ?_⟩
    unfold wpOpIn
    simp only [hi, guard_ok T hg, Bool.false_eq_true, if_false]
    exact ⟨fun f _ => trivial, k undef w ⟨κ, H, Gone.refl H, vr_undef κ⟩⟩
  · cases e
/-- A ROW OF OPERATIONS, one behind the other. -/
theorem ops_ok (hF : Fit P) (hX : XOk P ro X) (hE : EvOk P ro ev) (hC : COk P ro C) {ops : Array Oper} {nt : Nat} : ∀ (os : List Oper) (k : Nat) (st st' : St), ops.toList.drop k = os → aops P ro X ev C ops.toList nt os st = some st' →
    Up st.h st'.h ∧ ∀ κ rr (a : Act) w (Q : Exit → Act → World → Prop) m, WF st.h → HR P κ st.h.m w → TR κ st.ts a.tmps → a.tmps.size = nt → DR κ st.dl a.defers → Free κ st.h.c st'.h.c →
      (∀ κ' (a' : Act) w', HR P κ' st'.h.m w' → Gone ro κ κ' st.h st'.h w w' → TR κ' st'.ts a'.tmps → a'.tmps.size = nt → DR κ' st'.dl a'.defers → Q .normal a' w') → wpOpsIn (FW rr) m P ops Q (List.range' k os.length) a w
  | [], k, st, st', hd, e => by
    simp only [aops, Option.some.injEq] at e; subst e
    exact ⟨Up.refl _, fun κ rr a w Q m _ H T hn D hf kk => kk κ a w H (Gone.refl H) T hn D⟩
  | o :: os, k, st, st', hd, e => by
    simp only [aops] at e
    split at e
    · rename_i v h1 ho
      split at e
      · rename_i ts1 hp
        obtain ⟨m1, k1⟩ := oper_ok hF hX hE hC ho
        have hdrop : ops.toList.drop (k + 1) = os := by rw [← List.drop_drop, hd]; rfl
        obtain ⟨m2, k2⟩ := ops_ok hF hX hE hC os (k + 1) _ st' hdrop e
        refine ⟨m1.trans m2, fun κ rr a w Q m W H T hn D hf kk => ?_⟩
        replace m2 := m2.1
        simp only at m2
        have hi : ops[k]? = some o := by
          have : (ops.toList.drop k)[0]? = some o := by rw [hd]; rfl
          rw [List.getElem?_drop, Nat.add_zero, Array.getElem?_toList] at this; exact this
        rw [List.length_cons, List.range'_succ, wpOpsIn_cons]
        refine k1 κ rr a w _ Q m k hi W H T (Free.le hf m2) fun v' w1 hc => ?_
        obtain ⟨κ1, H1, G1, V1⟩ := hc
        obtain ⟨T1, n1, d1⟩ := TR.put (T.ext G1.ext) hn V1 hp
        refine k2 κ1 rr _ w1 Q m (m1.2 W) H1 T1 n1 (by rw [d1]; exact D.ext G1.ext) (Free.next hf G1) fun κ2 a2 w2 H2 G2 T2 n2 D2 => ?_
        exact kk κ2 a2 w2 H2 (G1.trans G2) T2 n2 D2
      · cases e
    · cases e
end
end Ex
end Go.Proofs.YtgbladpoglhleaaGreatDoor
