/- A row of operations whose order is drawn: the evaluator's own order stands for each. No condition. -/
import Derived.Test.YtgbladpoglhleaaGreatDoorRun13
namespace Go.Proofs.YtgbladpoglhleaaGreatDoor
namespace Ex
theorem delL_get : ∀ (l : List Nat) (m : Tr AO) (i : Nat), (delL m l).get i = if i ∈ l then none else m.get i
  | [], m, i => by simp [delL]
  | b :: bs, m, i => by
    rw [delL, delL_get bs, Tr.get_put]
    by_cases h1 : i ∈ bs
    · simp [h1]
    · by_cases h2 : i = b <;> simp [h1, h2]
theorem delR_get : ∀ (n lo : Nat) (m : Tr AO) (i : Nat), (delR m lo n).get i = if lo ≤ i ∧ i < lo + n then none else m.get i
  | 0, lo, m, i => by simp [delR]; omega
  | n + 1, lo, m, i => by
    rw [delR, delR_get n, Tr.get_put]
    by_cases h1 : lo + 1 ≤ i ∧ i < lo + 1 + n
    · rw [if_pos h1, if_pos (by omega)]
    · rw [if_neg h1]
      by_cases h2 : i = lo
      · rw [if_pos h2, if_pos (by omega)]
      · rw [if_neg h2, if_neg (by omega)]
theorem copyL_get (src : Tr AO) : ∀ (l : List Nat) (m : Tr AO) (i : Nat), (copyL src m l).get i = if i ∈ l then src.get i else m.get i
  | [], m, i => by simp [copyL]
  | b :: bs, m, i => by
    rw [copyL, copyL_get src bs, Tr.get_put]
    by_cases h1 : i ∈ bs
    · simp [h1]
    · by_cases h2 : i = b
      · subst h2; simp
      · simp [h1, h2]
theorem copyR_get (src : Tr AO) : ∀ (n lo : Nat) (m : Tr AO) (i : Nat), (copyR src m lo n).get i = if lo ≤ i ∧ i < lo + n then src.get i else m.get i
  | 0, lo, m, i => by simp [copyR]; omega
  | n + 1, lo, m, i => by
    rw [copyR, copyR_get src n, Tr.get_put]
    by_cases h1 : lo + 1 ≤ i ∧ i < lo + 1 + n
    · rw [if_pos h1, if_pos (by omega)]
    · rw [if_neg h1]
      by_cases h2 : i = lo
      · rw [if_pos h2, if_pos (by omega), h2]
      · rw [if_neg h2, if_neg (by omega)]
theorem over_get (h' : Hp) (m : Tr AO) (lo i : Nat) : (over h' m lo).get i = if i ∈ h'.wl ∨ (lo ≤ i ∧ i < h'.c) then h'.m.get i else m.get i := by
  rw [over, copyL_get, copyR_get]
  by_cases h1 : i ∈ h'.wl
  · simp [h1]
  · by_cases h2 : lo ≤ i ∧ i < h'.c
    · rw [if_neg h1, if_pos (by omega), if_pos (.inr h2)]
    · rw [if_neg h1, if_neg (by omega), if_neg (by simp [h1]; omega)]
theorem addAll_mem : ∀ (bs l : List Nat) (i : Nat), i ∈ addAll bs l ↔ i ∈ bs ∨ i ∈ l
  | [], l, i => by simp [addAll]
  | b :: bs, l, i => by
    rw [addAll, addAll_mem bs, mem_addW]
    simp only [List.mem_cons]
    constructor
    · rintro (a | rfl | a)
      · exact .inl (.inr a)
      · exact .inl (.inl rfl)
      · exact .inr a
    · rintro ((rfl | a) | a)
      · exact .inr (.inl rfl)
      · exact .inl a
      · exact .inr (.inr a)
theorem hide_get (pre : Nat) : ∀ (ss : List Seg) (m : Tr AO) (i : Nat) (o : AO), (hide pre m ss).get i = some o → m.get i = some o ∧ ∀ s ∈ ss, pre.testBit s.i = false → ¬(i ∈ s.w ∨ (s.lo ≤ i ∧ i < s.hi))
  | [], m, i, o, h => ⟨h, fun s hs => by simp at hs⟩
  | s :: ss, m, i, o, h => by
    unfold hide at h
    cases hb : pre.testBit s.i with
    | true =>
      rw [hb, cond_true] at h
      obtain ⟨a, b⟩ := hide_get pre ss m i o h
      refine ⟨a, fun x hx hxb => ?_⟩
      rcases List.mem_cons.1 hx with rfl | hx
      · rw [hb] at hxb; cases hxb
      · exact b x hx hxb
    | false =>
      rw [hb, cond_false] at h
      obtain ⟨a, b⟩ := hide_get pre ss _ i o h
      rw [delR_get] at a
      split at a
      · cases a
      · rename_i h1
        rw [delL_get] at a
        split at a
        · cases a
        · rename_i h2
          refine ⟨a, fun x hx hxb => ?_⟩
          rcases List.mem_cons.1 hx with rfl | hx
          · rintro (q | q)
            · exact h2 q
            · exact h1 (by omega)
          · exact b x hx hxb
theorem hideT_get (j pre : Nat) : ∀ (L : List (Nat × Oper × Nat)) (ts : TS) (t : Nat) (v : Value), (hideT j pre ts L).get t = some v →
    ts.get t = some v ∧ ∀ x ∈ L, x.2.1.dst = some t → pre.testBit x.1 = true ∨ x.2.2.testBit j = true ∨ x.1 = j
  | [], ts, t, v, h => ⟨h, fun s hs => by simp at hs⟩
  | (k, o, prek) :: L, ts, t, v, h => by
    unfold hideT at h
    cases hd : o.dst with
    | none =>
      rw [hd] at h
      obtain ⟨a, b⟩ := hideT_get j pre L ts t v h
      refine ⟨a, fun x hx hxd => ?_⟩
      rcases List.mem_cons.1 hx with rfl | hx
      · rw [hd] at hxd; cases hxd
      · exact b x hx hxd
    | some d =>
      rw [hd] at h
      simp only at h
      cases hc : (pre.testBit k || prek.testBit j || Nat.beq k j) with
      | true =>
        rw [hc, cond_true] at h
        obtain ⟨a, b⟩ := hideT_get j pre L ts t v h
        refine ⟨a, fun x hx hxd => ?_⟩
        rcases List.mem_cons.1 hx with rfl | hx
        · simp only [Bool.or_eq_true] at hc
          rcases hc with (q | q) | q
          · exact .inl q
          · exact .inr (.inl q)
          · exact .inr (.inr (Nat.eq_of_beq_eq_true q))
        · exact b x hx hxd
      | false =>
        rw [hc, cond_false] at h
        obtain ⟨a, b⟩ := hideT_get j pre L _ t v h
        rw [Tr.get_put] at a
        split at a
        · cases a
        · rename_i hne
          refine ⟨a, fun x hx hxd => ?_⟩
          rcases List.mem_cons.1 hx with rfl | hx
          · rw [hd] at hxd; cases hxd; exact absurd rfl hne
          · exact b x hx hxd
theorem within_bit {a b : Nat} (h : within a b = true) (x : Nat) (hx : a.testBit x = true) : b.testBit x = true := by
  have : Nat.land a b = a := Nat.eq_of_beq_eq_true h
  have h2 : (a &&& b).testBit x = a.testBit x := congrArg (·.testBit x) this
  rw [Nat.testBit_and, hx] at h2
  simpa using h2

/-- What an operation did, when it was taken. -/
structure Rec where
  j : Nat
  o : Oper
  pre : Nat
  lo : Nat
  v : Value
  h' : Hp
def Rec.touch (r : Rec) (i : Nat) : Prop := i ∈ r.h'.wl ∨ (r.lo ≤ i ∧ i < r.h'.c)
def memT (p : Rec → Bool) : Tr AO → List Rec → Tr AO
  | m, [] => m
  | m, r :: rs => memT p (cond (p r) (over r.h' m r.lo) m) rs
def putO (ts : TS) (d : Option Tmp) (v : Value) : TS :=
  match d with
  | some d => ts.put d (some v)
  | none => ts
def tsT (p : Rec → Bool) : TS → List Rec → TS
  | ts, [] => ts
  | ts, r :: rs => tsT p (cond (p r) (putO ts r.o.dst r.v) ts) rs
theorem over_t {r : Rec} {i : Nat} (ht : r.touch i) (m : Tr AO) : (over r.h' m r.lo).get i = r.h'.m.get i := by rw [over_get]; exact if_pos ht
theorem over_n {r : Rec} {i : Nat} (ht : ¬r.touch i) (m : Tr AO) : (over r.h' m r.lo).get i = m.get i := by rw [over_get]; exact if_neg ht
theorem memT_append (p : Rec → Bool) : ∀ (xs ys : List Rec) (m : Tr AO), memT p m (xs ++ ys) = memT p (memT p m xs) ys
  | [], _, _ => rfl
  | _ :: xs, ys, m => by simp only [List.cons_append, memT]; exact memT_append p xs ys _
theorem tsT_append (p : Rec → Bool) : ∀ (xs ys : List Rec) (m : TS), tsT p m (xs ++ ys) = tsT p (tsT p m xs) ys
  | [], _, _ => rfl
  | _ :: xs, ys, m => by simp only [List.cons_append, tsT]; exact tsT_append p xs ys _
theorem memT_congr {p q : Rec → Bool} {i : Nat} : ∀ (rs : List Rec) (m m' : Tr AO), (∀ r ∈ rs, r.touch i → p r = q r) → m.get i = m'.get i → (memT p m rs).get i = (memT q m' rs).get i
  | [], m, m', _, h => h
  | r :: rs, m, m', hp, h => by
    simp only [memT]
    refine memT_congr rs _ _ (fun x hx => hp x (List.mem_cons_of_mem _ hx)) ?_
    by_cases ht : r.touch i
    · rw [hp r List.mem_cons_self ht]
      cases q r with
      | true => simp only [cond_true]; rw [over_t ht, over_t ht]
      | false => exact h
    · have ho : ∀ m : Tr AO, (over r.h' m r.lo).get i = m.get i := fun m => over_n ht m
      cases p r <;> cases q r <;> simp only [cond_true, cond_false, ho] <;> exact h
theorem memT_none {p : Rec → Bool} {i : Nat} : ∀ (rs : List Rec) (m : Tr AO), (∀ r ∈ rs, r.touch i → p r = false) → (memT p m rs).get i = m.get i
  | [], m, _ => rfl
  | r :: rs, m, hp => by
    simp only [memT]
    rw [memT_none rs _ fun x hx => hp x (List.mem_cons_of_mem _ hx)]
    by_cases ht : r.touch i
    · rw [hp r List.mem_cons_self ht]; rfl
    · cases p r with
      | true => rw [cond_true, over_n ht]
      | false => rfl
theorem memT_true : ∀ (rs : List Rec) (m : Tr AO) (B : Nat), (∀ i, (m.get i).isSome → i < B) → (∀ r ∈ rs, ∀ i, (r.h'.m.get i).isSome → i < B) → ∀ i, ((memT (fun _ => true) m rs).get i).isSome → i < B
  | [], m, B, h, _ => h
  | r :: rs, m, B, h, hr => by
    simp only [memT, cond_true]
    refine memT_true rs _ B (fun i hi => ?_) fun x hx => hr x (List.mem_cons_of_mem _ hx)
    rw [over_get] at hi
    split at hi
    · exact hr r List.mem_cons_self i hi
    · exact h i hi
theorem putO_get (ts : TS) (d : Option Tmp) (v : Value) (t : Nat) : (putO ts d v).get t = if d = some t then some v else ts.get t := by
  cases d with
  | none => simp [putO]
  | some d =>
    simp only [putO, Tr.get_put, Option.some.injEq]
    by_cases h : t = d
    · subst h; simp
    · rw [if_neg h, if_neg (Ne.symm h)]
theorem tsT_congr {p q : Rec → Bool} {t : Nat} : ∀ (rs : List Rec) (m m' : TS), (∀ r ∈ rs, r.o.dst = some t → p r = q r) → m.get t = m'.get t → (tsT p m rs).get t = (tsT q m' rs).get t
  | [], m, m', _, h => h
  | r :: rs, m, m', hp, h => by
    simp only [tsT]
    refine tsT_congr rs _ _ (fun x hx => hp x (List.mem_cons_of_mem _ hx)) ?_
    by_cases ht : r.o.dst = some t
    · rw [hp r List.mem_cons_self ht]
      cases q r with
      | true => simp only [cond_true]; rw [putO_get, putO_get, if_pos ht, if_pos ht]
      | false => exact h
    · have ho : ∀ m : TS, (putO m r.o.dst r.v).get t = m.get t := fun m => by rw [putO_get, if_neg ht]
      cases p r <;> cases q r <;> simp only [cond_true, cond_false, ho] <;> exact h
theorem tsT_none {p : Rec → Bool} {t : Nat} : ∀ (rs : List Rec) (m : TS), (∀ r ∈ rs, r.o.dst = some t → p r = false) → (tsT p m rs).get t = m.get t
  | [], m, _ => rfl
  | r :: rs, m, hp => by
    simp only [tsT]
    rw [tsT_none rs _ fun x hx => hp x (List.mem_cons_of_mem _ hx)]
    by_cases ht : r.o.dst = some t
    · rw [hp r List.mem_cons_self ht]; rfl
    · cases p r with
      | true => rw [cond_true, putO_get, if_neg ht]
      | false => rfl

section
variable {P : Program} {ro : Nat} {X C : Hook} {ev : Option Nat → Nat → Code → St → Option (Ex × St)}
def segsOf (ear : List Rec) : List Seg := ear.map fun r => ⟨r.j, r.h'.wl, r.lo, r.h'.c⟩
/-- What is known of an operation that was taken behind the ones of E. -/
structure Fact (P : Program) (ro : Nat) (X C : Hook) (ev : Option Nat → Nat → Code → St → Option (Ex × St)) (ops : List Oper) (nt : Nat) (all : List (Nat × Oper × Nat)) (pm : Nat) (m0 : Tr AO) (ts0 : TS) (E : List Rec) (r : Rec) : Prop where
  ahead : ∀ x, r.pre.testBit x = true → ∃ k ∈ E, k.j = x
  apart : ∀ k ∈ E, k.j ≠ r.j
  run : aoper P ro X ev C ops (hideT r.j r.pre (tsT (fun _ => true) ts0 E) all) { m := cond (pureOp r.o.op) .leaf (hide r.pre (memT (fun _ => true) m0 E) (segsOf E.reverse)), c := r.lo, wl := [] } r.o = some (r.v, r.h')
  still : pureOp r.o.op = true → r.h'.wl = [] ∧ r.h'.c = r.lo
  writes : pureOp r.o.op = false → r.h'.wl = [] ∨ ∀ k ∈ E, r.pre.testBit k.j = true ∨ pm.testBit k.j = true
  dst : ∀ d, r.o.dst = some d → d < nt
  above : ∀ k ∈ E, k.h'.c ≤ r.lo
  wf : WF r.h'
theorem draw_facts (hF : Fit P) (hX : XOk P ro X) (hE : EvOk P ro ev) (hC : COk P ro C) {ops : List Oper} {aops : Array Oper} (ha : aops.toList = ops) {nt : Nat} {all : List (Nat × Oper × Nat)} {pm : Nat} {m0 : Tr AO} {ts0 : TS} {c0 : Nat} (hm0 : ∀ i, (m0.get i).isSome → i < c0) :
    ∀ (L : List (Nat × Oper × Nat)) (done : Nat) (E : List Rec) (st st' : St), adraw P ro X ev C ops nt all pm L done (segsOf E.reverse) st = some st' →
      WF st.h → st.h.m = memT (fun _ => true) m0 E → st.ts = tsT (fun _ => true) ts0 E → (∀ x, done.testBit x = true ↔ ∃ k ∈ E, k.j = x) → (∀ k ∈ E, k.h'.c ≤ st.h.c) → c0 ≤ st.h.c → (∀ k ∈ E, WF k.h') →
      ∃ recs, recs.map (fun r => (r.j, r.o, r.pre)) = L ∧ (∀ E2 r post, recs = E2 ++ r :: post → Fact P ro X C ev ops nt all pm m0 ts0 (E ++ E2) r ∧ c0 ≤ r.lo) ∧ st'.h.m = memT (fun _ => true) m0 (E ++ recs) ∧ st'.ts = tsT (fun _ => true) ts0 (E ++ recs) ∧ st'.dl = st.dl ∧
        (∀ i ∈ st.h.wl, i ∈ st'.h.wl) ∧ (∀ r ∈ recs, ∀ i ∈ r.h'.wl, i ∈ st'.h.wl) ∧ (∀ r ∈ recs, r.h'.c ≤ st'.h.c ∧ st.h.c ≤ r.lo) ∧ Up st.h st'.h
  | [], done, E, st, st', e, W, hm, ht, hd, hc, hc0, hWE => by
    simp only [adraw, Option.some.injEq] at e; subst e
    exact ⟨[], rfl, fun E2 r post h => by simp at h, by simpa using hm, by simpa using ht, rfl, fun _ h => h, fun r h => by simp at h, fun r h => by simp at h, Up.refl _⟩
  | (j, o, pre) :: os, done, E, st, st', e, W, hm, ht, hd, hc, hc0, hWE => by
    unfold adraw at e
    cases h1 : (within pre done && !Nat.testBit done j) with
    | false => rw [h1] at e; cases e
    | true =>
      rw [h1, cond_true] at e
      simp only [Bool.and_eq_true, Bool.not_eq_true'] at h1
      obtain ⟨hw, hj⟩ := h1
      split at e
      · rename_i v h' hop
        split at e
        · rename_i ts' hput
          cases h2 : (cond (pureOp o.op) (isNil h'.wl && Nat.beq h'.c st.h.c) (isNil h'.wl || within done (Nat.lor pre pm))) with
          | false => rw [h2] at e; cases e
          | true =>
            rw [h2, cond_true] at e
            let r : Rec := ⟨j, o, pre, st.h.c, v, h'⟩
            -- the input is well formed
            have hWin : WF { m := cond (pureOp o.op) .leaf (hide pre st.h.m (segsOf E.reverse)), c := st.h.c, wl := [] } := by
              refine ⟨fun i hi => ?_, fun i hi => by simp at hi⟩
              simp only at hi ⊢
              cases hpo : pureOp o.op with
              | true => rw [hpo] at hi; simp [Tr.get] at hi
              | false =>
                rw [hpo, cond_false] at hi
                obtain ⟨x, hx⟩ := Option.isSome_iff_exists.1 hi
                exact W.1 i (by rw [(hide_get _ _ _ _ _ hx).1]; rfl)
            subst ha
            have hup := (oper_ok hF hX hE hC hop).1
            have hWr : WF h' := hup.2 hWin
            have hcr : st.h.c ≤ h'.c := hup.1
            have hput2 : ts' = putO st.ts o.dst v ∧ ∀ d, o.dst = some d → d < nt := by
              cases hdst : o.dst with
              | none => rw [hdst] at hput; simp only [putD, Option.some.injEq] at hput; exact ⟨hput.symm, fun d q => by cases q⟩
              | some d =>
                rw [hdst] at hput
                simp only [putD] at hput
                by_cases hle : d + 1 ≤ nt
                · rw [bleT hle] at hput; simp only [cond_true, Option.some.injEq] at hput
                  exact ⟨hput.symm, fun d' q => by cases q; exact hle⟩
                · rw [bleF hle] at hput; cases hput
            have hmem : over h' st.h.m st.h.c = memT (fun _ => true) m0 (E ++ [r]) := by rw [memT_append, ← hm]; rfl
            have hts : ts' = tsT (fun _ => true) ts0 (E ++ [r]) := by rw [tsT_append, ← ht]; exact hput2.1
            have hdone : ∀ x, (Nat.lor done (2 ^ j)).testBit x = true ↔ ∃ k ∈ E ++ [r], k.j = x := by
              intro x
              have : (Nat.lor done (2 ^ j)).testBit x = (done.testBit x || (2 ^ j).testBit x) := Nat.testBit_or done (2 ^ j) x
              rw [this, Nat.testBit_two_pow, Bool.or_eq_true, hd, decide_eq_true_eq]
              simp only [List.mem_append, List.mem_singleton]
              constructor
              · rintro (⟨k, hk, hx⟩ | rfl)
                · exact ⟨k, .inl hk, hx⟩
                · exact ⟨r, .inr rfl, rfl⟩
              · rintro ⟨k, hk | rfl, hx⟩
                · exact .inl ⟨k, hk, hx⟩
                · exact .inr hx
            have hWnew : WF { m := over h' st.h.m st.h.c, c := h'.c, wl := addAll h'.wl st.h.wl } := by
              refine ⟨fun i hi => ?_, fun i hi => ?_⟩
              · simp only at hi ⊢
                rw [over_get] at hi
                split at hi
                · exact hWr.1 i hi
                · have := W.1 i hi; omega
              · rcases (addAll_mem _ _ _).1 hi with q | q
                · exact hWr.2 i q
                · have := W.2 i q; show i < h'.c; omega
            have hsegs : (⟨j, h'.wl, st.h.c, h'.c⟩ :: segsOf E.reverse : List Seg) = segsOf (E ++ [r]).reverse := by simp [segsOf, r]
            rw [hsegs] at e
            obtain ⟨recs, g1, g2, g3, g4, g5, g6, g7, g8, g9⟩ := draw_facts hF hX hE hC rfl hm0 os _ (E ++ [r]) _ st' e hWnew hmem hts hdone
              (fun k hk => by
                rcases List.mem_append.1 hk with q | q
                · have := hc k q; show k.h'.c ≤ h'.c; omega
                · rw [List.mem_singleton.1 q]; exact Nat.le_refl _)
              (by show c0 ≤ h'.c; omega)
              (fun k hk => by
                rcases List.mem_append.1 hk with q | q
                · exact hWE k q
                · rw [List.mem_singleton.1 q]; exact hWr)
            refine ⟨r :: recs, by simp [g1, r], ?_, by simpa using g3, by simpa using g4, g5, fun i hi => g6 i ((addAll_mem _ _ _).2 (.inr hi)), ?_, ?_, ?_⟩
            · intro E2 x post hsplit
              cases E2 with
              | nil =>
                simp only [List.nil_append, List.cons.injEq] at hsplit
                obtain ⟨rfl, rfl⟩ := hsplit
                refine ⟨⟨fun x hx => by simpa using (hd x).1 (within_bit hw x hx), fun k hk q => ?_, ?_, fun hp => ?_, fun hp => ?_, hput2.2, ?_, hWr⟩, hc0⟩
                · have := (hd j).2 ⟨k, by simpa using hk, q⟩
                  rw [hj] at this; cases this
                · simp only [List.append_nil, ← hm, ← ht]; exact hop
                · rw [show pureOp o.op = true from hp] at h2
                  simp only [cond_true, Bool.and_eq_true] at h2
                  refine ⟨?_, Nat.eq_of_beq_eq_true h2.2⟩
                  show h'.wl = []
                  cases hwl : h'.wl with
                  | nil => rfl
                  | cons a b => rw [hwl] at h2; simp [isNil] at h2
                · rw [show pureOp o.op = false from hp] at h2
                  simp only [cond_false, Bool.or_eq_true] at h2
                  rcases h2 with q | q
                  · refine .inl ?_
                    show h'.wl = []
                    cases hwl : h'.wl with
                    | nil => rfl
                    | cons a b => rw [hwl] at q; simp [isNil] at q
                  · refine .inr fun k hk => ?_
                    have := within_bit q k.j ((hd k.j).2 ⟨k, by simpa using hk, rfl⟩)
                    have h3 : (Nat.lor pre pm).testBit k.j = (pre.testBit k.j || pm.testBit k.j) := Nat.testBit_or pre pm k.j
                    rw [h3, Bool.or_eq_true] at this
                    exact this
                · intro k hk
                  exact hc k (by simpa using hk)
              | cons y E3 =>
                simp only [List.cons_append, List.cons.injEq] at hsplit
                obtain ⟨rfl, hs⟩ := hsplit
                have := g2 E3 x post hs
                simpa using this
            · intro x hx i hi
              rcases List.mem_cons.1 hx with rfl | hx
              · exact g6 i ((addAll_mem _ _ _).2 (.inl hi))
              · exact g7 x hx i hi
            · intro x hx
              rcases List.mem_cons.1 hx with rfl | hx
              · exact ⟨g9.1, Nat.le_refl _⟩
              · have := g8 x hx
                exact ⟨this.1, by have := this.2; simp only at this; omega⟩
            · exact ⟨by have := g9.1; simp only at this; omega, fun _ => g9.2 hWnew⟩
        · cases e
      · cases e
end
end Ex
end Go.Proofs.YtgbladpoglhleaaGreatDoor
