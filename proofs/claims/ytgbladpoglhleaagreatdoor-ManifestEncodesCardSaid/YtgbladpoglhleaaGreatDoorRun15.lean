/- A row of operations whose order is drawn: each order is sound. No condition. -/
import Derived.Test.YtgbladpoglhleaaGreatDoorRun14
namespace Go.Proofs.YtgbladpoglhleaaGreatDoor
namespace Ex
/-- What becomes of both, the count left out. -/
structure Core (ro : Nat) (κ κ' : K) (m m' : Tr AO) (wl wl' : List Nat) (w w' : World) : Prop where
  ext : Ext κ κ'
  size : w.heap.size ≤ w'.heap.size
  os : w'.os = w.os
  tape : w'.tape = w.tape
  output : w'.output = w.output
  frame : ∀ b, b < w.heap.size → (∀ i, ro ≤ i → (m.get i).isSome → κ.p i ≠ b) → w'.heap[b]? = w.heap[b]?
  fresh : ∀ i, (m'.get i).isSome → κ.dom i ∨ w.heap.size ≤ κ'.p i ∨ ∃ k, ro ≤ k ∧ κ.dom k ∧ (m.get k).isSome ∧ m'.get k = none ∧ κ'.p i = κ.p k
  old : ∀ i, κ.dom i → (m'.get i).isSome → (m.get i).isSome
  same : ∀ i, κ.dom i → i ∉ wl' → m'.get i = m.get i
  wle : ∀ i, i ∈ wl → i ∈ wl'
theorem Core.trans {ro : Nat} {κ κ1 κ2 : K} {h h1 h2 : Tr AO} {wl wl1 wl2 : List Nat} {w w1 w2 : World} (A : Core ro κ κ1 h h1 wl wl1 w w1) (B : Core ro κ1 κ2 h1 h2 wl1 wl2 w1 w2) : Core ro κ κ2 h h2 wl wl2 w w2 where
  ext := A.ext.trans B.ext
  size := Nat.le_trans A.size B.size
  os := B.os.trans A.os
  tape := B.tape.trans A.tape
  output := B.output.trans A.output
  frame := fun b hb hn => by
    rw [← A.frame b hb hn]
    refine B.frame b (Nat.lt_of_lt_of_le hb A.size) fun i hr hi => ?_
    rcases A.fresh i hi with d | d | ⟨k, hk, hd, hs, _, e⟩
    · rw [A.ext.p i d]; exact hn i hr (A.old i d hi)
    · omega
    · rw [e]; exact hn k hk hs
  fresh := fun i hi => by
    have hnone : ∀ k, κ.dom k → h1.get k = none → h2.get k = none := fun k hd hk => by
      cases e : h2.get k with
      | none => rfl
      | some x => have := B.old k (A.ext.dom k hd) (by rw [e]; rfl); rw [hk] at this; simp at this
    rcases B.fresh i hi with d | d | ⟨k, hk, hd, hs, hz, e⟩
    · have h1i := B.old i d hi
      rcases A.fresh i h1i with a | a | ⟨k, hk, hd, hs, hz, e⟩
      · exact .inl a
      · exact .inr (.inl (by rw [B.ext.p i d]; exact a))
      · exact .inr (.inr ⟨k, hk, hd, hs, hnone k hd hz, by rw [B.ext.p i d]; exact e⟩)
    · exact .inr (.inl (Nat.le_trans A.size d))
    · rcases A.fresh k hs with a | a | ⟨k0, hk0, hd0, hs0, hz0, e0⟩
      · exact .inr (.inr ⟨k, hk, a, A.old k a hs, hz, by rw [e, A.ext.p k a]⟩)
      · exact .inr (.inl (by rw [e]; exact a))
      · exact .inr (.inr ⟨k0, hk0, hd0, hs0, hnone k0 hd0 hz0, by rw [e, e0]⟩)
  old := fun i hd hi => A.old i hd (B.old i (A.ext.dom i hd) hi)
  same := fun i hd hn => by rw [B.same i (A.ext.dom i hd) hn]; exact A.same i hd fun hw => hn (B.wle i hw)
  wle := fun i hi => B.wle i (A.wle i hi)

/-! ### The masks -/
theorem takeOut_mem {f : Nat × Oper × Nat → Bool} : ∀ {l : List (Nat × Oper × Nat)} {x l'}, takeOut f l = some (x, l') → ∀ y, y ∈ l ↔ y = x ∨ y ∈ l'
  | [], x, l', e, y => by simp [takeOut] at e
  | z :: zs, x, l', e, y => by
    unfold takeOut at e
    cases hf : f z with
    | true =>
      rw [hf, cond_true] at e
      simp only [Option.some.injEq, Prod.mk.injEq] at e
      obtain ⟨rfl, rfl⟩ := e
      simp
    | false =>
      rw [hf, cond_false] at e
      split at e
      · rename_i u us hu
        simp only [Option.some.injEq, Prod.mk.injEq] at e
        obtain ⟨rfl, rfl⟩ := e
        have := takeOut_mem hu y
        simp only [List.mem_cons, this]
        constructor
        · rintro (a | a | a)
          · exact .inr (.inl a)
          · exact .inl a
          · exact .inr (.inr a)
        · rintro (a | a | a)
          · exact .inr (.inl a)
          · exact .inl a
          · exact .inr (.inr a)
      · cases e
theorem sched_mem : ∀ (n d : Nat) (l : List (Nat × Oper × Nat)) (y : Nat × Oper × Nat), y ∈ sched n d l ↔ y ∈ l
  | 0, _, l, y => Iff.rfl
  | n + 1, d, l, y => by
    unfold sched
    split
    · rename_i x l' hx
      rw [List.mem_cons, sched_mem n, takeOut_mem hx]
    · split
      · rename_i x l' hx
        rw [List.mem_cons, sched_mem n, takeOut_mem hx]
      · split
        · rename_i x l' hx
          rw [List.mem_cons, sched_mem n, takeOut_mem hx]
        · exact Iff.rfl
theorem zip3_mem : ∀ (os : List Oper) (ps : List Nat) (k : Nat) (x : Nat × Oper × Nat), x ∈ zip3 k os ps ↔ ∃ n, x.1 = k + n ∧ os[n]? = some x.2.1 ∧ ps[n]? = some x.2.2
  | [], ps, k, x => by simp [zip3]
  | o :: os, [], k, x => by simp [zip3]
  | o :: os, p :: ps, k, x => by
    rw [zip3, List.mem_cons, zip3_mem os ps (k + 1) x]
    constructor
    · rintro (rfl | ⟨n, h1, h2, h3⟩)
      · exact ⟨0, rfl, rfl, rfl⟩
      · exact ⟨n + 1, by omega, h2, h3⟩
    · rintro ⟨n, h1, h2, h3⟩
      cases n with
      | zero =>
        simp at h2 h3
        obtain ⟨a, b, c⟩ := x
        simp only at h1 h2 h3
        exact .inl (by rw [h1, ← h2, ← h3]; rfl)
      | succ n => exact .inr ⟨n, by omega, by simpa using h2, by simpa using h3⟩
theorem preOf_spec {pres : List Nat} : ∀ {es : List Edge} {q : Nat}, preOf pres es = some q →
    (∀ x, q.testBit x = true → ∃ e ∈ es, Region.binds .any e = true ∧ ∃ p, pres[e.on]? = some p ∧ (x = e.on ∨ p.testBit x = true)) ∧ (∀ e ∈ es, Region.binds .any e = true → q.testBit e.on = true)
  | [], q, h => by simp only [preOf, Option.some.injEq] at h; subst h; exact ⟨fun x hx => by simp at hx, fun e he => by simp at he⟩
  | e :: es, q, h => by
    unfold preOf at h
    split at h
    · rename_i q' hq
      obtain ⟨i1, i2⟩ := preOf_spec hq
      have skip : Region.binds .any e = false → q' = q → (∀ x, q.testBit x = true → ∃ e' ∈ e :: es, Region.binds .any e' = true ∧ ∃ p, pres[e'.on]? = some p ∧ (x = e'.on ∨ p.testBit x = true)) ∧ (∀ e' ∈ e :: es, Region.binds .any e' = true → q.testBit e'.on = true) := fun hb he => by
        subst he
        exact ⟨fun x hx => let ⟨e', h1, h2⟩ := i1 x hx; ⟨e', List.mem_cons_of_mem _ h1, h2⟩, fun e' he' hb' => by
          rcases List.mem_cons.1 he' with rfl | he'
          · rw [hb] at hb'; cases hb'
          · exact i2 e' he' hb'⟩
      split at h
      · rename_i row hg
        simp only [Option.some.injEq] at h
        exact skip (by unfold Region.binds; rw [hg]; rfl) h
      · rename_i row hg
        simp only [Option.some.injEq] at h
        exact skip (by unfold Region.binds; rw [hg]; rfl) h
      · rename_i hg1 hg2
        have hb : Region.binds .any e = true := by
          unfold Region.binds
          cases hg : e.ground with
          | textOnly r => exact absurd hg (hg1 r)
          | gcOnly r => exact absurd hg (hg2 r)
          | _ => rfl
        split at h
        · rename_i p hp
          simp only [Option.some.injEq] at h; subst h
          have hbit : ∀ x, (Nat.lor (Nat.lor p (2 ^ e.on)) q').testBit x = ((p.testBit x || (2 ^ e.on).testBit x) || q'.testBit x) := fun x => by
            have h1 : (Nat.lor (Nat.lor p (2 ^ e.on)) q').testBit x = ((Nat.lor p (2 ^ e.on)).testBit x || q'.testBit x) := Nat.testBit_or _ _ x
            have h2 : (Nat.lor p (2 ^ e.on)).testBit x = (p.testBit x || (2 ^ e.on).testBit x) := Nat.testBit_or _ _ x
            rw [h1, h2]
          refine ⟨fun x hx => ?_, fun e' he' hb' => ?_⟩
          · rw [hbit, Bool.or_eq_true, Bool.or_eq_true] at hx
            rcases hx with (a | a) | a
            · exact ⟨e, List.mem_cons_self, hb, p, hp, .inr a⟩
            · rw [Nat.testBit_two_pow] at a
              exact ⟨e, List.mem_cons_self, hb, p, hp, .inl (by simp at a; exact a.symm)⟩
            · obtain ⟨e', h1, h2⟩ := i1 x a
              exact ⟨e', List.mem_cons_of_mem _ h1, h2⟩
          · rw [hbit]
            rcases List.mem_cons.1 he' with rfl | he'
            · simp [Nat.testBit_two_pow]
            · simp [i2 e' he' hb']
        · cases h
    · cases h
theorem presOf_spec : ∀ {os : List Oper} {p0 pres : List Nat}, presOf os p0 = some pres → (∃ r, pres = p0 ++ r) ∧ pres.length = p0.length + os.length ∧
    ∀ (i : Nat) o, os[i]? = some o → ∃ q, pres[p0.length + i]? = some q ∧ preOf (pres.take (p0.length + i)) o.after.toList = some q
  | [], p0, pres, h => by simp only [presOf, Option.some.injEq] at h; subst h; exact ⟨⟨[], by simp⟩, rfl, fun i o hi => by simp at hi⟩
  | o :: os, p0, pres, h => by
    unfold presOf at h
    split at h
    · rename_i p hp
      obtain ⟨⟨r, hr⟩, hlen, hi⟩ := presOf_spec h
      refine ⟨⟨p :: r, by rw [hr]; simp⟩, by rw [hlen]; simp; omega, fun i o' ho' => ?_⟩
      cases i with
      | zero =>
        simp only [List.getElem?_cons_zero, Option.some.injEq] at ho'; subst ho'
        refine ⟨p, by rw [hr]; simp, ?_⟩
        have : pres.take (p0.length + 0) = p0 := by rw [hr]; simp
        rw [this]; exact hp
      | succ i =>
        obtain ⟨q, h1, h2⟩ := hi i o' (by simpa using ho')
        simp only [List.length_append, List.length_singleton] at h1 h2
        exact ⟨q, by rw [show p0.length + (i + 1) = p0.length + 1 + i from by omega]; exact h1, by rw [show p0.length + (i + 1) = p0.length + 1 + i from by omega]; exact h2⟩
    · cases h
theorem pureMask_bit : ∀ (os : List Oper) (k i : Nat), (pureMask k os).testBit i = true → ∃ n o, i = k + n ∧ os[n]? = some o ∧ pureOp o.op = true
  | [], k, i, h => by simp [pureMask] at h
  | o :: os, k, i, h => by
    unfold pureMask at h
    cases hp : pureOp o.op with
    | false =>
      rw [hp, cond_false] at h
      obtain ⟨n, o', h1, h2, h3⟩ := pureMask_bit os (k + 1) i h
      exact ⟨n + 1, o', by omega, h2, h3⟩
    | true =>
      rw [hp, cond_true] at h
      have hb : (Nat.lor (2 ^ k) (pureMask (k + 1) os)).testBit i = ((2 ^ k).testBit i || (pureMask (k + 1) os).testBit i) := Nat.testBit_or _ _ i
      rw [hb, Bool.or_eq_true, Nat.testBit_two_pow] at h
      rcases h with a | a
      · exact ⟨0, o, by simp at a; omega, rfl, hp⟩
      · obtain ⟨n, o', h1, h2, h3⟩ := pureMask_bit os (k + 1) i a
        exact ⟨n + 1, o', by omega, h2, h3⟩
theorem dsts_nodup : ∀ {os : List Oper}, nodupB (dsts os) = true → ∀ (i j : Nat) (a b : Oper) d, os[i]? = some a → os[j]? = some b → a.dst = some d → b.dst = some d → i = j := by
  have memd : ∀ {os : List Oper} {i : Nat} {a : Oper} {d : Tmp}, os[i]? = some a → a.dst = some d → d ∈ dsts os := by
    intro os
    induction os with
    | nil => intro i a d h; simp at h
    | cons o os ih =>
      intro i a d h hd
      unfold dsts
      cases i with
      | zero => simp only [List.getElem?_cons_zero, Option.some.injEq] at h; subst h; rw [hd]; exact List.mem_cons_self
      | succ i =>
        have := ih (i := i) (by simpa using h) hd
        split
        · exact List.mem_cons_of_mem _ this
        · exact this
  intro os
  induction os with
  | nil => intro _ i j a b d h; simp at h
  | cons o os ih =>
    intro hn i j a b d hi hj ha hb
    unfold dsts at hn
    have hrest : nodupB (dsts os) = true ∧ ∀ d', o.dst = some d' → d' ∉ dsts os := by
      split at hn
      · rename_i d' hd'
        simp only [nodupB, Bool.and_eq_true, Bool.not_eq_true'] at hn
        refine ⟨hn.2, fun d2 h2 hm => ?_⟩
        rw [hd'] at h2; cases h2
        have : (dsts os).elem d' = true := by simpa using hm
        rw [this] at hn; simp at hn
      · rename_i hd'
        exact ⟨hn, fun d2 h2 => by rw [hd'] at h2; cases h2⟩
    cases i with
    | zero =>
      simp only [List.getElem?_cons_zero, Option.some.injEq] at hi; subst hi
      cases j with
      | zero => rfl
      | succ j => exact absurd (memd (by simpa using hj) hb) (hrest.2 d ha)
    | succ i =>
      cases j with
      | zero =>
        simp only [List.getElem?_cons_zero, Option.some.injEq] at hj; subst hj
        exact absurd (memd (by simpa using hi) ha) (hrest.2 d hb)
      | succ j => rw [ih hrest.1 i j a b d (by simpa using hi) (by simpa using hj) ha hb]
end Ex
end Go.Proofs.YtgbladpoglhleaaGreatDoor
