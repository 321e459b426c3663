/- A row of operations whose order is drawn: each order is sound. No condition. -/
import Derived.Test.YtgbladpoglhleaaGreatDoorRun15
namespace Go.Proofs.YtgbladpoglhleaaGreatDoor
namespace Ex
section
variable {P : Program} {ro : Nat} {X C : Hook} {ev : Option Nat → Nat → Code → St → Option (Ex × St)}
/-- Which ones have run. -/
def ranB (S : Nat → Bool) (r : Rec) : Bool := S r.j
/-- All that the evaluator did, in its own order. -/
structure Drawn (P : Program) (ro : Nat) (X C : Hook) (ev : Option Nat → Nat → Code → St → Option (Ex × St)) (ops : Array Oper) (nt : Nat) (all : List (Nat × Oper × Nat)) (m0 : Tr AO) (ts0 : TS) (c0 cE : Nat) (wl0 wlE : List Nat) (recs : List Rec) : Prop where
  facts : ∀ E r post, recs = E ++ r :: post → Fact P ro X C ev ops.toList nt all (pureMask 0 ops.toList) m0 ts0 E r ∧ c0 ≤ r.lo
  is : ∀ r ∈ recs, ops[r.j]? = some r.o
  every : ∀ (i : Nat) o, ops[i]? = some o → ∃ r ∈ recs, r.j = i
  all_mem : ∀ r ∈ recs, (r.j, r.o, r.pre) ∈ all
  edges : ∀ r ∈ recs, ∀ x, r.pre.testBit x = true → ∃ e ∈ r.o.after.toList, Region.binds .any e = true ∧ (x = e.on ∨ ∃ k ∈ recs, k.j = e.on ∧ k.pre.testBit x = true)
  bound : ∀ r ∈ recs, ∀ e ∈ r.o.after.toList, Region.binds .any e = true → r.pre.testBit e.on = true
  dsts : ∀ r ∈ recs, ∀ k ∈ recs, ∀ d, r.o.dst = some d → k.o.dst = some d → r.j = k.j
  m0wf : ∀ i, (m0.get i).isSome → i < c0
  wls : ∀ r ∈ recs, ∀ i ∈ r.h'.wl, i ∈ wlE
  wl0 : ∀ i ∈ wl0, i ∈ wlE
  cs : ∀ r ∈ recs, r.h'.c ≤ cE
/-- What stands when those of S have run. -/
structure Inv (P : Program) (ro : Nat) (nt : Nat) (m0 : Tr AO) (ts0 : TS) (wlE wl0 : List Nat) (dl : List Nat) (recs : List Rec) (κ0 : K) (w0 : World) (S : Nat → Bool) (κ : K) (a : Act) (w : World) : Prop where
  hr : HR P κ (memT (ranB S) m0 recs) w
  tr : TR κ (tsT (ranB S) ts0 recs) a.tmps
  nt : a.tmps.size = nt
  dr : DR κ dl a.defers
  core : Core ro κ0 κ m0 (memT (ranB S) m0 recs) wl0 wlE w0 w
  dom : ∀ i, κ.dom i → κ0.dom i ∨ ∃ r ∈ recs, S r.j = true ∧ r.lo ≤ i ∧ i < r.h'.c
section
variable {ops : Array Oper} {nt : Nat} {all : List (Nat × Oper × Nat)} {m0 : Tr AO} {ts0 : TS} {c0 cE : Nat} {wl0 wlE : List Nat} {recs : List Rec}
theorem Drawn.apart (D : Drawn P ro X C ev ops nt all m0 ts0 c0 cE wl0 wlE recs) {E post : List Rec} {r : Rec} (hs : recs = E ++ r :: post) : (∀ k ∈ E, k.j ≠ r.j) ∧ ∀ k ∈ post, k.j ≠ r.j := by
  refine ⟨(D.facts E r post hs).1.apart, fun k hk => ?_⟩
  obtain ⟨p1, p2, hp⟩ := List.append_of_mem hk
  have := (D.facts (E ++ r :: p1) k p2 (by rw [hs, hp]; simp)).1.apart r (by simp)
  exact fun q => this q.symm
theorem Drawn.one (D : Drawn P ro X C ev ops nt all m0 ts0 c0 cE wl0 wlE recs) {r k : Rec} (hr : r ∈ recs) (hk : k ∈ recs) (e : k.j = r.j) : k = r := by
  obtain ⟨E, post, hs⟩ := List.append_of_mem hr
  obtain ⟨a, b⟩ := D.apart hs
  rw [hs] at hk
  rcases List.mem_append.1 hk with q | q
  · exact absurd e (a k q)
  · rcases List.mem_cons.1 q with q | q
    · exact q
    · exact absurd e (b k q)
/-- A record's blocks stand below those behind it. -/
theorem Drawn.later (D : Drawn P ro X C ev ops nt all m0 ts0 c0 cE wl0 wlE recs) {E post : List Rec} {r : Rec} (hs : recs = E ++ r :: post) : ∀ k ∈ post, r.h'.c ≤ k.lo := by
  intro k hk
  obtain ⟨p1, p2, hp⟩ := List.append_of_mem hk
  exact (D.facts (E ++ r :: p1) k p2 (by rw [hs, hp]; simp)).1.above r (by simp)
theorem Drawn.up (D : Drawn P ro X C ev ops nt all m0 ts0 c0 cE wl0 wlE recs) (hF : Fit P) (hX : XOk P ro X) (hE : EvOk P ro ev) (hC : COk P ro C) {E post : List Rec} {r : Rec} (hs : recs = E ++ r :: post) : r.lo ≤ r.h'.c :=
  (oper_ok hF hX hE hC (D.facts E r post hs).1.run).1.1
/-- The memory that an operation was run over stands in the memory that is there. -/
theorem Drawn.sub (D : Drawn P ro X C ev ops nt all m0 ts0 c0 cE wl0 wlE recs) (hF : Fit P) (hX : XOk P ro X) (hE : EvOk P ro ev) (hC : COk P ro C) {E post : List Rec} {r : Rec} (hs : recs = E ++ r :: post) {S : Nat → Bool}
    (hS : ∀ k ∈ recs, S k.j = true → ∀ x, k.pre.testBit x = true → S x = true) (hr : S r.j = false) (hp : ∀ x, r.pre.testBit x = true → S x = true) :
    (∀ i o, (cond (pureOp r.o.op) .leaf (hide r.pre (memT (fun _ => true) m0 E) (segsOf E.reverse)) : Tr AO).get i = some o → (memT (ranB S) m0 recs).get i = some o ∧ i < r.lo) ∧
    (∀ t v, (hideT r.j r.pre (tsT (fun _ => true) ts0 E) all).get t = some v → (tsT (ranB S) ts0 recs).get t = some v) ∧
    (∀ k ∈ post, S k.j = true → ∀ i, r.touch i → ¬k.touch i) := by
  obtain ⟨F, hc0⟩ := D.facts E r post hs
  have hrm : r ∈ recs := by rw [hs]; simp
  have hpostS : ∀ k ∈ post, S k.j = true → k.pre.testBit r.j = false := fun k hk hSk => by
    cases hb : k.pre.testBit r.j with
    | false => rfl
    | true => have := hS k (by rw [hs]; simp [hk]) hSk r.j hb; rw [hr] at this; cases this
  -- those behind it that have run wrote nothing that was there, unless it is pure
  have hpostW : pureOp r.o.op = false → ∀ k ∈ post, S k.j = true → k.h'.wl = [] := fun hpo k hk hSk => by
    obtain ⟨p1, p2, hpp⟩ := List.append_of_mem hk
    obtain ⟨Fk, _⟩ := D.facts (E ++ r :: p1) k p2 (by rw [hs, hpp]; simp)
    cases hpk : pureOp k.o.op with
    | true => exact (Fk.still hpk).1
    | false =>
      rcases Fk.writes hpk with q | q
      · exact q
      · exfalso
        rcases q r (by simp) with q | q
        · rw [hpostS k hk hSk] at q; cases q
        · obtain ⟨n, o, h1, h2, h3⟩ := pureMask_bit _ _ _ q
          have h4 := D.is r hrm
          rw [← Array.getElem?_toList] at h4
          rw [Nat.zero_add] at h1
          rw [h1, h2] at h4
          cases h4
          rw [hpo] at h3; cases h3
  refine ⟨fun i o hi => ?_, fun t v hv => ?_, fun k hk hSk i hti htk => ?_⟩
  · cases hpo : pureOp r.o.op with
    | true => rw [hpo] at hi; simp [Tr.get] at hi
    | false =>
      rw [hpo, cond_false] at hi
      obtain ⟨h1, h2⟩ := hide_get _ _ _ _ _ hi
      have hlt : i < r.lo := by
        refine memT_true E m0 r.lo (fun i hi => by have := D.m0wf i hi; omega) (fun k hk i hi => ?_) i (by rw [h1]; rfl)
        obtain ⟨p1, p2, hpp⟩ := List.append_of_mem hk
        have hwf := (D.facts p1 k (p2 ++ r :: post) (by rw [hs, hpp]; simp)).1.wf
        have := hwf.1 i hi
        have := F.above k hk
        omega
      refine ⟨?_, hlt⟩
      rw [← h1, hs, memT_append]
      simp only [memT]
      have hfr : ranB S r = false := hr
      rw [hfr, cond_false]
      rw [memT_none post _ fun k hk htk => ?_]
      · refine memT_congr E _ _ (fun k hk htk => ?_) rfl
        show S k.j = true
        cases hb : r.pre.testBit k.j with
        | true => exact hp _ hb
        | false =>
          exfalso
          refine h2 ⟨k.j, k.h'.wl, k.lo, k.h'.c⟩ ?_ hb htk
          unfold segsOf
          exact List.mem_map.2 ⟨k, by simpa using hk, rfl⟩
      · cases hSk : S k.j with
        | false => exact hSk
        | true =>
          exfalso
          rcases htk with q | q
          · rw [hpostW hpo k hk hSk] at q; simp at q
          · have := D.later hs k hk
            have := D.up hF hX hE hC hs
            omega
  · obtain ⟨h1, h2⟩ := hideT_get _ _ _ _ _ _ hv
    rw [← h1, hs, tsT_append]
    simp only [tsT]
    have hfr : ranB S r = false := hr
    rw [hfr, cond_false]
    rw [tsT_none post _ fun k hk hdk => ?_]
    · refine tsT_congr E _ _ (fun k hk hdk => ?_) rfl
      show S k.j = true
      have hkm : k ∈ recs := by rw [hs]; simp [hk]
      rcases h2 _ (D.all_mem k hkm) hdk with q | q | q
      · exact hp _ q
      · exfalso
        obtain ⟨p1, p2, hpp⟩ := List.append_of_mem hk
        obtain ⟨x, hx, hxj⟩ := (D.facts p1 k (p2 ++ r :: post) (by rw [hs, hpp]; simp)).1.ahead _ q
        exact F.apart x (by rw [hpp]; simp [hx]) hxj
      · exact absurd q (F.apart k hk)
    · have hkm : k ∈ recs := by rw [hs]; simp [hk]
      rcases h2 _ (D.all_mem k hkm) hdk with q | q | q
      · exfalso
        obtain ⟨x, hx, hxj⟩ := F.ahead _ q
        have := D.one hkm (by rw [hs]; simp [hx]) hxj
        subst this
        obtain ⟨p1, p2, hpp⟩ := List.append_of_mem hk
        exact (D.facts (E ++ r :: p1) x p2 (by rw [hs, hpp]; simp)).1.apart x (by simp [hx]) rfl
      · cases hSk : S k.j with
        | false => exact hSk
        | true => rw [hpostS k hk hSk] at q; cases q
      · exact absurd q ((D.apart hs).2 k hk)
  · cases hpo : pureOp r.o.op with
    | true =>
      obtain ⟨q1, q2⟩ := F.still hpo
      rcases hti with q | q
      · rw [q1] at q; simp at q
      · omega
    | false =>
      have hlt : i < r.h'.c := by
        rcases hti with q | q
        · exact F.wf.2 i q
        · exact q.2
      rcases htk with q | q
      · rw [hpostW hpo k hk hSk] at q; simp at q
      · have := D.later hs k hk
        omega
end
end
end Ex
end Go.Proofs.YtgbladpoglhleaaGreatDoor
