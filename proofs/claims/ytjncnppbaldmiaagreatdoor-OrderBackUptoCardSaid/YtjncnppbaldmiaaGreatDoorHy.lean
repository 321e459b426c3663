/- Known calls as hooks. No condition. -/
import Derived.Test.YtjncnppbaldmiaaGreatDoorHz
namespace Go.Proofs.YtjncnppbaldmiaaGreatDoor
section
open Go.RowKit
namespace Ex
/-! ### what is one and the same -/
def eqInt : Int → Int → Bool
  | .ofNat a, .ofNat b => Nat.beq a b
  | .negSucc a, .negSucc b => Nat.beq a b
  | _, _ => false
def eqVs (e : Value → Value → Bool) : List Value → List Value → Bool
  | [], [] => true
  | x :: xs, y :: ys => cond (e x y) (eqVs e xs ys) false
  | _, _ => false
def eqV : Nat → Value → Value → Bool
  | _, .bool a, .bool b => cond a b (!b)
  | _, .int k a, .int l b => cond (decide (k = l)) (eqInt a b) false
  | _, .string a, .string b => eqL a.data.toList b.data.toList
  | _, .nilFunc, .nilFunc => true
  | _, .nilIface, .nilIface => true
  | _, .pointer none, .pointer none => true
  | _, .map none, .map none => true
  | _, .pointer (some ⟨a, i, none⟩), .pointer (some ⟨b, j, none⟩) => cond (Nat.beq a b) (Nat.beq i j) false
  | _, .map (some a), .map (some b) => Nat.beq a b
  | _, .slice none n c, .slice none m d => cond (Nat.beq n m) (Nat.beq c d) false
  | _, .slice (some ⟨a, i, none⟩) n c, .slice (some ⟨b, j, none⟩) m d => cond (Nat.beq a b) (cond (Nat.beq i j) (cond (Nat.beq n m) (Nat.beq c d) false) false) false
  | n + 1, .iface t v, .iface u w => cond (Nat.beq t u) (eqV n v w) false
  | n + 1, .tuple xs, .tuple ys => eqVs (eqV n) xs.toList ys.toList
  | n + 1, .agg xs, .agg ys => eqVs (eqV n) xs.toList ys.toList
  | n + 1, .func (.func f) xs ys, .func (.func g) zs us => cond (Nat.beq f g) (cond (eqVs (eqV n) xs.toList zs.toList) (eqVs (eqV n) ys.toList us.toList) false) false
  | _, _, _ => false
def eqEs : List MapEntry → List MapEntry → Bool
  | [], [] => true
  | x :: xs, y :: ys => cond (eqV 4 x.key y.key) (cond (eqV 4 x.val y.val) (cond (Nat.beq x.born y.born) (eqEs xs ys) false) false) false
  | _, _ => false
def eqAO : AO → AO → Bool
  | .cells c e fr, .cells d u gr => cond (Nat.beq e u) (cond (cond fr gr (!gr)) (eqVs (eqV 4) c d) false) false
  | .map es cl, .map fs dl => cond (Nat.beq cl dl) (eqEs es fs) false
  | .bag ks, .bag ls => eqVs (eqV 4) ks ls
  | .dfr, .dfr => true
  | _, _ => false
def eqOA : Option AO → Option AO → Bool
  | none, _ => true
  | some x, some y => eqAO x y
  | _, _ => false
/-- All that stands in the one stands in the other. -/
def subT : Tr AO → Tr AO → Bool
  | .leaf, _ => true
  | .node v l r, .leaf => cond (eqOA v none) (cond (subT l .leaf) (subT r .leaf) false) false
  | .node v l r, .node v' l' r' => cond (eqOA v v') (cond (subT l l') (subT r r') false) false
def eqNats : List Nat → List Nat → Bool
  | [], [] => true
  | x :: xs, y :: ys => cond (Nat.beq x y) (eqNats xs ys) false
  | _, _ => false
theorem eqInt_ok {a b : Int} (h : eqInt a b = true) : a = b := by
  unfold eqInt at h
  split at h
  · rw [Nat.eq_of_beq_eq_true h]
  · rw [Nat.eq_of_beq_eq_true h]
  · cases h
theorem cand {a b : Bool} (h : cond a b false = true) : a = true ∧ b = true := by cases a <;> simp_all
theorem eqVs_ok {e : Value → Value → Bool} (he : ∀ x y, e x y = true → x = y) : ∀ {xs ys : List Value}, eqVs e xs ys = true → xs = ys
  | [], [], _ => rfl
  | [], _ :: _, h => by cases h
  | _ :: _, [], h => by cases h
  | x :: xs, y :: ys, h => by
    unfold eqVs at h
    obtain ⟨h1, h2⟩ := cand h
    rw [he x y h1, eqVs_ok he h2]
theorem eqV_ok : ∀ (n : Nat) (x y : Value), eqV n x y = true → x = y := by
  intro n
  induction n with
  | zero =>
    intro x y h
    unfold eqV at h
    split at h <;> first
      | (cases h; done)
      | rfl
      | (rename_i a b; revert h; cases a <;> cases b <;> simp; done)
      | (obtain ⟨h1, h2⟩ := cand h; rw [of_decide_eq_true h1, eqInt_ok h2]; done)
      | (rw [ba_ext (eqL_iff.1 h)]; done)
      | (obtain ⟨h1, h2⟩ := cand h; rw [Nat.eq_of_beq_eq_true h1, Nat.eq_of_beq_eq_true h2]; done)
      | (rw [Nat.eq_of_beq_eq_true h]; done)
      | (obtain ⟨h1, h2⟩ := cand h; obtain ⟨h2, h3⟩ := cand h2; obtain ⟨h3, h4⟩ := cand h3; rw [Nat.eq_of_beq_eq_true h1, Nat.eq_of_beq_eq_true h2, Nat.eq_of_beq_eq_true h3, Nat.eq_of_beq_eq_true h4]; done)
  | succ n ih =>
    intro x y h
    unfold eqV at h
    split at h <;> first
      | (cases h; done)
      | rfl
      | (rename_i a b; revert h; cases a <;> cases b <;> simp; done)
      | (obtain ⟨h1, h2⟩ := cand h; rw [of_decide_eq_true h1, eqInt_ok h2]; done)
      | (rw [ba_ext (eqL_iff.1 h)]; done)
      | (obtain ⟨h1, h2⟩ := cand h; rw [Nat.eq_of_beq_eq_true h1, Nat.eq_of_beq_eq_true h2]; done)
      | (rw [Nat.eq_of_beq_eq_true h]; done)
      | (obtain ⟨h1, h2⟩ := cand h; obtain ⟨h2, h3⟩ := cand h2; obtain ⟨h3, h4⟩ := cand h3; rw [Nat.eq_of_beq_eq_true h1, Nat.eq_of_beq_eq_true h2, Nat.eq_of_beq_eq_true h3, Nat.eq_of_beq_eq_true h4]; done)
      | (rename_i hn; cases hn; obtain ⟨h1, h2⟩ := cand h; rw [Nat.eq_of_beq_eq_true h1, ih _ _ h2]; done)
      | (rename_i hn; cases hn; rw [Array.ext' (eqVs_ok ih h)]; done)
      | (rename_i hn; cases hn; obtain ⟨h1, h2⟩ := cand h; obtain ⟨h2, h3⟩ := cand h2; rw [Nat.eq_of_beq_eq_true h1, Array.ext' (eqVs_ok ih h2), Array.ext' (eqVs_ok ih h3)]; done)
theorem eqEs_ok : ∀ {xs ys : List MapEntry}, eqEs xs ys = true → xs = ys
  | [], [], _ => rfl
  | [], _ :: _, h => by cases h
  | _ :: _, [], h => by cases h
  | x :: xs, y :: ys, h => by
    unfold eqEs at h
    obtain ⟨h1, h2⟩ := cand h
    obtain ⟨h2, h3⟩ := cand h2
    obtain ⟨h3, h4⟩ := cand h3
    rw [eqEs_ok h4]
    cases x; cases y
    simp only [List.cons.injEq, MapEntry.mk.injEq, and_true]
    exact ⟨eqV_ok _ _ _ h1, eqV_ok _ _ _ h2, Nat.eq_of_beq_eq_true h3⟩
theorem eqAO_ok {x y : AO} (h : eqAO x y = true) : x = y := by
  unfold eqAO at h
  split at h
  · rename_i c e fr d u gr
    obtain ⟨h1, h2⟩ := cand h
    obtain ⟨h2, h3⟩ := cand h2
    have : fr = gr := by revert h2; cases fr <;> cases gr <;> simp
    rw [Nat.eq_of_beq_eq_true h1, this, eqVs_ok (eqV_ok 4) h3]
  · obtain ⟨h1, h2⟩ := cand h
    rw [Nat.eq_of_beq_eq_true h1, eqEs_ok h2]
  · rw [eqVs_ok (eqV_ok 4) h]
  · rfl
  · cases h
theorem eqOA_ok {x y : Option AO} (h : eqOA x y = true) {o : AO} (hx : x = some o) : y = some o := by
  subst hx
  unfold eqOA at h
  split at h
  · rename_i h0; cases h0
  · rename_i a b h0
    cases h0
    rw [eqAO_ok h]
  · cases h
theorem subT_leaf : ∀ {t : Tr AO}, subT t .leaf = true → ∀ n, t.get n = none
  | .leaf, _, _ => rfl
  | .node v l r, h, n => by
    unfold subT at h
    obtain ⟨h1, h2⟩ := cand h
    obtain ⟨h2, h3⟩ := cand h2
    have i1 := subT_leaf h2
    have i2 := subT_leaf h3
    have hv : v = none := by
      cases v with
      | none => rfl
      | some o => have := eqOA_ok h1 rfl; cases this
    unfold Tr.get
    rw [hv, i1, i2]
    cases Nat.beq n 0 <;> cases Nat.beq (n % 2) 1 <;> rfl
theorem subT_ok : ∀ {t t' : Tr AO}, subT t t' = true → ∀ n o, t.get n = some o → t'.get n = some o
  | .leaf, _, _, n, o, hg => by cases hg
  | .node v l r, .leaf, h, n, o, hg => by rw [subT_leaf h n] at hg; cases hg
  | .node v l r, .node v' l' r', h, n, o, hg => by
    unfold subT at h
    obtain ⟨h1, h2⟩ := cand h
    obtain ⟨h2, h3⟩ := cand h2
    unfold Tr.get at hg ⊢
    cases e0 : Nat.beq n 0 with
    | true =>
      rw [e0, cond_true] at hg
      rw [cond_true]
      exact eqOA_ok h1 hg
    | false =>
      rw [e0, cond_false] at hg
      rw [cond_false]
      cases e1 : Nat.beq (n % 2) 1 with
      | true =>
        rw [e1, cond_true] at hg
        rw [cond_true]
        exact subT_ok h2 _ o hg
      | false =>
        rw [e1, cond_false] at hg
        rw [cond_false]
        exact subT_ok h3 _ o hg
end Ex
end
section
open Go.RowKit
namespace Ex
/-- The one's parts struck, the other's laid in. -/
def layT : Tr AO → Tr AO → Tr AO → Tr AO
  | .leaf, _, t2 => t2
  | .node v l r, .leaf, .leaf => .node v l r
  | .node v l r, .leaf, .node v2 l2 r2 => .node (match v2 with | some o => some o | none => v) (layT l .leaf l2) (layT r .leaf r2)
  | .node v l r, .node v0 l0 r0, .leaf => .node (match v0 with | some _ => none | none => v) (layT l l0 .leaf) (layT r r0 .leaf)
  | .node v l r, .node v0 l0 r0, .node v2 l2 r2 => .node (match v2 with | some o => some o | none => (match v0 with | some _ => none | none => v)) (layT l l0 l2) (layT r r0 r2)
theorem get_leaf {α : Type} (n : Nat) : (Tr.leaf : Tr α).get n = none := rfl
theorem get_node {α : Type} (v : Option α) (l r : Tr α) (n : Nat) : (Tr.node v l r).get n = cond (Nat.beq n 0) v (cond (Nat.beq (n % 2) 1) (l.get (n / 2)) (r.get (n / 2 - 1))) := rfl
theorem get_layT : ∀ (t t0 t2 : Tr AO) (n : Nat), (layT t t0 t2).get n = match t2.get n with
    | some o => some o
    | none => match t0.get n with
      | some _ => none
      | none => t.get n
  | .leaf, t0, t2, n => by
    rw [show layT .leaf t0 t2 = t2 by cases t0 <;> cases t2 <;> rfl, get_leaf]
    cases t2.get n with
    | some o => rfl
    | none => cases t0.get n <;> rfl
  | .node v l r, .leaf, .leaf, n => rfl
  | .node v l r, .leaf, .node v2 l2 r2, n => by
    have i1 := get_layT l .leaf l2 (n / 2)
    have i2 := get_layT r .leaf r2 (n / 2 - 1)
    rw [show layT (.node v l r) .leaf (.node v2 l2 r2) = .node (match v2 with | some o => some o | none => v) (layT l .leaf l2) (layT r .leaf r2) from rfl, get_node, get_node, get_node, i1, i2]
    simp only [get_leaf]
    cases Nat.beq n 0 with
    | true => simp only [cond_true]
    | false =>
      simp only [cond_false]
      cases Nat.beq (n % 2) 1 <;> rfl
  | .node v l r, .node v0 l0 r0, .leaf, n => by
    have i1 := get_layT l l0 .leaf (n / 2)
    have i2 := get_layT r r0 .leaf (n / 2 - 1)
    rw [show layT (.node v l r) (.node v0 l0 r0) .leaf = .node (match v0 with | some _ => none | none => v) (layT l l0 .leaf) (layT r r0 .leaf) from rfl, get_node, get_node, get_node, i1, i2]
    simp only [get_leaf]
    cases Nat.beq n 0 with
    | true => simp only [cond_true]
    | false =>
      simp only [cond_false]
      cases Nat.beq (n % 2) 1 <;> rfl
  | .node v l r, .node v0 l0 r0, .node v2 l2 r2, n => by
    have i1 := get_layT l l0 l2 (n / 2)
    have i2 := get_layT r r0 r2 (n / 2 - 1)
    rw [show layT (.node v l r) (.node v0 l0 r0) (.node v2 l2 r2) = .node (match v2 with | some o => some o | none => (match v0 with | some _ => none | none => v)) (layT l l0 l2) (layT r r0 r2) from rfl, get_node, get_node, get_node, get_node, i1, i2]
    cases Nat.beq n 0 with
    | true => simp only [cond_true]
    | false =>
      simp only [cond_false]
      cases Nat.beq (n % 2) 1 <;> rfl
def strike : List Nat → Tr AO → Tr AO
  | [], t => t
  | i :: is, t => strike is (t.put i none)
theorem get_strike : ∀ (is : List Nat) (t : Tr AO) (n : Nat), (strike is t).get n = if n ∈ is then none else t.get n
  | [], t, n => by simp [strike]
  | i :: is, t, n => by
    unfold strike
    rw [get_strike is _ n, Tr.get_put]
    by_cases h1 : n ∈ is
    · simp [h1]
    · by_cases h2 : n = i
      · simp [h2]
      · simp [h1, h2]
section
variable {κ : K} {h h0 h1 : Hp} {w w' : World} {ro : Nat} {P : Program}
/-- The whole behind the call: the part's memory behind it laid over, without the blocks that nothing reaches. l0: the part without the tables below ro. -/
def laid (h : Hp) (l0 m2 : Tr AO) (c2 : Nat) (wl2 : List Nat) : Hp := { m := layT h.m l0 m2, c := c2, wl := wl2.foldl (fun l i => addW i l) h.wl }
theorem mem_fold {i : Nat} : ∀ {l2 l : List Nat}, i ∈ l2.foldl (fun l i => addW i l) l ↔ i ∈ l2 ∨ i ∈ l
  | [], l => by simp
  | x :: xs, l => by
    rw [List.foldl_cons, mem_fold, mem_addW]
    simp only [List.mem_cons]
    constructor
    · rintro (q | q | q)
      · exact .inl (.inr q)
      · exact .inl (.inl q)
      · exact .inr q
    · rintro ((q | q) | q)
      · exact .inr (.inl q)
      · exact .inl q
      · exact .inr (.inr q)
structure Part (ro : Nat) (h h0 : Hp) (l0 : Tr AO) (h1 : Hp) (m2 : Tr AO) (dead : List Nat) : Prop where
  c : h.c = h0.c
  sub : ∀ i o, h0.m.get i = some o → h.m.get i = some o
  lit : ∀ i o, l0.get i = some o → h0.m.get i = some o
  low : ∀ i, l0.get i = none → h0.m.get i = none ∨ i < ro
  high : ∀ i o, l0.get i = some o → ro ≤ i
  wl : h0.wl = []
  new : ∀ i ∈ dead, h0.m.get i = none
  two : ∀ i, m2.get i = none ∨ ro ≤ i ∧ m2.get i = h1.m.get i
  all : ∀ i, ro ≤ i → i ∉ dead → m2.get i = h1.m.get i
theorem laid_get {l0 m2 : Tr AO} {dead wl2 : List Nat} {c2 : Nat} (p : Part ro h h0 l0 h1 m2 dead) {i : Nat} {o : AO} (hi : (laid h l0 m2 c2 wl2).m.get i = some o) : h1.m.get i = some o ∨ ((h0.m.get i = none ∨ i < ro) ∧ h.m.get i = some o) := by
  unfold laid at hi
  rw [get_layT] at hi
  cases e2 : m2.get i with
  | some o2 =>
    rw [e2] at hi
    cases hi
    left
    rcases p.two i with q | ⟨_, q⟩
    · rw [q] at e2; cases e2
    · rw [← q]; exact e2
  | none =>
    rw [e2] at hi
    cases e0 : l0.get i with
    | some _ => rw [e0] at hi; cases hi
    | none => rw [e0] at hi; exact .inr ⟨p.low i e0, hi⟩
theorem laid_up {l0 m2 : Tr AO} {dead : List Nat} (p : Part ro h h0 l0 h1 m2 dead) (u : Up h0 h1) : Up h (laid h l0 m2 h1.c h1.wl) := by
  refine ⟨by rw [p.c]; exact u.1, fun W => ?_⟩
  have W0 : WF h0 := ⟨fun i hi => by
    obtain ⟨o, ho⟩ := Option.isSome_iff_exists.1 hi
    rw [← p.c]
    exact W.1 i (by rw [p.sub i o ho]; rfl), fun i hi => by rw [p.wl] at hi; cases hi⟩
  have W1 := u.2 W0
  have hc := u.1
  refine ⟨fun i hi => ?_, fun i hi => ?_⟩
  · obtain ⟨o, ho⟩ := Option.isSome_iff_exists.1 hi
    rcases laid_get p ho with q | ⟨_, q⟩
    · exact W1.1 i (by rw [q]; rfl)
    · have := W.1 i (by rw [q]; rfl)
      show i < h1.c
      rw [p.c] at this
      omega
  · rcases mem_fold.1 hi with q | q
    · exact W1.2 i q
    · have := W.2 i q
      show i < h1.c
      rw [p.c] at this
      omega
theorem laid_ok {l0 m2 : Tr AO} {dead : List Nat} {κ' : K} (p : Part ro h h0 l0 h1 m2 dead) (H : HR P κ h.m w) (H1 : HR P κ' h1.m w') (G : Gone ro κ κ' h0 h1 w w') :
    HR P κ' (laid h l0 m2 h1.c h1.wl).m w' ∧ Gone ro κ κ' h (laid h l0 m2 h1.c h1.wl) w w' := by
  have hkeep : ∀ i o, h0.m.get i = none ∨ i < ro → h.m.get i = some o → κ.dom i ∧ ∃ o', w'.heap[κ.p i]? = some o' ∧ OR P κ i o o' := fun i o e0 hi => by
    obtain ⟨hd, o', ho', hor⟩ := H.obj i o hi
    refine ⟨hd, o', ?_, hor⟩
    rw [G.frame (κ.p i) (blk_lt ho') fun j hro hj q => ?_, ho']
    obtain ⟨oj, hoj⟩ := Option.isSome_iff_exists.1 hj
    have := H.inj j i (by rw [p.sub j oj hoj]; rfl) (by rw [hi]; rfl) q
    rcases e0 with e0 | e0
    · rw [this, e0] at hoj
      cases hoj
    · omega
  have hlt : ∀ i o, h.m.get i = some o → κ.p i < w.heap.size := fun i o hi => by
    obtain ⟨_, o', ho', _⟩ := H.obj i o hi
    exact blk_lt ho'
  have cross : ∀ a b, (h0.m.get a = none ∨ a < ro) → (h.m.get a).isSome → (h1.m.get b).isSome → κ'.p a = κ'.p b → a = b := fun a b ea ha hb e => by
    obtain ⟨oa, hoa⟩ := Option.isSome_iff_exists.1 ha
    have hda := (H.obj a oa hoa).1
    rw [G.ext.p a hda] at e
    rcases G.fresh b hb with q | q | ⟨k, hk1, hk2, hk3, hk4, hk5⟩
    · rw [G.ext.p b q] at e
      obtain ⟨ob, hob⟩ := Option.isSome_iff_exists.1 (G.old b q hb)
      exact H.inj a b ha (by rw [p.sub b ob hob]; rfl) e
    · have := hlt a oa hoa
      omega
    · rw [hk5] at e
      obtain ⟨ok, hok⟩ := Option.isSome_iff_exists.1 hk3
      have := H.inj a k ha (by rw [p.sub k ok hok]; rfl) e
      rcases ea with ea | ea
      · rw [this, hok] at ea
        cases ea
      · omega
  refine ⟨⟨fun i o hi => ?_, fun a b ha hb e => ?_, H1.glob⟩, ⟨by rw [p.c]; exact G.mono, G.ext, fun i hi => ?_, G.size, G.os, G.tape, G.output, fun b hb hn => ?_, fun i hi => ?_, fun i hd hi => ?_, fun i hd hn => ?_, fun i hi => mem_fold.2 (.inr hi)⟩⟩
  · rcases laid_get p hi with q | ⟨q0, q⟩
    · exact H1.obj i o q
    · obtain ⟨hd, o', ho', hor⟩ := hkeep i o q0 q
      exact ⟨G.ext.dom i hd, o', by rw [G.ext.p i hd]; exact ho', hor.ext G.ext hd⟩
  · obtain ⟨oa, hoa⟩ := Option.isSome_iff_exists.1 ha
    obtain ⟨ob, hob⟩ := Option.isSome_iff_exists.1 hb
    rcases laid_get p hoa with qa | ⟨qa0, qa⟩
    · rcases laid_get p hob with qb | ⟨qb0, qb⟩
      · exact H1.inj a b (by rw [qa]; rfl) (by rw [qb]; rfl) e
      · exact (cross b a qb0 (by rw [qb]; rfl) (by rw [qa]; rfl) e.symm).symm
    · rcases laid_get p hob with qb | ⟨qb0, qb⟩
      · exact cross a b qa0 (by rw [qa]; rfl) (by rw [qb]; rfl) e
      · rw [G.ext.p a (H.obj a oa qa).1, G.ext.p b (H.obj b ob qb).1] at e
        exact H.inj a b (by rw [qa]; rfl) (by rw [qb]; rfl) e
  · rcases G.new i hi with q | q
    · exact .inl q
    · exact .inr (by rw [p.c]; exact q)
  · exact G.frame b hb fun i hr hi => by
      obtain ⟨o, ho⟩ := Option.isSome_iff_exists.1 hi
      exact hn i hr (by rw [p.sub i o ho]; rfl)
  · obtain ⟨o, ho⟩ := Option.isSome_iff_exists.1 hi
    rcases laid_get p ho with q | ⟨q0, q⟩
    · rcases G.fresh i (by rw [q]; rfl) with a | a | ⟨k, hk1, hk2, hk3, hk4, hk5⟩
      · exact .inl a
      · exact .inr (.inl a)
      · obtain ⟨ok, hok⟩ := Option.isSome_iff_exists.1 hk3
        refine .inr (.inr ⟨k, hk1, hk2, by rw [p.sub k ok hok]; rfl, ?_, hk5⟩)
        show (layT h.m l0 m2).get k = none
        have e2 : m2.get k = none := by
          rcases p.two k with q | ⟨_, q⟩
          · exact q
          · rw [q, hk4]
        cases el : l0.get k with
        | some ol => rw [get_layT, e2, el]
        | none =>
          rcases p.low k el with q | q
          · rw [hok] at q; cases q
          · omega
    · exact .inl (H.obj i o q).1
  · obtain ⟨o, ho⟩ := Option.isSome_iff_exists.1 hi
    rcases laid_get p ho with q | ⟨_, q⟩
    · obtain ⟨o0, ho0⟩ := Option.isSome_iff_exists.1 (G.old i hd (by rw [q]; rfl))
      rw [p.sub i o0 ho0]; rfl
    · rw [q]; rfl
  · have hn1 : i ∉ h1.wl := fun q => hn (mem_fold.2 (.inl q))
    have e1 := G.same i hd hn1
    show (layT h.m l0 m2).get i = h.m.get i
    rw [get_layT]
    cases el : l0.get i with
    | some ol =>
      have h0i := p.lit i ol el
      have hnd : i ∉ dead := fun q => by rw [p.new i q] at h0i; cases h0i
      rw [p.all i (p.high i ol el) hnd, e1, h0i]
      exact (p.sub i ol h0i).symm
    | none =>
      rcases p.two i with q | ⟨_, q⟩
      · rw [q]
      · rw [q, e1]
        cases e0 : h0.m.get i with
        | some o => exact (p.sub i o e0).symm
        | none => rfl
end
end Ex
end
section
open Go.RowKit
namespace Ex
/-- A call that is known: the part of the memory (without the tables, and those), the count, the answer, what is there behind it, what nothing reaches any more. -/
structure Known where
  f : Nat
  args : List Value
  l0 : Tr AO
  tabs : List (Nat × List Value)
  c : Nat
  v : Value
  m2 : Tr AO
  c2 : Nat
  wl2 : List Nat
  dead : List Nat
def noneB : Option AO → Bool
  | none => true
  | some _ => false
/-- The part with its tables, of these elements' types. -/
def tabsIn (E : Nat → Nat) : List (Nat × List Value) → Tr AO → Tr AO
  | [], m => m
  | (i, c) :: ts, m => tabsIn E ts (m.put i (some (.cells c (E i) true)))
/-- Do the tables lie there? -/
def tabsAt (m : Tr AO) : List (Nat × List Value) → Bool
  | [] => true
  | (i, c) :: ts => (match m.get i with
    | some (.cells d _ true) => eqVs (eqV 4) d c
    | _ => false) && tabsAt m ts
/-- No block below ro. -/
def highT : Nat → Tr AO → Bool
  | 0, _ => true
  | n + 1, t => cond (noneB (t.get n)) (highT n t) false
def Known.h0 (e : Known) (E : Nat → Nat) : Hp := { m := tabsIn E e.tabs e.l0, c := e.c, wl := [] }
def Known.ok (ro : Nat) (e : Known) : Bool := highT ro e.l0 && highT ro e.m2 && e.tabs.all (fun x => Nat.ble (x.1 + 1) ro) && e.dead.all (fun i => Nat.ble ro i && noneB (e.l0.get i))
/-- What lies at ro and above, but for those. -/
def Known.says (ro : Nat) (e : Known) : Option (Value × Hp) → Bool
  | some (v, h1) => cond (eqV 4 v e.v) (cond (Nat.beq h1.c e.c2) (cond (eqNats h1.wl e.wl2) (cond (subT e.m2 (strike e.dead (strike (List.range' 0 ro) h1.m))) (subT (strike e.dead (strike (List.range' 0 ro) h1.m)) e.m2) false) false) false) false
  | none => false
def Known.hook (e : Known) : Hook := fun f args h =>
  cond (Nat.beq f e.f) (cond (Nat.beq h.c e.c) (cond (eqVs (eqV 4) args e.args) (cond (subT e.l0 h.m) (cond (tabsAt h.m e.tabs) (some (e.v, laid h e.l0 e.m2 e.c2 e.wl2)) none) none) none) none) none
def orHook (A B : Hook) : Hook := fun f args h =>
  match A f args h with
  | some r => some r
  | none => B f args h
section
variable {κ : K} {h h' : Hp} {w w' : World} {ro : Nat} {P : Program} {X C : Hook}
theorem orHook_ok {A B : Hook} (hA : COk P ro A) (hB : COk P ro B) : COk P ro (orHook A B) := by
  intro f args h v h' hx
  unfold orHook at hx
  cases ha : A f args h with
  | some r => rw [ha] at hx; cases hx; exact hA f args h v h' ha
  | none => rw [ha] at hx; exact hB f args h v h' hx
theorem eqNats_ok : ∀ {xs ys : List Nat}, eqNats xs ys = true → xs = ys
  | [], [], _ => rfl
  | [], _ :: _, h => by cases h
  | _ :: _, [], h => by cases h
  | x :: xs, y :: ys, h => by
    unfold eqNats at h
    obtain ⟨h1, h2⟩ := cand h
    rw [Nat.eq_of_beq_eq_true h1, eqNats_ok h2]
theorem highT_ok : ∀ {n : Nat} {t : Tr AO}, highT n t = true → ∀ i, i < n → t.get i = none
  | 0, _, _, i, hi => by omega
  | n + 1, t, h, i, hi => by
    unfold highT at h
    obtain ⟨h1, h2⟩ := cand h
    by_cases e : i = n
    · subst e
      revert h1
      cases t.get i with
      | none => intro _; rfl
      | some o => intro q; cases q
    · exact highT_ok h2 i (by omega)
theorem tabsIn_get (E : Nat → Nat) : ∀ (ts : List (Nat × List Value)) (m : Tr AO) (i : Nat), (∀ x ∈ ts, x.1 ≠ i) → (tabsIn E ts m).get i = m.get i
  | [], _, _, _ => rfl
  | x :: ts, m, i, h => by
    unfold tabsIn
    rw [tabsIn_get E ts _ i fun y hy => h y (List.mem_cons_of_mem _ hy), Tr.get_put, if_neg fun e => h x List.mem_cons_self e.symm]
theorem tabsIn_sub {m0 : Tr AO} {E : Nat → Nat} (hE : ∀ i d e, m0.get i = some (.cells d e true) → E i = e) : ∀ {ts : List (Nat × List Value)} {m : Tr AO}, tabsAt m0 ts = true → (∀ i o, m.get i = some o → m0.get i = some o) → ∀ i o, (tabsIn E ts m).get i = some o → m0.get i = some o
  | [], _, _, hm, i, o, h => hm i o h
  | x :: ts, m, ht, hm, i, o, h => by
    unfold tabsAt at ht
    rw [Bool.and_eq_true] at ht
    obtain ⟨t1, t2⟩ := ht
    unfold tabsIn at h
    refine tabsIn_sub hE t2 (fun j oj hj => ?_) i o h
    rw [Tr.get_put] at hj
    by_cases e : j = x.1
    · rw [if_pos e] at hj
      cases hj
      split at t1
      · rename_i d e5 hg
        rw [e, hg, eqVs_ok (eqV_ok 4) t1, hE _ _ _ hg]
      · cases t1
    · rw [if_neg e] at hj
      exact hm j oj hj
def elemAt (m : Tr AO) (i : Nat) : Nat :=
  match m.get i with
  | some (.cells _ e _) => e
  | _ => 0
theorem Known.hook_ok {e : Known} (hF : Fit P) (hX : XOk P ro X) (hC : COk P ro C) {k : Nat} (hok : e.ok ro = true) (hrun : ∀ E : Nat → Nat, e.says ro (acall P ro (evalN P ro X C k) C e.f e.args (e.h0 E)) = true) : COk P ro e.hook := by
  intro f args h v h' hx
  unfold Known.hook at hx
  cases c1 : Nat.beq f e.f with
  | false => rw [c1] at hx; cases hx
  | true =>
    cases c2 : Nat.beq h.c e.c with
    | false => rw [c1, c2] at hx; cases hx
    | true =>
      cases c3 : eqVs (eqV 4) args e.args with
      | false => rw [c1, c2, c3] at hx; cases hx
      | true =>
        cases c4 : subT e.l0 h.m with
        | false => rw [c1, c2, c3, c4] at hx; cases hx
        | true =>
          cases c5 : tabsAt h.m e.tabs with
          | false => rw [c1, c2, c3, c4, c5] at hx; cases hx
          | true =>
            rw [c1, c2, c3, c4, c5] at hx
            simp only [cond_true, Option.some.injEq, Prod.mk.injEq] at hx
            obtain ⟨rfl, rfl⟩ := hx
            obtain rfl := Nat.eq_of_beq_eq_true c1
            have hc := Nat.eq_of_beq_eq_true c2
            obtain rfl := eqVs_ok (eqV_ok 4) c3
            unfold Known.ok at hok
            simp only [Bool.and_eq_true, List.all_eq_true, Nat.ble_eq] at hok
            obtain ⟨⟨⟨o1, o2⟩, o3⟩, o4⟩ := hok
            have hrun := hrun (elemAt h.m)
            cases hr : acall P ro (evalN P ro X C k) C e.f e.args (e.h0 (elemAt h.m)) with
            | none => rw [hr] at hrun; cases hrun
            | some r =>
              obtain ⟨v1, h1⟩ := r
              rw [hr] at hrun
              unfold Known.says at hrun
              obtain ⟨s1, hrun⟩ := cand hrun
              obtain ⟨s2, hrun⟩ := cand hrun
              obtain ⟨s3, hrun⟩ := cand hrun
              obtain ⟨s4, s5⟩ := cand hrun
              have e1 := eqV_ok 4 _ _ s1
              have e2 := Nat.eq_of_beq_eq_true s2
              have e3 := eqNats_ok s3
              rw [← e1, ← e2, ← e3]
              have hsub : ∀ i o, (e.h0 (elemAt h.m)).m.get i = some o → h.m.get i = some o :=
                tabsIn_sub (fun i d e5 q => by unfold elemAt; rw [q]) c5 (subT_ok c4)
              have hlow : ∀ i, ro ≤ i → (e.h0 (elemAt h.m)).m.get i = e.l0.get i := fun i hi => tabsIn_get _ _ _ i fun x hx q => by have := o3 x hx; omega
              have g : ∀ i, (strike e.dead (strike (List.range' 0 ro) h1.m)).get i = if i ∈ e.dead then none else if i < ro then none else h1.m.get i := fun i => by
                rw [get_strike, get_strike]
                simp only [List.mem_range'_1, Nat.zero_le, true_and, Nat.zero_add]
              have hm2 : ∀ i, e.m2.get i = (strike e.dead (strike (List.range' 0 ro) h1.m)).get i := fun i => by
                cases q : e.m2.get i with
                | some o => exact (subT_ok s4 i o q).symm
                | none =>
                  cases q2 : (strike e.dead (strike (List.range' 0 ro) h1.m)).get i with
                  | none => rfl
                  | some o => rw [subT_ok s5 i o q2] at q; cases q
              have p : Part ro h (e.h0 (elemAt h.m)) e.l0 h1 e.m2 e.dead :=
                { c := hc
                  sub := hsub
                  lit := fun i o q => by
                    have hro : ro ≤ i := Nat.le_of_not_lt fun hlt => by rw [highT_ok o1 i hlt] at q; cases q
                    rw [hlow i hro]; exact q
                  low := fun i q => by
                    by_cases hro : ro ≤ i
                    · left; rw [hlow i hro]; exact q
                    · exact .inr (by omega)
                  high := fun i o q => Nat.le_of_not_lt fun hlt => by rw [highT_ok o1 i hlt] at q; cases q
                  wl := rfl
                  new := fun i hi => by
                    have := o4 i hi
                    rw [hlow i this.1]
                    have q := this.2
                    revert q
                    cases e.l0.get i with
                    | none => intro _; rfl
                    | some o => intro q; cases q
                  two := fun i => by
                    rw [hm2, g]
                    by_cases hd : i ∈ e.dead
                    · rw [if_pos hd]; exact .inl rfl
                    · rw [if_neg hd]
                      by_cases hro : i < ro
                      · rw [if_pos hro]; exact .inl rfl
                      · rw [if_neg hro]; exact .inr ⟨by omega, rfl⟩
                  all := fun i hro hd => by rw [hm2, g, if_neg hd, if_neg (by omega)] }
              obtain ⟨u, hcall⟩ := call_ok (evalN_ok hF hX hC k).1 hC hr
              refine ⟨laid_up p u, fun κ w args' W H rl hf => ?_⟩
              have W0 : WF (e.h0 (elemAt h.m)) := ⟨fun i hi => by
                obtain ⟨o, ho⟩ := Option.isSome_iff_exists.1 hi
                have := W.1 i (by rw [p.sub i o ho]; rfl)
                rw [hc] at this
                exact this, fun i hi => by cases hi⟩
              have hfr : Free κ (e.h0 (elemAt h.m)).c h1.c := by
                have := hf
                rw [hc] at this
                exact this
              refine (callsIn_wide.1 (hcall κ w args' 0 W0 (H.sub p.sub) rl hfr)).mono ?_
              rintro en w' ⟨v', rfl, κ', H1, G, rv⟩
              obtain ⟨H2, G2⟩ := laid_ok p H H1 G
              exact ⟨v', rfl, κ', H2, G2, rv⟩
end
end Ex
end
end Go.Proofs.YtjncnppbaldmiaaGreatDoor
