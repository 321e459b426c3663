/- The plain law of the reference's Forest: it is the nest of the parts that ways join. No condition. -/
import Derived.Test.YtikgdhmnnnicmaaA
namespace Go.Proofs.Ytikgdhmnnnicmaa
open Go.RowKit Go.IntWalk
/-! ### The reference's Forest -/
def visitF (cs : List Int) (k : Int) (a : List Bool × List Int) (u : Int) : Option (List Bool × List Int) :=
  if a.1.getD u.toNat false = false ∧ k ≤ cs.getD u.toNat (-1) then (if a.2.length < 16777216 then some (a.1.set u.toNat true, a.2 ++ [u]) else none) else some a
def partG (adj : List (List Int)) (cs : List Int) (k : Int) : Nat → Nat → List Bool × List Int → Option (List Bool × List Int)
  | 0, _, _ => none
  | f + 1, i, a => if i < a.2.length then ((adj.getD (a.2.getD i 0).toNat []).foldlM (visitF cs k) a).bind (partG adj cs k f (i + 1)) else some a
def partF (n : Nat) (adj : List (List Int)) (cs : List Int) (k : Int) (v : Nat) (seen : List Bool) : Option (List Bool × List Int) := partG adj cs k (n + 1) 0 (seen.set v true, [(v : Int)])
structure PInv (n : Nat) (adj : List (List Int)) (cs : List Int) (k : Int) (seen0 : Nat → Prop) (v i : Nat) (a : List Bool × List Int) : Prop where
  sl : a.1.length = n
  nd : a.2.Nodup
  el : ∀ x ∈ a.2, ∃ u : Nat, x = (u : Int) ∧ Joined (within adj (lv n cs k)) v u ∧ ¬ seen0 u ∧ lv n cs k u
  sn : ∀ u, u < n → (a.1.getD u false = true ↔ seen0 u ∨ (u : Int) ∈ a.2)
  vin : (v : Int) ∈ a.2
  il : i ≤ a.2.length
  cl : ∀ j, j < i → ∀ w : Nat, w < n → (w : Int) ∈ adj.getD (a.2.getD j 0).toNat [] → k ≤ cs.getD w (-1) → a.1.getD w false = true
section
variable {n : Nat} {adj : List (List Int)} {cs : List Int} {k : Int} {seen0 : Nat → Prop} {v i : Nat}
theorem PInv.len {a : List Bool × List Int} (h : PInv n adj cs k seen0 v i a) : a.2.length ≤ n := by
  have := sub_length (T := (List.range n).map fun u : Nat => (u : Int)) h.nd fun x hx => by
    obtain ⟨u, rfl, _, _, h2⟩ := h.el x hx
    exact List.mem_map.2 ⟨u, List.mem_range.2 h2.1, rfl⟩
  rw [List.length_map, List.length_range] at this
  exact this
theorem PInv.visitAll (hn : n ≤ 16777216) {x : Nat} : ∀ (us : List Int) {a : List Bool × List Int} (_ : PInv n adj cs k seen0 v i a) (_ : (x : Int) ∈ a.2) (_ : ∀ u ∈ us, 0 ≤ u ∧ u < n ∧ u ∈ adj.getD x []),
    ∃ a', us.foldlM (visitF cs k) a = some a' ∧ PInv n adj cs k seen0 v i a' ∧ (∃ ext, a'.2 = a.2 ++ ext) ∧ (∀ u : Nat, (u : Int) ∈ us → k ≤ cs.getD u (-1) → a'.1.getD u false = true) ∧ ∀ u, a.1.getD u false = true → a'.1.getD u false = true
  | [], a, h, _, _ => ⟨a, rfl, h, ⟨[], by simp⟩, fun u q => absurd q (by simp), fun u q => q⟩
  | u :: us, a, h, hx, hus => by
    obtain ⟨hu0, hu1, hu2⟩ := hus u (by simp)
    obtain ⟨u, rfl⟩ := Int.eq_ofNat_of_zero_le hu0
    have hun : u < n := by omega
    rw [List.foldlM_cons]
    by_cases hc : a.1.getD u false = false ∧ k ≤ cs.getD u (-1)
    · have hlen := h.len
      obtain ⟨x', hx', hj, hs0, hlx⟩ := h.el _ hx
      obtain rfl : x = x' := by omega
      have hlu : lv n cs k u := ⟨hun, hc.2⟩
      have hun' : ¬ (seen0 u ∨ (u : Int) ∈ a.2) := fun q => by
        have := (h.sn u hun).2 q
        rw [hc.1] at this
        cases this
      have hn0 : (u : Int) ∉ a.2 := fun q => hun' (.inr q)
      have hnd : (a.2 ++ [(u : Int)]).Nodup := List.nodup_append.2 ⟨h.nd, by simp, fun p hp q hq e => hn0 (by rw [List.mem_singleton] at hq; rw [← hq, ← e]; exact hp)⟩
      have hel : ∀ y ∈ a.2 ++ [(u : Int)], ∃ w : Nat, y = (w : Int) ∧ Joined (within adj (lv n cs k)) v w ∧ ¬ seen0 w ∧ lv n cs k w := fun y hy => by
        rcases List.mem_append.1 hy with hy | hy
        · exact h.el y hy
        · rw [List.mem_singleton] at hy
          exact ⟨u, hy, hj.step (.inr ⟨hlu, hlx, hu2⟩), fun q => hun' (.inl q), hlu⟩
      have hlen2 : (a.2 ++ [(u : Int)]).length ≤ n := by
        have := sub_length (T := (List.range n).map fun u : Nat => (u : Int)) hnd fun y hy => by
          obtain ⟨w, rfl, _, _, h2⟩ := hel y hy
          exact List.mem_map.2 ⟨w, List.mem_range.2 h2.1, rfl⟩
        rw [List.length_map, List.length_range] at this
        exact this
      rw [List.length_append, List.length_singleton] at hlen2
      have hsl := h.sl
      have hg : ∀ w, (a.1.set u true).getD w false = if w = u then true else a.1.getD w false := fun w => by
        by_cases e : w = u
        · subst e; rw [getD_set_eq (by omega), if_pos rfl]
        · rw [getD_set_ne (Ne.symm e), if_neg e]
      have H : PInv n adj cs k seen0 v i (a.1.set u true, a.2 ++ [(u : Int)]) :=
        { sl := by simp [hsl], nd := hnd, el := hel, vin := List.mem_append_left _ h.vin, il := by have := h.il; simp; omega
          sn := fun w hw => by
            show (a.1.set u true).getD w false = true ↔ seen0 w ∨ (w : Int) ∈ a.2 ++ [(u : Int)]
            rw [hg, List.mem_append, List.mem_singleton, ← or_assoc, ← h.sn w hw]
            by_cases e : w = u
            · rw [if_pos e, e]; simp
            · rw [if_neg e]
              exact ⟨.inl, fun q => q.resolve_right fun p => e (by omega)⟩
          cl := fun j hj w hw hw2 hw3 => by
            have hil := h.il
            have e : (a.2 ++ [(u : Int)]).getD j 0 = a.2.getD j 0 := by
              rw [List.getD_eq_getElem?_getD, List.getD_eq_getElem?_getD, List.getElem?_append_left (by omega)]
            have hw2 : (w : Int) ∈ adj.getD ((a.2 ++ [(u : Int)]).getD j 0).toNat [] := hw2
            rw [e] at hw2
            show (a.1.set u true).getD w false = true
            rw [hg]
            split
            · rfl
            · exact h.cl j hj w hw hw2 hw3 }
      obtain ⟨a', h1, h2, ⟨ext, h3⟩, h4, h5⟩ := PInv.visitAll hn us H (List.mem_append_left _ hx) fun y hy => hus y (by simp [hy])
      refine ⟨a', ?_, h2, ⟨(u : Int) :: ext, by rw [h3]; simp⟩, fun w hw hw2 => ?_, fun w hw => h5 w ?_⟩
      · have : visitF cs k a (u : Int) = some (a.1.set u true, a.2 ++ [(u : Int)]) := by
          unfold visitF
          rw [Int.toNat_natCast, if_pos hc, if_pos (by omega)]
        rw [this]
        exact h1
      · rcases List.mem_cons.1 hw with e | hw
        · have e : w = u := by omega
          subst e
          exact h5 w (by show (a.1.set w true).getD w false = true; rw [hg, if_pos rfl])
        · exact h4 w hw hw2
      · show (a.1.set u true).getD w false = true
        rw [hg, hw]
        simp
    · obtain ⟨a', h1, h2, h3, h4, h5⟩ := PInv.visitAll hn us h hx fun y hy => hus y (by simp [hy])
      refine ⟨a', ?_, h2, h3, fun w hw hw2 => ?_, h5⟩
      · have : visitF cs k a (u : Int) = some a := by
          unfold visitF
          rw [Int.toNat_natCast, if_neg hc]
        rw [this]
        exact h1
      · rcases List.mem_cons.1 hw with e | hw
        · have e : w = u := by omega
          subst e
          refine h5 w ?_
          cases q : a.1.getD w false with
          | true => rfl
          | false => exact absurd ⟨q, hw2⟩ hc
        · exact h4 w hw hw2
theorem PInv.all (hadj : Adj n adj) (hn : n ≤ 16777216) : ∀ (f : Nat) (i : Nat) {a : List Bool × List Int} (_ : PInv n adj cs k seen0 v i a) (_ : n + 1 ≤ f + i), ∃ a', partG adj cs k f i a = some a' ∧ PInv n adj cs k seen0 v a'.2.length a'
  | 0, i, a, h, hf => by have := h.len; have := h.il; omega
  | f + 1, i, a, h, hf => by
    by_cases hi : i < a.2.length
    · have e : a.2.getD i 0 = a.2[i] := by rw [List.getD_eq_getElem?_getD, List.getElem?_eq_getElem hi]; rfl
      obtain ⟨x, hx, hj, hs0, hlx⟩ := h.el a.2[i] (List.getElem_mem hi)
      obtain ⟨a1, h1, h2, ⟨ext, h3⟩, h4, h5⟩ := PInv.visitAll (x := x) hn (adj.getD x []) h (by rw [← hx]; exact List.getElem_mem hi) fun u hu => ⟨(hadj.row x u hu).1, (hadj.row x u hu).2, hu⟩
      have hH : PInv n adj cs k seen0 v (i + 1) a1 :=
        { h2 with
          il := by rw [h3, List.length_append]; omega
          cl := fun j hj w hw hw2 hw3 => by
            rcases Nat.lt_or_ge j i with q | q
            · exact h2.cl j q w hw hw2 hw3
            · obtain rfl : j = i := by omega
              rw [h3] at hw2
              have e2 : (a.2 ++ ext).getD j 0 = x := by rw [List.getD_eq_getElem?_getD, List.getElem?_append_left hi, List.getElem?_eq_getElem hi]; exact hx
              rw [e2, Int.toNat_natCast] at hw2
              exact h4 w hw2 hw3 }
      obtain ⟨a', h6, h7⟩ := PInv.all hadj hn f (i + 1) hH (by omega)
      refine ⟨a', ?_, h7⟩
      simp only [partG, if_pos hi]
      rw [e, hx, Int.toNat_natCast, h1]
      exact h6
    · refine ⟨a, by simp only [partG, if_neg hi], ?_⟩
      have : i = a.2.length := by have := h.il; omega
      rw [← this]
      exact h
/-- The vertices that ways join with v, found from v on. -/
theorem partF_ok (hadj : Adj n adj) (hn : n ≤ 16777216) {seen : List Bool} (hsl : seen.length = n) (hcl : ∀ a b, within adj (lv n cs k) a b → seen.getD a false = true ∨ seen.getD b false = true → seen.getD a false = true ∧ seen.getD b false = true) (hv : lv n cs k v) (hnv : seen.getD v false = false) :
    ∃ seen' p, partF n adj cs k v seen = some (seen', p) ∧ p.Nodup ∧ (∀ x, x ∈ p ↔ ∃ u : Nat, x = (u : Int) ∧ Joined (within adj (lv n cs k)) v u) ∧ seen'.length = n ∧ (∀ u, u < n → (seen'.getD u false = true ↔ seen.getD u false = true ∨ Joined (within adj (lv n cs k)) v u)) ∧ ∀ x ∈ p, 0 ≤ x ∧ x < n := by
  have hvn := hv.1
  have hg : ∀ w, (seen.set v true).getD w false = if w = v then true else seen.getD w false := fun w => by
    by_cases e : w = v
    · subst e; rw [getD_set_eq (by omega), if_pos rfl]
    · rw [getD_set_ne (Ne.symm e), if_neg e]
  have h0 : PInv n adj cs k (fun u => seen.getD u false = true) v 0 (seen.set v true, [(v : Int)]) :=
    { sl := by simp [hsl], nd := by simp, il := Nat.zero_le _, vin := by simp, cl := fun j hj => absurd hj (Nat.not_lt_zero _)
      el := fun x hx => by
        rw [List.mem_singleton] at hx
        exact ⟨v, hx, .refl, by simp only [hnv]; simp, hv⟩
      sn := fun u hu => by
        show (seen.set v true).getD u false = true ↔ _ ∨ (u : Int) ∈ [(v : Int)]
        rw [hg, List.mem_singleton]
        by_cases e : u = v
        · rw [if_pos e, e]; simp
        · rw [if_neg e]
          exact ⟨.inl, fun q => q.resolve_right fun p => e (by omega)⟩ }
  obtain ⟨⟨seen', p⟩, h1, h2⟩ := PInv.all hadj hn (n + 1) 0 h0 (by omega)
  have hall : ∀ u, Joined (within adj (lv n cs k)) v u → (u : Int) ∈ p := fun u hu => by
    induction hu with
    | refl => exact h2.vin
    | @step a b hj hr ih =>
      obtain ⟨a', ha', _, hs0, hla⟩ := h2.el _ ih
      obtain rfl : a = a' := by omega
      have hab : (b : Int) ∈ adj.getD a [] ∧ lv n cs k b := by
        rcases hr with hr | hr
        · exact ⟨hadj.sym _ _ hr.2.2, hr.2.1⟩
        · exact ⟨hr.2.2, hr.1⟩
      obtain ⟨j, hj1, hj2⟩ := List.getElem_of_mem ih
      have h3 := h2.cl j hj1 b hab.2.1 (by
        have : p.getD j 0 = (a : Int) := by rw [List.getD_eq_getElem?_getD, List.getElem?_eq_getElem hj1]; exact hj2
        show (b : Int) ∈ adj.getD (p.getD j 0).toNat []
        rw [this, Int.toNat_natCast]; exact hab.1) hab.2.2
      rcases (h2.sn b hab.2.1).1 h3 with h4 | h4
      · exfalso
        rcases hr with hr | hr
        · exact hs0 (hcl a b hr (.inr h4)).1
        · exact hs0 (hcl b a hr (.inl h4)).2
      · exact h4
  have hmem : ∀ x, x ∈ p ↔ ∃ u : Nat, x = (u : Int) ∧ Joined (within adj (lv n cs k)) v u := fun x => by
    constructor
    · intro q
      obtain ⟨u, h3, h4, _⟩ := h2.el x q
      exact ⟨u, h3, h4⟩
    · rintro ⟨u, rfl, h4⟩
      exact hall u h4
  refine ⟨seen', p, h1, h2.nd, hmem, h2.sl, fun u hu => ?_, fun x hx => ?_⟩
  · refine (h2.sn u hu).trans (or_congr Iff.rfl ?_)
    exact ⟨fun q => by
      obtain ⟨w, e, h3⟩ := (hmem _).1 q
      obtain rfl : u = w := by omega
      exact h3, hall u⟩
  · obtain ⟨u, rfl, _, _, h3⟩ := h2.el x hx
    have := h3.1
    omega
end
def marksF (n : Nat) (p : List Int) : List Bool := p.foldl (fun l x => l.set x.toNat true) (List.replicate n false)
def kidF (ins : List Bool) (len : Nat) (x : Node) : Node := if x.Parent < 0 ∧ ins.getD x.Least.toNat false = true then { x with Parent := (len : Int) } else x
def kidsF (ins : List Bool) (first : Nat) (out : List Node) : List Node := (out.take first).map (kidF ins out.length) ++ out.drop first
def refStep (n : Nat) (adj : List (List Int)) (cs : List Int) (k : Int) (first : Nat) (a : List Bool × List Node) (v : Nat) : Option (List Bool × List Node) :=
  if a.1.getD v false = true ∨ cs.getD v (-1) < k then some a
  else (partF n adj cs k v a.1).bind fun q =>
    if q.2.any (fun x => decide (cs.getD x.toNat (-1) = k)) then
      (if a.2.length < 16777216 then some (q.1, kidsF (marksF n q.2) first a.2 ++ [⟨k, (v : Int), (q.2.length : Int), -1⟩]) else none)
    else some (q.1, a.2)
def refLevelF (n : Nat) (adj : List (List Int)) (cs : List Int) (k : Int) (out : List Node) : Option (List Bool × List Node) := (List.range n).foldlM (refStep n adj cs k out.length) (List.replicate n false, out)
/-- The reference's Forest. -/
def refForestF (n : Nat) (adj : List (List Int)) (cs : List Int) (ls : List Int) (out : List Node) : Option (List Node) := ls.foldlM (fun out k => (refLevelF n adj cs k out).map (·.2)) out
theorem marks_get (n : Nat) : ∀ (p : List Int) (l : List Bool) (_ : l.length = n) (_ : ∀ x ∈ p, 0 ≤ x ∧ x < n) (u : Nat), (p.foldl (fun l x => l.set x.toNat true) l).getD u false = true ↔ l.getD u false = true ∨ (u : Int) ∈ p
  | [], l, _, _, u => by simp
  | x :: p, l, hl, hp, u => by
    have hx := hp x (by simp)
    rw [List.foldl_cons, marks_get n p (l.set x.toNat true) (by simpa using hl) (fun y hy => hp y (by simp [hy])) u, List.mem_cons]
    by_cases e : u = x.toNat
    · subst e
      rw [getD_set_eq (by omega)]
      simp only [true_or, true_iff]
      exact .inr (.inl (by omega))
    · rw [getD_set_ne (Ne.symm e)]
      constructor
      · rintro (q | q)
        · exact .inl q
        · exact .inr (.inr q)
      · rintro (q | q | q)
        · exact .inl q
        · omega
        · exact .inr q
theorem nodes_length (n : Nat) (comp : Nat → Nat → Bool) (k : Int) : ∀ (vs : List Nat) (o : List Node), (vs.foldl (nodeS n comp k) o).length = o.length + vs.length
  | [], o => rfl
  | v :: vs, o => by rw [List.foldl_cons, nodes_length n comp k vs, nodeS_length, List.length_cons]; omega
/-- Nodes as the nest holds them: no parent is -1, and the least vertex is one. -/
def fine (n : Nat) (out : List Node) : Prop := ∀ x ∈ out, -1 ≤ x.Parent ∧ 0 ≤ x.Least ∧ x.Least < n
theorem childS_fine {n : Nat} {out : List Node} {comp : Nat → Nat → Bool} {k : Int} {v : Nat} (h : fine n out) (hv : v < n) : fine n (nodeS n comp k out v) := by
  intro x hx
  unfold nodeS at hx
  rcases List.mem_append.1 hx with hx | hx
  · obtain ⟨y, hy, rfl⟩ := List.mem_map.1 hx
    have := h y hy
    unfold childS
    split
    · exact ⟨by show (-1 : Int) ≤ (out.length : Int); omega, this.2⟩
    · exact this
  · rw [List.mem_singleton] at hx
    subst hx
    exact ⟨Int.le_refl _, Int.natCast_nonneg _, by show (v : Int) < n; omega⟩
section
variable {n : Nat} {adj : List (List Int)} {cs : List Int} {k : Int}
structure RInvS (n : Nat) (adj : List (List Int)) (cs : List Int) (k : Int) (comp : Nat → Nat → Bool) (out0 : List Node) (v : Nat) (a : List Bool × List Node) : Prop where
  sl : a.1.length = n
  sn : ∀ u, u < n → (a.1.getD u false = true ↔ ∃ w, w < v ∧ lv n cs k w ∧ Joined (within adj (lv n cs k)) w u)
  out : a.2 = ((leastsS n cs comp k).filter fun w => decide (w < v)).foldl (nodeS n comp k) out0
theorem leasts_to (comp : Nat → Nat → Bool) (v : Nat) (hv : v < n) : ((leastsS n cs comp k).filter fun w => decide (w < v + 1)) = ((leastsS n cs comp k).filter fun w => decide (w < v)) ++ if v ∈ leastsS n cs comp k then [v] else [] := by
  have hasc : (leastsS n cs comp k).Pairwise (· < ·) := List.Pairwise.sublist List.filter_sublist (List.pairwise_lt_range)
  generalize leastsS n cs comp k = l at hasc
  induction l with
  | nil => rfl
  | cons x l ih =>
    obtain ⟨h1, h2⟩ := List.pairwise_cons.1 hasc
    have hno : ∀ m, m ≤ x + 1 → (l.filter fun w => decide (w < m)) = [] := fun m hm => List.filter_eq_nil_iff.2 fun w hw => by have := h1 w hw; simp; omega
    rcases Nat.lt_trichotomy x v with q | q | q
    · rw [List.filter_cons_of_pos (by simp; omega), List.filter_cons_of_pos (by simp; omega), ih h2, List.cons_append]
      have : (v ∈ x :: l) = (v ∈ l) := by rw [List.mem_cons]; simp; omega
      simp only [this]
    · subst q
      rw [List.filter_cons_of_pos (by simp), List.filter_cons_of_neg (by simp), hno _ (by omega), hno _ (by omega), if_pos (by simp)]
      rfl
    · have hnl : v ∉ l := fun p => by have := h1 v p; omega
      have : v ∉ x :: l := by simp [hnl]; omega
      rw [List.filter_cons_of_neg (by simp; omega), List.filter_cons_of_neg (by simp; omega), hno _ (by omega), hno _ (by omega), if_neg this]
      rfl
theorem RInvS.step (hadj : Adj n adj) (hn : n ≤ 16777216) {comp : Nat → Nat → Bool} (hc : ∀ v u, comp v u = true ↔ Joined (within adj (lv n cs k)) v u) {out0 : List Node} (hf : fine n out0) (hlen : out0.length + (leastsS n cs comp k).length ≤ 16777216) {v : Nat} (hv : v < n) {a : List Bool × List Node} (h : RInvS n adj cs k comp out0 v a) :
    ∃ a', refStep n adj cs k out0.length a v = some a' ∧ RInvS n adj cs k comp out0 (v + 1) a' := by
  have hRM : ∀ a b, within adj (lv n cs k) a b → lv n cs k a ∧ lv n cs k b := fun a b q => ⟨q.1, q.2.1⟩
  unfold refStep
  by_cases hs : a.1.getD v false = true ∨ cs.getD v (-1) < k
  · rw [if_pos hs]
    have hno : v ∉ leastsS n cs comp k := fun q => by
      obtain ⟨_, q2, q3, _⟩ := mem_leasts.1 q
      rcases hs with hs | hs
      · obtain ⟨w, w1, w2, w3⟩ := (h.sn v hv).1 hs
        have := q3 w w2.1 ((hc v w).2 w3.symm)
        omega
      · omega
    refine ⟨a, rfl, h.sl, fun u hu => (h.sn u hu).trans ⟨fun ⟨w, w1, w2⟩ => ⟨w, by omega, w2⟩, fun ⟨w, w1, w2, w3⟩ => ?_⟩, ?_⟩
    · rcases Nat.lt_or_ge w v with q | q
      · exact ⟨w, q, w2, w3⟩
      · obtain rfl : w = v := by omega
        rcases hs with hs | hs
        · obtain ⟨x, x1, x2, x3⟩ := (h.sn w hv).1 hs
          exact ⟨x, x1, x2, x3.trans w3⟩
        · have := w2.2; omega
    · rw [leasts_to comp v hv, if_neg hno, List.append_nil]
      exact h.out
  · have hs1 : a.1.getD v false = false := by
      cases q : a.1.getD v false with
      | true => exact absurd (.inl q) hs
      | false => rfl
    have hlv : lv n cs k v := ⟨hv, by have : ¬ cs.getD v (-1) < k := fun q => hs (.inr q); omega⟩
    rw [if_neg hs]
    obtain ⟨seen', p, h1, h2, h3, h4, h5, h6⟩ := partF_ok hadj hn h.sl (fun x y hxy q => by
      have hx := (hRM x y hxy).1.1
      have hy := (hRM x y hxy).2.1
      rw [h.sn x hx, h.sn y hy] at q ⊢
      rcases q with ⟨w, w1, w2, w3⟩ | ⟨w, w1, w2, w3⟩
      · exact ⟨⟨w, w1, w2, w3⟩, w, w1, w2, w3.step (.inl hxy)⟩
      · exact ⟨⟨w, w1, w2, w3.step (.inr hxy)⟩, w, w1, w2, w3⟩) hlv hs1
    rw [h1, Option.bind_some]
    have hsn : ∀ u, u < n → (seen'.getD u false = true ↔ ∃ w, w < v + 1 ∧ lv n cs k w ∧ Joined (within adj (lv n cs k)) w u) := fun u hu => by
      rw [h5 u hu, h.sn u hu]
      constructor
      · rintro (⟨w, w1, w2⟩ | q)
        · exact ⟨w, by omega, w2⟩
        · exact ⟨v, by omega, hlv, q⟩
      · rintro ⟨w, w1, w2, w3⟩
        rcases Nat.lt_or_ge w v with q | q
        · exact .inl ⟨w, q, w2, w3⟩
        · obtain rfl : w = v := by omega
          exact .inr w3
    have hmin : ∀ u, u < n → comp v u = true → v ≤ u := fun u hu hcu => by
      rcases Nat.lt_or_ge u v with q | q
      · exfalso
        have hj := (hc v u).1 hcu
        have := (h.sn v hv).2 ⟨u, q, hj.mem hRM hlv, hj.symm⟩
        rw [hs1] at this
        cases this
      · exact q
    have hown : (p.any fun x => decide (cs.getD x.toNat (-1) = k)) = true ↔ v ∈ leastsS n cs comp k := by
      rw [mem_leasts, List.any_eq_true]
      constructor
      · rintro ⟨x, q1, q2⟩
        obtain ⟨u, rfl, q3⟩ := (h3 x).1 q1
        have := h6 _ q1
        exact ⟨hv, hlv.2, hmin, u, by omega, (hc v u).2 q3, by simpa using q2⟩
      · rintro ⟨_, _, _, u, q1, q2, q3⟩
        exact ⟨u, (h3 _).2 ⟨u, rfl, (hc v u).1 q2⟩, by simpa using q3⟩
    by_cases ho : (p.any fun x => decide (cs.getD x.toNat (-1) = k)) = true
    · have hvl := hown.1 ho
      simp only [ho, if_true]
      have hlen2 : a.2.length < 16777216 := by
        rw [h.out, nodes_length]
        have : ((leastsS n cs comp k).filter fun w => decide (w < v)).length < (leastsS n cs comp k).length := by
          refine List.length_filter_lt_length_iff_exists.2 ⟨v, hvl, by simp⟩
        omega
      rw [if_pos hlen2]
      refine ⟨_, rfl, h4, hsn, ?_⟩
      rw [leasts_to comp v hv, if_pos hvl, List.foldl_append, ← h.out]
      show kidsF (marksF n p) out0.length a.2 ++ [⟨k, (v : Int), (p.length : Int), -1⟩] = nodeS n comp k a.2 v
      unfold nodeS
      have hcard : p.length = ((List.range n).filter (comp v)).length := by
        have : p.Perm (((List.range n).filter (comp v)).map fun u : Nat => (u : Int)) := (List.perm_ext_iff_of_nodup h2 (by
          unfold List.Nodup
          rw [List.pairwise_map]
          exact (List.nodup_range.sublist List.filter_sublist).imp fun {a b} q e => q (by omega))).2 fun x => by
          rw [h3, List.mem_map]
          constructor
          · rintro ⟨u, rfl, q⟩
            exact ⟨u, List.mem_filter.2 ⟨List.mem_range.2 (q.mem hRM hlv).1, (hc v u).2 q⟩, rfl⟩
          · rintro ⟨u, q, rfl⟩
            exact ⟨u, rfl, (hc v u).1 (List.mem_filter.1 q).2⟩
        have := this.length_eq
        rwa [List.length_map] at this
      rw [hcard]
      congr 1
      have hins : ∀ u, (marksF n p).getD u false = true ↔ comp v u = true := fun u => by
        unfold marksF
        rw [marks_get n p _ (by simp) h6]
        have : (List.replicate n false).getD u false = true ↔ False := by
          rw [List.getD_eq_getElem?_getD, List.getElem?_replicate]
          split <;> simp
        rw [this, false_or, h3, hc]
        exact ⟨fun ⟨w, e, q⟩ => by
          obtain rfl : u = w := by omega
          exact q, fun q => ⟨u, rfl, q⟩⟩
      -- the nodes of this level have a least vertex ahead of v
      have hlate : ∀ (vs : List Nat) (o : List Node), (∀ w ∈ vs, w < v) → fine n o → fine n (vs.foldl (nodeS n comp k) o) ∧ ∀ x ∈ (vs.foldl (nodeS n comp k) o).drop o.length, x.Least < v := by
        intro vs
        induction vs with
        | nil => intro o _ hfo; exact ⟨hfo, fun x hx => by simp at hx⟩
        | cons w vs ih =>
          intro o hw hfo
          have hwv := hw w (by simp)
          obtain ⟨g1, g2⟩ := ih (nodeS n comp k o w) (fun x hx => hw x (by simp [hx])) (childS_fine hfo (by omega))
          refine ⟨g1, fun x hx => ?_⟩
          rw [List.foldl_cons] at hx
          rw [nodeS_length] at g2
          have hlt : o.length < (vs.foldl (nodeS n comp k) (nodeS n comp k o w)).length := by rw [nodes_length, nodeS_length]; omega
          rw [List.drop_eq_getElem_cons hlt] at hx
          rcases List.mem_cons.1 hx with hx | hx
          · have hkeep : ∀ (vs : List Nat) (o : List Node) (i : Nat) (y : Node), o[i]? = some y → ∃ z, (vs.foldl (nodeS n comp k) o)[i]? = some z ∧ z.Least = y.Least := by
              intro vs
              induction vs with
              | nil => intro o i y hy; exact ⟨y, hy, rfl⟩
              | cons w vs ih =>
                intro o i y hy
                have hi := (List.getElem?_eq_some_iff.1 hy).1
                have : (nodeS n comp k o w)[i]? = some (childS (comp w) o.length y) := by
                  unfold nodeS
                  rw [List.getElem?_append_left (by simpa using hi), List.getElem?_map, hy]
                  rfl
                obtain ⟨z, z1, z2⟩ := ih _ i _ this
                exact ⟨z, z1, by rw [z2]; unfold childS; split <;> rfl⟩
            have hlast : (nodeS n comp k o w)[o.length]? = some ⟨k, (w : Int), (((List.range n).filter (comp w)).length : Int), -1⟩ := by
              unfold nodeS
              rw [List.getElem?_append_right (by simp)]
              simp
            obtain ⟨z, z1, z2⟩ := hkeep vs _ _ _ hlast
            rw [List.getElem?_eq_getElem hlt, Option.some.injEq] at z1
            rw [hx, z1, z2]
            simp only
            omega
          · exact g2 x hx
      obtain ⟨hfa, hlate⟩ := hlate ((leastsS n cs comp k).filter fun w => decide (w < v)) out0 (fun w hw => by simpa using (List.mem_filter.1 hw).2) hf
      rw [← h.out] at hfa hlate
      have hk1 : ∀ x ∈ a.2, kidF (marksF n p) a.2.length x = childS (comp v) a.2.length x := fun x hx => by
        have := hfa x hx
        unfold kidF childS
        by_cases q : x.Parent = -1 ∧ comp v x.Least.toNat = true
        · rw [if_pos q, if_pos ⟨by omega, (hins _).2 q.2⟩]
        · rw [if_neg q, if_neg fun p => q ⟨by omega, (hins _).1 p.2⟩]
      have hk2 : ∀ x ∈ a.2.drop out0.length, childS (comp v) a.2.length x = x := fun x hx => by
        have h7 := hlate x hx
        have h8 := hfa x (List.mem_of_mem_drop hx)
        unfold childS
        rw [if_neg]
        rintro ⟨_, q⟩
        have := hmin _ (by omega) q
        omega
      unfold kidsF
      conv => rhs; rw [← List.take_append_drop out0.length a.2, List.map_append]
      rw [List.take_append_drop]
      congr 1
      · exact List.map_congr_left fun x hx => hk1 x (List.mem_of_mem_take hx)
      · conv => lhs; rw [← List.map_id (a.2.drop out0.length)]
        exact List.map_congr_left fun x hx => (hk2 x hx).symm
    · simp only [ho]
      refine ⟨_, rfl, h4, hsn, ?_⟩
      rw [leasts_to comp v hv, if_neg fun q => ho (hown.2 q), List.append_nil]
      exact h.out
theorem refLevel_ok (hadj : Adj n adj) (hn : n ≤ 16777216) {comp : Nat → Nat → Bool} (hc : ∀ v u, comp v u = true ↔ Joined (within adj (lv n cs k)) v u) {out0 : List Node} (hf : fine n out0) (hlen : out0.length + (leastsS n cs comp k).length ≤ 16777216) :
    ∃ seen, refLevelF n adj cs k out0 = some (seen, levelS n cs comp k out0) := by
  have h0 : RInvS n adj cs k comp out0 0 (List.replicate n false, out0) := ⟨by simp, fun u hu => by
    show (List.replicate n false).getD u false = true ↔ _
    rw [List.getD_eq_getElem?_getD, List.getElem?_replicate, if_pos hu]
    simp, by rw [show ((leastsS n cs comp k).filter fun w => decide (w < 0)) = [] from List.filter_eq_nil_iff.2 fun w _ => by simp]; rfl⟩
  have hall : ∀ v, v ≤ n → ∃ a, (List.range v).foldlM (refStep n adj cs k out0.length) (List.replicate n false, out0) = some a ∧ RInvS n adj cs k comp out0 v a := by
    intro v
    induction v with
    | zero => intro _; exact ⟨_, rfl, h0⟩
    | succ v ih =>
      intro hv
      obtain ⟨a, h1, h2⟩ := ih (by omega)
      obtain ⟨a', h3, h4⟩ := h2.step hadj hn hc hf hlen (by omega)
      refine ⟨a', ?_, h4⟩
      rw [List.range_succ, List.foldlM_append, h1]
      simp only [List.foldlM_cons, List.foldlM_nil, Option.bind_eq_bind, Option.bind_some, h3]
      rfl
  obtain ⟨a, h1, h2⟩ := hall n (Nat.le_refl _)
  refine ⟨a.1, ?_⟩
  unfold refLevelF
  rw [h1]
  have : ((leastsS n cs comp k).filter fun w => decide (w < n)) = leastsS n cs comp k := List.filter_eq_self.2 fun w hw => by simpa using (mem_leasts.1 hw).1
  have h3 := h2.out
  rw [this] at h3
  rw [show a = (a.1, a.2) from rfl, h3]
  rfl
theorem levelS_fine (comp : Nat → Nat → Bool) : ∀ (vs : List Nat) {o : List Node} (_ : ∀ w ∈ vs, w < n) (_ : fine n o), fine n (vs.foldl (nodeS n comp k) o)
  | [], o, _, h => h
  | w :: vs, o, hw, h => levelS_fine comp vs (fun x hx => hw x (by simp [hx])) (childS_fine h (hw w (by simp)))
theorem forestS_length (comp : Int → Nat → Nat → Bool) : ∀ (ls : List Int) (o : List Node), o.length ≤ (forestS n cs comp ls o).length
  | [], o => Nat.le_refl _
  | k :: ls, o => by
    have := forestS_length comp ls (levelS n cs (comp k) k o)
    have h2 : (levelS n cs (comp k) k o).length = o.length + (leastsS n cs (comp k) k).length := nodes_length _ _ _ _ _
    show o.length ≤ (forestS n cs comp ls (levelS n cs (comp k) k o)).length
    omega
/-- The reference's Forest is the nest that ways tell. -/
theorem refForest_ok (hadj : Adj n adj) (hn : n ≤ 16777216) (comp : Int → Nat → Nat → Bool) (hc : ∀ k v u, comp k v u = true ↔ Joined (within adj (lv n cs k)) v u) : ∀ (ls : List Int) (out0 : List Node) (_ : fine n out0) (_ : (forestS n cs comp ls out0).length ≤ 16777216),
    refForestF n adj cs ls out0 = some (forestS n cs comp ls out0)
  | [], _, _, _ => rfl
  | k :: ls, out0, hf, hl => by
    have h1 := forestS_length (n := n) (cs := cs) comp ls (levelS n cs (comp k) k out0)
    have h2 : (levelS n cs (comp k) k out0).length = out0.length + (leastsS n cs (comp k) k).length := nodes_length _ _ _ _ _
    have hl : (forestS n cs comp ls (levelS n cs (comp k) k out0)).length ≤ 16777216 := hl
    obtain ⟨seen, h3⟩ := refLevel_ok hadj hn (hc k) hf (by omega)
    unfold refForestF
    rw [List.foldlM_cons, h3]
    exact refForest_ok hadj hn comp hc ls _ (levelS_fine (comp k) _ (fun w hw => (mem_leasts.1 hw).1) hf) hl
end
end Go.Proofs.Ytikgdhmnnnicmaa
