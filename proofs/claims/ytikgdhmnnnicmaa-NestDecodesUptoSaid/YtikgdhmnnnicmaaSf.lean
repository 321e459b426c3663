/- What NestForest asks of the nodes holds of the nest. No condition. -/
import Derived.Test.YtikgdhmnnnicmaaSh
import Derived.Test.YtikgdhmnnnicmaaO
namespace Go.Proofs.Ytikgdhmnnnicmaa
open Go.RowKit Go.IntWalk
/-! ### What NestForest asks -/
def rootsN (l : List Node) (i : Nat) : Int := (l.take i).foldl (fun a x => if x.Parent < 0 then a + x.Size else a) 0
def insN (l : List Node) (i : Nat) : List Int := (l.take i).foldl (fun s x => if x.Parent < 0 then s else s.set x.Parent.toNat (s.getD x.Parent.toNat 0 + x.Size)) (List.replicate l.length 0)
theorem rootsN_succ {l : List Node} {i : Nat} (hi : i < l.length) : rootsN l (i + 1) = if l[i].Parent < 0 then rootsN l i + l[i].Size else rootsN l i := by
  unfold rootsN
  rw [List.take_add_one, List.getElem?_eq_getElem hi, Option.toList_some, List.foldl_append]
  rfl
theorem insN_succ {l : List Node} {i : Nat} (hi : i < l.length) : insN l (i + 1) = if l[i].Parent < 0 then insN l i else (insN l i).set l[i].Parent.toNat ((insN l i).getD l[i].Parent.toNat 0 + l[i].Size) := by
  unfold insN
  rw [List.take_add_one, List.getElem?_eq_getElem hi, Option.toList_some, List.foldl_append]
  rfl
theorem insN_length {l : List Node} {i : Nat} : (insN l i).length = l.length := by
  unfold insN
  have : ∀ (xs : List Node) (s : List Int), (xs.foldl (fun s x => if x.Parent < 0 then s else s.set x.Parent.toNat (s.getD x.Parent.toNat 0 + x.Size)) s).length = s.length := by
    intro xs
    induction xs with
    | nil => intro s; rfl
    | cons x xs ih =>
      intro s
      rw [List.foldl_cons, ih]
      split
      · rfl
      · rw [List.length_set]
  rw [this, List.length_replicate]
theorem sub_length' : ∀ {L T : List Nat} (_ : L.Nodup) (_ : ∀ a ∈ L, a ∈ T), L.length ≤ T.length
  | [], T, _, _ => Nat.zero_le _
  | a :: L, T, h, hs => by
    have ha := hs a (by simp)
    obtain ⟨h1, h2⟩ := List.nodup_cons.1 h
    have := sub_length' (T := T.erase a) h2 fun b hb => (List.mem_erase_of_ne (fun e : b = a => h1 (e ▸ hb))).2 (hs b (by simp [hb]))
    rw [List.length_erase_of_mem ha] at this
    have := List.length_pos_of_mem ha
    rw [List.length_cons]
    omega
/-- The nodes ahead of i with that parent. -/
def kidsOf (l : List Node) (p : Int) (i : Nat) : List Nat := (List.range i).filter fun a => decide ((l.getD a ⟨0, 0, 0, 0⟩).Parent = p)
theorem kidsOf_succ {l : List Node} {p : Int} {i : Nat} (hi : i < l.length) : kidsOf l p (i + 1) = if l[i].Parent = p then kidsOf l p i ++ [i] else kidsOf l p i := by
  unfold kidsOf
  have : l.getD i ⟨0, 0, 0, 0⟩ = l[i] := by rw [List.getD_eq_getElem?_getD, List.getElem?_eq_getElem hi]; rfl
  rw [List.range_succ, List.filter_append]
  simp only [List.filter_cons, List.filter_nil, this]
  split <;> simp_all
section
variable {n : Nat} {l : List Node} {S : Nat → List Nat}
theorem kids_mem {p : Int} {i a : Nat} (hi : i ≤ l.length) (h : a ∈ kidsOf l p i) : ∃ x, l[a]? = some x ∧ x.Parent = p ∧ a < i := by
  unfold kidsOf at h
  obtain ⟨h1, h2⟩ := List.mem_filter.1 h
  have ha : a < i := List.mem_range.1 h1
  have hl : a < l.length := by omega
  refine ⟨l[a], List.getElem?_eq_getElem hl, ?_, ha⟩
  have : l.getD a ⟨0, 0, 0, 0⟩ = l[a] := by rw [List.getD_eq_getElem?_getD, List.getElem?_eq_getElem hl]; rfl
  rw [this] at h2
  simpa using h2
theorem FInv.kids_nodup (h : FInv n l S) (p : Int) {i : Nat} (hi : i ≤ l.length) : ((kidsOf l p i).flatMap S).Nodup := by
  unfold List.Nodup
  rw [List.pairwise_flatMap]
  constructor
  · intro a ha
    obtain ⟨x, hx, _⟩ := kids_mem hi ha
    exact h.nd a x hx
  · have : (kidsOf l p i).Nodup := List.nodup_range.sublist List.filter_sublist
    refine List.Pairwise.imp_of_mem (fun {a b} ha hb hab => ?_) this
    intro u hu w hw e
    obtain ⟨x, hx, hxp, _⟩ := kids_mem hi ha
    obtain ⟨y, hy, hyp, _⟩ := kids_mem hi hb
    subst e
    exact h.dis a b x y hx hy (hxp.trans hyp.symm) hab u hu hw
theorem FInv.roots_is (h : FInv n l S) : ∀ i, i ≤ l.length → rootsN l i = ((kidsOf l (-1) i).flatMap S).length
  | 0, _ => rfl
  | i + 1, hi => by
    have hl : i < l.length := by omega
    have ih := FInv.roots_is h i (by omega)
    rw [rootsN_succ hl, kidsOf_succ hl, ih]
    have hx : l[i]? = some l[i] := List.getElem?_eq_getElem hl
    have hs := h.size i _ hx
    rcases h.par i _ hx with hp | ⟨j, y, hp, _⟩
    · rw [if_pos (by omega), if_pos hp, List.flatMap_append, List.length_append, hs]
      simp
    · rw [if_neg (by omega), if_neg (by omega)]
theorem FInv.ins_is (h : FInv n l S) (j : Nat) (hj : j < l.length) : ∀ i, i ≤ l.length → (insN l i).getD j 0 = ((kidsOf l (j : Int) i).flatMap S).length
  | 0, _ => by
    unfold insN kidsOf
    rw [List.take_zero, List.foldl_nil, List.getD_eq_getElem?_getD, List.getElem?_replicate, if_pos hj]
    rfl
  | i + 1, hi => by
    have hl : i < l.length := by omega
    have ih := FInv.ins_is h j hj i (by omega)
    rw [insN_succ hl, kidsOf_succ hl]
    have hx : l[i]? = some l[i] := List.getElem?_eq_getElem hl
    have hs := h.size i _ hx
    have hil := insN_length (l := l) (i := i)
    rcases h.par i _ hx with hp | ⟨q, y, hp, h2, h3, _⟩
    · rw [if_pos (by omega), if_neg (by omega), ih]
    · rw [if_neg (by omega), hp, Int.toNat_natCast]
      have hql := h.lt h3
      by_cases e : q = j
      · subst e
        rw [if_pos rfl, getD_set_eq (by omega), ih, List.flatMap_append, List.length_append, hs]
        simp
      · rw [if_neg (by omega), getD_set_ne e, ih]
theorem FInv.ins_lt (h : FInv n l S) {j : Nat} (hj : j < l.length) {i : Nat} (hi : i ≤ l.length) : 0 ≤ (insN l i).getD j 0 ∧ (insN l i).getD j 0 < l[j].Size := by
  rw [h.ins_is j hj i hi]
  have hy : l[j]? = some l[j] := List.getElem?_eq_getElem hj
  rw [h.size j _ hy]
  refine ⟨by omega, ?_⟩
  obtain ⟨u, u1, u2⟩ := h.own j _ hy
  have hnd := h.kids_nodup (j : Int) hi
  have hnd2 : (u :: (kidsOf l (j : Int) i).flatMap S).Nodup := List.nodup_cons.2 ⟨fun hu => by
    obtain ⟨a, ha, hua⟩ := List.mem_flatMap.1 hu
    obtain ⟨x, hx, hxp, _⟩ := kids_mem hi ha
    exact u2 a x hx hxp hua, hnd⟩
  have hsub : ∀ w ∈ (u :: (kidsOf l (j : Int) i).flatMap S), w ∈ S j := fun w hw => by
    rcases List.mem_cons.1 hw with rfl | hw
    · exact u1
    · obtain ⟨a, ha, hwa⟩ := List.mem_flatMap.1 hw
      obtain ⟨x, hx, hxp, _⟩ := kids_mem hi ha
      rcases h.par a x hx with hp | ⟨q, y, hp, _, h3, _, h5⟩
      · omega
      · have : q = j := by omega
        subst this
        exact h5 w hwa
  have := sub_length' hnd2 hsub
  rw [List.length_cons] at this
  omega
end
theorem Anc.head {l : List Node} {a i : Nat} (h : Anc l a i) : ∃ x, l[a]? = some x ∧ (x.Parent = (i : Int) ∨ ∃ j : Nat, x.Parent = (j : Int) ∧ Anc l j i) := by
  induction h with
  | up hx hp => exact ⟨_, hx, .inl hp⟩
  | @more j k y _ hy hp ih =>
    obtain ⟨x, hx, h | ⟨m, h1, h2⟩⟩ := ih
    · exact ⟨x, hx, .inr ⟨j, h, .up hy hp⟩⟩
    · exact ⟨x, hx, .inr ⟨m, h1, h2.more hy hp⟩⟩
theorem FInv.up_mem {n : Nat} {l : List Node} {S : Nat → List Nat} (h : FInv n l S) {i : Nat} : ∀ (f : Nat) (a : Nat) (last : Int), Anc l a i → last < (a : Int) → l.length < f + a → (i : Int) ∈ upN l f last a
  | 0, a, last, ha, _, hf => by
    obtain ⟨x, hx, _⟩ := ha.head
    have := h.lt hx
    omega
  | f + 1, a, last, ha, hl, hf => by
    obtain ⟨x, hx, hi⟩ := ha.head
    have hal := h.lt hx
    have hg : l.getD (a : Int).toNat ⟨0, 0, 0, 0⟩ = x := by rw [Int.toNat_natCast, List.getD_eq_getElem?_getD, hx]; rfl
    unfold upN
    rw [if_pos ⟨hl, by omega⟩, hg]
    refine List.mem_cons_of_mem _ ?_
    rcases hi with hi | ⟨j, hj, hij⟩
    · rcases h.par a x hx with hp | ⟨q, y, hp, h2, h3, _⟩
      · omega
      · have e : q = i := by omega
        subst e
        have hql := h.lt h3
        rw [hi]
        obtain ⟨g, rfl⟩ : ∃ g, f = g + 1 := ⟨f - 1, by omega⟩
        unfold upN
        rw [if_pos ⟨by omega, by omega⟩]
        simp
    · rcases h.par a x hx with hp | ⟨q, y, hp, h2, h3, _⟩
      · omega
      · have e : q = j := by omega
        subst e
        rw [hj]
        exact FInv.up_mem h f q a hij (by omega) (by omega)
/-- All that NestForest asks of the nodes. -/
structure NF (n : Nat) (l : List Node) : Prop where
  len : l.length ≤ n
  next : ∀ (i : Nat) x y, l[i]? = some x → l[i + 1]? = some y → Ahead x y
  el : ∀ (i : Nat) x, l[i]? = some x → 1 ≤ x.Size ∧ x.Size ≤ n ∧ 0 ≤ x.Least ∧ x.Least < n ∧ -1 ≤ x.Parent ∧ (0 ≤ x.Parent → ∃ (j : Nat) (y : Node), x.Parent = (j : Int) ∧ i < j ∧ l[j]? = some y ∧ y.K < x.K ∧ y.Least ≤ x.Least)
  roots : ∀ i, i ≤ l.length → 0 ≤ rootsN l i ∧ rootsN l i ≤ n
  all : rootsN l l.length = n
  ins : ∀ i, i ≤ l.length → ∀ (j : Nat) y, l[j]? = some y → 0 ≤ (insN l i).getD j 0 ∧ (insN l i).getD j 0 < y.Size
  up : ∀ (i a : Nat) x y, l[i]? = some x → l[a]? = some y → a < i → y.Least = x.Least → (i : Int) ∈ upN l (l.length + 1) (-1) a
theorem nest_NF {n : Nat} {ps : List Pair} {cs : List Int} (ha : among n ps) (hn : n ≤ 16777216) (hcs : cs.length = n) : NF n (nestS n ps cs) := by
  obtain ⟨S, k, v, h, hcov⟩ := nest_shape (ps := ps) hcs
  have hlen := (forests_ok (K := n) ha hn (Nat.le_refl _) hcs).2.2
  generalize nestS n ps cs = l at *
  have hI := h.inv
  have hsz : ∀ (i : Nat) x, l[i]? = some x → 1 ≤ (S i).length ∧ (S i).length ≤ n := fun i x hx => by
    obtain ⟨a, _, h2, _⟩ := hI.least i x hx
    exact ⟨List.length_pos_of_mem h2, nodup_le n (hI.nd i x hx) (hI.sub i x hx)⟩
  have hroots : ∀ i, i ≤ l.length → 0 ≤ rootsN l i ∧ rootsN l i ≤ n := fun i hi => by
    rw [hI.roots_is i hi]
    have := nodup_le n (hI.kids_nodup (-1) hi) fun u hu => by
      obtain ⟨a, ha, hua⟩ := List.mem_flatMap.1 hu
      obtain ⟨x, hx, _⟩ := kids_mem hi ha
      exact hI.sub a x hx u hua
    omega
  refine ⟨hlen, fun i x y hx hy => ?_, fun i x hx => ?_, hroots, ?_, fun i hi j y hy => ?_, fun i a x y hx hy hai he => ?_⟩
  · have h1 := (List.getElem?_eq_some_iff.1 hx)
    have h2 := (List.getElem?_eq_some_iff.1 hy)
    have := List.pairwise_iff_getElem.1 h.sorted i (i + 1) h1.1 h2.1 (by omega)
    rw [h1.2, h2.2] at this
    exact this
  · obtain ⟨a, h1, h2, h3⟩ := hI.least i x hx
    have h4 := hI.size i x hx
    have h5 := hsz i x hx
    have h6 := hI.sub i x hx a h2
    refine ⟨by omega, by omega, by omega, by omega, ?_, fun hp => ?_⟩
    · rcases hI.par i x hx with hp | ⟨j, y, hp, _⟩ <;> omega
    · rcases hI.par i x hx with hp' | ⟨j, y, hp', p2, p3, p4, p5⟩
      · omega
      · obtain ⟨b, q1, q2, q3⟩ := hI.least j y p3
        have := q3 a (p5 a h2)
        exact ⟨j, y, hp', p2, p3, p4, by omega⟩
  · have h1 := hroots l.length (Nat.le_refl _)
    have h2 : n ≤ ((kidsOf l (-1) l.length).flatMap S).length := by
      have := sub_length' (L := List.range n) (T := (kidsOf l (-1) l.length).flatMap S) List.nodup_range fun u hu => by
        obtain ⟨i, x, hx, hp, hus⟩ := (hcov u (List.mem_range.1 hu)).1
        refine List.mem_flatMap.2 ⟨i, ?_, hus⟩
        unfold kidsOf
        refine List.mem_filter.2 ⟨List.mem_range.2 (hI.lt hx), ?_⟩
        rw [List.getD_eq_getElem?_getD, hx]
        simpa using hp
      rwa [List.length_range] at this
    have h3 := hI.roots_is l.length (Nat.le_refl _)
    omega
  · have hj := hI.lt hy
    have := hI.ins_lt hj hi
    have e : l[j] = y := by
      rw [List.getElem?_eq_getElem hj] at hy
      exact Option.some.inj hy
    rw [e] at this
    exact this
  · obtain ⟨p, p1, p2, _⟩ := hI.least i x hx
    obtain ⟨q, q1, q2, _⟩ := hI.least a y hy
    have e : p = q := by omega
    subst e
    exact hI.up_mem (l.length + 1) a (-1) (hI.lam a i y x hy hx hai ⟨p, q2, p2⟩) (by omega) (by omega)
end Go.Proofs.Ytikgdhmnnnicmaa
