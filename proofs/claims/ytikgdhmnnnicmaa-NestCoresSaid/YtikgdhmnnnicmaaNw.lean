/- What NestWays asks of the nodes and the parts holds. No condition. -/
import Derived.Test.YtikgdhmnnnicmaaPl
import Derived.Test.YtikgdhmnnnicmaaSf
namespace Go.Proofs.Ytikgdhmnnnicmaa
open Go.RowKit Go.IntWalk
/-! ### What NestWays asks -/
def sizeN (parts : List Int) (v : Nat) (i : Nat) : Nat := ((List.range i).filter fun u => decide (parts.getD u 0 = (v : Int))).length
def lowN (parts cs : List Int) (v : Nat) (i : Nat) : Int := (List.range i).foldl (fun a u => if parts.getD u 0 = (v : Int) then min a (cs.getD u (-1)) else a) (cs.getD v (-1))
def isIt (l : List Node) (v : Nat) (size : Nat) (low : Int) (x : Int) : Bool := decide ((l.getD x.toNat ⟨0, 0, 0, 0⟩).Least = (v : Int)) && decide ((l.getD x.toNat ⟨0, 0, 0, 0⟩).Size = (size : Int)) && decide ((l.getD x.toNat ⟨0, 0, 0, 0⟩).K = low)
def foundN (l : List Node) (lvl : List Int) (v : Nat) (size : Nat) (low : Int) (i : Nat) : Nat := ((lvl.take i).filter (isIt l v size low)).length
def manyN (parts : List Int) (i : Nat) : Nat := ((List.range i).filter fun v => decide (parts.getD v 0 = (v : Int))).length
theorem mem_tops {l : List Node} {k : Int} {x : Int} : x ∈ topsOf l k l.length ↔ ∃ (i : Nat) (y : Node), x = (i : Int) ∧ l[i]? = some y ∧ isTop l k y = true := by
  unfold topsOf
  rw [List.take_of_length_le (Nat.le_refl _)]
  simp only [List.mem_map, List.mem_filter]
  constructor
  · rintro ⟨⟨y, i⟩, ⟨h1, h2⟩, rfl⟩
    exact ⟨i, y, rfl, List.mem_zipIdx_iff_getElem?.1 h1, h2⟩
  · rintro ⟨i, y, rfl, h1, h2⟩
    exact ⟨(y, i), ⟨List.mem_zipIdx_iff_getElem?.2 h1, h2⟩, rfl⟩
theorem tops_nodup (l : List Node) (k : Int) : (topsOf l k l.length).Nodup := by
  unfold topsOf
  rw [List.take_of_length_le (Nat.le_refl _)]
  have h1 : (l.zipIdx.map Prod.snd).Nodup := by
    rw [List.zipIdx_map_snd]
    exact List.nodup_range'
  have h2 : ((l.zipIdx.filter fun p => isTop l k p.1).map Prod.snd).Nodup := h1.sublist (List.filter_sublist.map _)
  have h3 : (((l.zipIdx.filter fun p => isTop l k p.1).map Prod.snd).map fun i : Nat => (i : Int)).Nodup := List.Pairwise.map (S := fun a b : Int => a ≠ b) _ (fun a b hab e => hab (by have e : (a : Int) = b := e; omega)) h2
  rw [List.map_map] at h3
  exact h3
theorem low_spec (parts cs : List Int) (v : Nat) : ∀ i, (lowN parts cs v i = cs.getD v (-1) ∨ ∃ u, u < i ∧ parts.getD u 0 = (v : Int) ∧ lowN parts cs v i = cs.getD u (-1)) ∧ ∀ u, u < i → parts.getD u 0 = (v : Int) → lowN parts cs v i ≤ cs.getD u (-1)
  | 0 => ⟨.inl rfl, fun u hu => absurd hu (Nat.not_lt_zero _)⟩
  | i + 1 => by
    obtain ⟨h1, h2⟩ := low_spec parts cs v i
    have e : lowN parts cs v (i + 1) = if parts.getD i 0 = (v : Int) then min (lowN parts cs v i) (cs.getD i (-1)) else lowN parts cs v i := by
      unfold lowN
      rw [List.range_succ, List.foldl_append]
      rfl
    rw [e]
    by_cases hp : parts.getD i 0 = (v : Int)
    · rw [if_pos hp]
      refine ⟨?_, fun u hu hpu => ?_⟩
      · rcases Int.le_total (lowN parts cs v i) (cs.getD i (-1)) with q | q
        · rw [Int.min_eq_left q]
          exact h1.imp id fun ⟨u, u1, u2, u3⟩ => ⟨u, by omega, u2, u3⟩
        · rw [Int.min_eq_right q]
          exact .inr ⟨i, by omega, hp, rfl⟩
      · rcases Nat.lt_or_ge u i with q | q
        · have := h2 u q hpu; omega
        · obtain rfl : u = i := by omega
          omega
    · rw [if_neg hp]
      refine ⟨h1.imp id fun ⟨u, u1, u2, u3⟩ => ⟨u, by omega, u2, u3⟩, fun u hu hpu => ?_⟩
      rcases Nat.lt_or_ge u i with q | q
      · exact h2 u q hpu
      · obtain rfl : u = i := by omega
        exact absurd hpu hp
theorem Anc.less {n : Nat} {l : List Node} {S : Nat → List Nat} (h : FInv n l S) {i j : Nat} (ha : Anc l i j) : ∃ x y, l[i]? = some x ∧ l[j]? = some y ∧ y.K < x.K := by
  induction ha with
  | @up b x hx hp =>
    rcases h.par _ _ hx with q | ⟨m, y, q1, _, q3, q4, _⟩
    · omega
    · have : m = b := by omega
      subst this
      exact ⟨_, y, hx, q3, q4⟩
  | @more j k y _ hy hp ih =>
    obtain ⟨x, y', h1, h2, h3⟩ := ih
    rw [hy] at h2
    cases h2
    rcases h.par _ _ hy with q | ⟨m, z, q1, _, q3, q4, _⟩
    · omega
    · have : m = k := by omega
      subst this
      exact ⟨x, z, h1, q3, by omega⟩
section
variable {n : Nat} {adj : List (List Int)} {cs : List Int} {k : Int} {parts : List Int}
theorem PO.self (h : PO n adj cs k n parts) {v : Nat} (hv : v < n) : parts.getD v 0 = (v : Int) ↔ lv n cs k v ∧ ∀ b, Joined (within adj (lv n cs k)) v b → v ≤ b := by
  have hRM : ∀ a b, within adj (lv n cs k) a b → lv n cs k a ∧ lv n cs k b := fun a b q => ⟨q.1, q.2.1⟩
  rcases h.2 v hv with ⟨h1, h2⟩ | ⟨p, h1, h2, h3, h4, h5⟩
  · rw [h1]
    exact ⟨fun e => by omega, fun ⟨a, _⟩ => absurd .refl (h2 v hv a)⟩
  · rw [h2]
    constructor
    · intro e
      have : p = v := by omega
      subst this
      exact ⟨h3, h5⟩
    · rintro ⟨_, b⟩
      have q1 := b p h4.symm
      have q2 := h5 v h4
      omega
theorem PO.of (h : PO n adj cs k n parts) {v u : Nat} (hv : v < n) (hu : u < n) (hs : parts.getD v 0 = (v : Int)) : parts.getD u 0 = (v : Int) ↔ Joined (within adj (lv n cs k)) v u := by
  obtain ⟨hl, hm⟩ := (h.self hv).1 hs
  rcases h.2 u hu with ⟨h1, h2⟩ | ⟨p, h1, h2, h3, h4, h5⟩
  · rw [h1]
    exact ⟨fun e => by omega, fun q => absurd q (h2 v hv hl)⟩
  · rw [h2]
    constructor
    · intro e
      have : p = v := by omega
      rw [← this]; exact h4
    · intro q
      have q1 := h5 v (h4.trans q.symm)
      have q2 := hm p (q.trans h4.symm)
      omega
/-- The nodes of level k are the parts of the vertices of a number of k or more. -/
theorem NSt.level {k0 : Int} {v0 : Nat} {l : List Node} {S : Nat → List Nat} (h : NSt n adj cs k0 v0 l S) (hcov : ∀ u, u < n → Own1 l S cs u) {v : Nat} (hv : lv n cs k v) (hm : ∀ b, Joined (within adj (lv n cs k)) v b → v ≤ b) :
    ∃ (i : Nat) (x : Node), l[i]? = some x ∧ isTop l k x = true ∧ (∀ b, b ∈ S i ↔ Joined (within adj (lv n cs k)) v b) ∧ x.Least = (v : Int) ∧ (∀ b, Joined (within adj (lv n cs k)) v b → x.K ≤ cs.getD b (-1)) ∧ ∃ b, Joined (within adj (lv n cs k)) v b ∧ cs.getD b (-1) = x.K := by
  have hRM : ∀ a b, within adj (lv n cs k) a b → lv n cs k a ∧ lv n cs k b := fun a b q => ⟨q.1, q.2.1⟩
  have hex : ∀ (d : Nat) (u : Nat), Joined (within adj (lv n cs k)) v u → cs.getD u (-1) < k + d → ∃ w, Joined (within adj (lv n cs k)) v w ∧ ∀ b, Joined (within adj (lv n cs k)) v b → cs.getD w (-1) ≤ cs.getD b (-1) := by
    intro d
    induction d with
    | zero => intro u hu hd; have := (hu.mem hRM hv).2; omega
    | succ d ih =>
      intro u hu hd
      by_cases q : ∃ b, Joined (within adj (lv n cs k)) v b ∧ cs.getD b (-1) < cs.getD u (-1)
      · obtain ⟨b, b1, b2⟩ := q
        exact ih b b1 (by omega)
      · exact ⟨u, hu, fun b hb => by
          rcases Int.lt_or_le (cs.getD b (-1)) (cs.getD u (-1)) with p | p
          · exact absurd ⟨b, hb, p⟩ q
          · exact p⟩
  obtain ⟨w, w1, w2⟩ := hex ((cs.getD v (-1)) - k + 1).toNat v .refl (by have := hv.2; omega)
  have hlw := w1.mem hRM hv
  obtain ⟨i, x, hx, hxk, hwi⟩ := hcov w hlw.1
  have hkx : k ≤ x.K := by rw [hxk]; exact hlw.2
  have hset := h.set i x hx
  have hup : ∀ b, Joined (within adj (lv n cs k)) w b → Joined (within adj (lv n cs x.K)) w b := fun b hb => by
    induction hb with
    | refl => exact .refl
    | @step a c hj hr ih =>
      have ha := w2 a (w1.trans hj)
      have hc := w2 c (w1.trans (hj.step hr))
      rw [← hxk] at ha hc
      refine ih.step ?_
      rcases hr with hr | hr
      · exact .inl ⟨⟨hr.1.1, ha⟩, ⟨hr.2.1.1, hc⟩, hr.2.2⟩
      · exact .inr ⟨⟨hr.1.1, hc⟩, ⟨hr.2.1.1, ha⟩, hr.2.2⟩
  have hS : ∀ b, b ∈ S i ↔ Joined (within adj (lv n cs k)) v b := fun b => by
    constructor
    · intro hb
      have h1 := joined_mono hkx ((hset b).1 hb)
      have h2 := joined_mono hkx ((hset w).1 hwi)
      exact w1.trans (h2.symm.trans h1)
    · intro hb
      exact (hset b).2 (((hset w).1 hwi).trans (hup b (w1.symm.trans hb)))
  refine ⟨i, x, hx, ?_, hS, ?_, fun b hb => by rw [hxk]; exact w2 b hb, w, w1, hxk.symm⟩
  · unfold isTop
    rcases h.inv.par i x hx with hp | ⟨j, y, hp, p2, p3, p4, p5⟩
    · simp only [hp, Bool.not_eq_true', Bool.or_eq_false_iff, Bool.and_eq_false_iff, decide_eq_false_iff_not]
      exact ⟨⟨⟨by omega, by omega⟩, by omega⟩, .inl (by omega)⟩
    · have hjl := h.inv.lt p3
      have hyk : y.K < k := by
        rcases Int.lt_or_le y.K k with q | q
        · exact q
        · exfalso
          obtain ⟨u, u1, u2⟩ := h.inv.own j y p3
          refine u2 i x hx hp ((hS u).2 ?_)
          have h1 := joined_mono q ((h.set j y p3 u).1 u1)
          have h2 := joined_mono q ((h.set j y p3 v).1 (p5 v ((hS v).2 .refl)))
          exact h2.symm.trans h1
      have hgd : l.getD x.Parent.toNat ⟨0, 0, 0, 0⟩ = y := by rw [hp, Int.toNat_natCast, List.getD_eq_getElem?_getD, p3]; rfl
      rw [hgd]
      simp only [Bool.not_eq_true', Bool.or_eq_false_iff, Bool.and_eq_false_iff, decide_eq_false_iff_not]
      exact ⟨⟨⟨by omega, by omega⟩, by omega⟩, .inr (by omega)⟩
  · obtain ⟨a, a1, a2, a3⟩ := h.inv.least i x hx
    have q1 := hm a ((hS a).1 a2)
    have q2 := a3 v ((hS v).2 .refl)
    omega
theorem top_parts {l : List Node} {x : Node} (ht : isTop l k x = true) : k ≤ x.K ∧ ∀ (j : Nat) y, x.Parent = (j : Int) → l[j]? = some y → y.K < k := by
  unfold isTop at ht
  simp only [Bool.not_eq_true', Bool.or_eq_false_iff, Bool.and_eq_false_iff, decide_eq_false_iff_not] at ht
  refine ⟨by omega, fun j y hj hy => ?_⟩
  rcases ht.2 with q | q
  · omega
  · rw [hj, Int.toNat_natCast, List.getD_eq_getElem?_getD, hy] at q
    have q : ¬ k ≤ y.K := q
    omega
/-- Two nodes of one level have no vertex together. -/
theorem top_apart {l : List Node} {S : Nat → List Nat} (h : FInv n l S) {i j : Nat} {x y : Node} (hx : l[i]? = some x) (hy : l[j]? = some y) (hti : isTop l k x = true) (htj : isTop l k y = true) {w : Nat} (hi : w ∈ S i) (hj : w ∈ S j) : i = j := by
  have one : ∀ (i j : Nat) x y, l[i]? = some x → l[j]? = some y → isTop l k x = true → isTop l k y = true → w ∈ S i → w ∈ S j → ¬ i < j := fun i j x y hx hy hti htj hi hj hlt => by
    obtain ⟨p1, p2⟩ := top_parts hti
    obtain ⟨q1, _⟩ := top_parts htj
    obtain ⟨x', hx', ha⟩ := (h.lam i j x y hx hy hlt ⟨w, hi, hj⟩).head
    rw [hx] at hx'
    cases hx'
    rcases ha with ha | ⟨m, ha, hm⟩
    · have := p2 j y ha hy
      omega
    · obtain ⟨z, y', z1, z2, z3⟩ := hm.less h
      rw [hy] at z2
      cases z2
      have := p2 m z ha z1
      omega
  rcases Nat.lt_trichotomy i j with q | q | q
  · exact absurd q (one i j x y hx hy hti htj hi hj)
  · exact q
  · exact absurd q (one j i y x hy hx htj hti hj hi)
end
theorem filter_one {α : Type} {p : α → Bool} {i : α} : ∀ {L : List α} (_ : L.Nodup) (_ : i ∈ L) (_ : p i = true) (_ : ∀ j ∈ L, p j = true → j = i), (L.filter p).length = 1
  | [], _, hi, _, _ => absurd hi (by simp)
  | a :: L, hn, hi, hp, hu => by
    obtain ⟨h1, h2⟩ := List.nodup_cons.1 hn
    by_cases e : a = i
    · subst e
      rw [List.filter_cons_of_pos hp]
      have : L.filter p = [] := List.filter_eq_nil_iff.2 fun j hj hpj => by
        have := hu j (by simp [hj]) hpj
        exact h1 (this ▸ hj)
      rw [this]; rfl
    · have hpa : ¬ p a = true := fun q => e (hu a (by simp) q)
      rw [List.filter_cons_of_neg hpa]
      exact filter_one h2 ((List.mem_cons.1 hi).resolve_left (Ne.symm e)) hp fun j hj => hu j (by simp [hj])
/-- All that NestWays asks. -/
structure NW (n : Nat) (cs parts : List Int) (l : List Node) (lvl : List Int) : Prop where
  inn : ∀ x ∈ lvl, 0 ≤ x ∧ x < l.length
  one : ∀ v, v < n → parts.getD v 0 = (v : Int) → foundN l lvl v (sizeN parts v n) (lowN parts cs v n) lvl.length = 1
  many : manyN parts n = lvl.length
theorem nest_NW {n : Nat} {ps : List Pair} {cs : List Int} {k : Int} {parts : List Int} (hcs : cs.length = n) (h : PO n (adjOf n ps) cs k n parts) : NW n cs parts (nestS n ps cs) (topsOf (nestS n ps cs) k (nestS n ps cs).length) := by
  obtain ⟨S, k0, v0, hN, hcov⟩ := nest_shape (ps := ps) hcs
  generalize nestS n ps cs = l at *
  have hRM : ∀ a b, within (adjOf n ps) (lv n cs k) a b → lv n cs k a ∧ lv n cs k b := fun a b q => ⟨q.1, q.2.1⟩
  have hA := fun v (hv : lv n cs k v) hm => hN.level (k := k) (fun u hu => (hcov u hu).2) (v := v) hv hm
  have hgd : ∀ (i : Nat) x, l[i]? = some x → l.getD (i : Int).toNat ⟨0, 0, 0, 0⟩ = x := fun i x hx => by rw [Int.toNat_natCast, List.getD_eq_getElem?_getD, hx]; rfl
  have hself : ∀ (i : Nat) x, l[i]? = some x → isTop l k x = true → ∃ w : Nat, x.Least = (w : Int) ∧ w ∈ S i ∧ w < n ∧ parts.getD w 0 = (w : Int) := fun i x hx ht => by
    obtain ⟨w, w1, w2, w3⟩ := hN.inv.least i x hx
    have hwn := hN.inv.sub i x hx w w2
    have hlw : lv n cs k w := ⟨hwn, Int.le_trans (top_parts ht).1 (hN.in_ i x hx w w2)⟩
    refine ⟨w, w1, w2, hwn, ?_⟩
    rcases h.2 w hwn with ⟨_, g2⟩ | ⟨p, g1, g2, g3, g4, g5⟩
    · exact absurd .refl (g2 w hwn hlw)
    · obtain ⟨j, y, y1, y2, y3, y4, _⟩ := hA p g3 g5
      have e := top_apart hN.inv hx y1 ht y2 w2 ((y3 w).2 g4)
      subst e
      rw [hx] at y1
      cases y1
      have : p = w := by omega
      rw [g2, this]
  refine ⟨fun x hx => ?_, fun v hv hs => ?_, ?_⟩
  · obtain ⟨i, y, rfl, hy, _⟩ := mem_tops.1 hx
    have := hN.inv.lt hy
    omega
  · obtain ⟨hlv, hm⟩ := (h.self hv).1 hs
    obtain ⟨i, x, hx, ht, hS, hl, hk1, b, hb, hbk⟩ := hA v hlv hm
    have hsz : x.Size = (sizeN parts v n : Int) := by
      rw [hN.inv.size i x hx]
      have : (S i).Perm ((List.range n).filter fun u => decide (parts.getD u 0 = (v : Int))) := (List.perm_ext_iff_of_nodup (hN.inv.nd i x hx) (List.nodup_range.sublist List.filter_sublist)).2 fun u => by
        rw [hS, List.mem_filter, List.mem_range, decide_eq_true_eq]
        constructor
        · intro q
          have hu := (q.mem hRM hlv).1
          exact ⟨hu, (h.of hv hu hs).2 q⟩
        · rintro ⟨hu, q⟩
          exact (h.of hv hu hs).1 q
      rw [this.length_eq]
      rfl
    have hlow : x.K = lowN parts cs v n := by
      obtain ⟨g1, g2⟩ := low_spec parts cs v n
      have hbn := (hb.mem hRM hlv).1
      have q1 := g2 b hbn ((h.of hv hbn hs).2 hb)
      rcases g1 with g1 | ⟨u, u1, u2, u3⟩
      · have := hk1 v .refl; omega
      · have := hk1 u ((h.of hv u1 hs).1 u2); omega
    unfold foundN
    rw [List.take_of_length_le (Nat.le_refl _)]
    refine filter_one (i := (i : Int)) (tops_nodup l k) (mem_tops.2 ⟨i, x, rfl, hx, ht⟩) ?_ fun z hz hpz => ?_
    · unfold isIt
      rw [hgd i x hx]
      simp [hl, hsz, hlow]
    · obtain ⟨j, y, rfl, hy, htj⟩ := mem_tops.1 hz
      unfold isIt at hpz
      rw [hgd j y hy] at hpz
      simp only [Bool.and_eq_true, decide_eq_true_eq] at hpz
      obtain ⟨a, a1, a2, _⟩ := hN.inv.least j y hy
      have : a = v := by omega
      subst this
      have := top_apart hN.inv hx hy ht htj ((hS a).2 .refl) a2
      rw [this]
  · have hnd : ((topsOf l k l.length).map fun x => (l.getD x.toNat ⟨0, 0, 0, 0⟩).Least.toNat).Nodup := by
      unfold List.Nodup
      rw [List.pairwise_map]
      refine List.Pairwise.imp_of_mem (fun {a b} ha hb hab e => ?_) (tops_nodup l k)
      obtain ⟨i, x, rfl, hx, hti⟩ := mem_tops.1 ha
      obtain ⟨j, y, rfl, hy, htj⟩ := mem_tops.1 hb
      rw [hgd i x hx, hgd j y hy] at e
      obtain ⟨p, p1, p2, _⟩ := hN.inv.least i x hx
      obtain ⟨q, q1, q2, _⟩ := hN.inv.least j y hy
      have : p = q := by omega
      subst this
      have := top_apart hN.inv hx hy hti htj p2 q2
      exact hab (by rw [this])
    have hp : ((List.range n).filter fun v => decide (parts.getD v 0 = (v : Int))).Perm ((topsOf l k l.length).map fun x => (l.getD x.toNat ⟨0, 0, 0, 0⟩).Least.toNat) := (List.perm_ext_iff_of_nodup (List.nodup_range.sublist List.filter_sublist) hnd).2 fun w => by
      rw [List.mem_filter, List.mem_range, decide_eq_true_eq, List.mem_map]
      constructor
      · rintro ⟨hw, hs⟩
        obtain ⟨hlv, hm⟩ := (h.self hw).1 hs
        obtain ⟨i, x, hx, ht, _, hl, _⟩ := hA w hlv hm
        exact ⟨(i : Int), mem_tops.2 ⟨i, x, rfl, hx, ht⟩, by rw [hgd i x hx, hl, Int.toNat_natCast]⟩
      · rintro ⟨z, hz, rfl⟩
        obtain ⟨i, x, rfl, hx, ht⟩ := mem_tops.1 hz
        obtain ⟨w, w1, _, w3, w4⟩ := hself i x hx ht
        rw [hgd i x hx, w1, Int.toNat_natCast]
        exact ⟨w3, w4⟩
    unfold manyN
    rw [hp.length_eq, List.length_map]
end Go.Proofs.Ytikgdhmnnnicmaa
