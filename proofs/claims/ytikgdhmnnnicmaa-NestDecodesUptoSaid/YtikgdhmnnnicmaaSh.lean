/- The shape of the nest: sets, one in another. No condition. -/
import Derived.Test.YtikgdhmnnnicmaaZ
namespace Go.Proofs.Ytikgdhmnnnicmaa
open Go.RowKit Go.IntWalk
/-! ### The nest's shape -/
/-- j stands around i. -/
inductive Anc (out : List Node) (i : Nat) : Nat → Prop
  | up {j : Nat} {x : Node} : out[i]? = some x → x.Parent = (j : Int) → Anc out i j
  | more {j k : Nat} {y : Node} : Anc out i j → out[j]? = some y → y.Parent = (k : Int) → Anc out i k
/-- The nodes are sets, one in another. -/
structure FInv (n : Nat) (out : List Node) (S : Nat → List Nat) : Prop where
  nd : ∀ (i : Nat) x, out[i]? = some x → (S i).Nodup
  sub : ∀ (i : Nat) x, out[i]? = some x → ∀ v ∈ S i, v < n
  least : ∀ (i : Nat) x, out[i]? = some x → ∃ l : Nat, x.Least = (l : Int) ∧ l ∈ S i ∧ ∀ u ∈ S i, l ≤ u
  size : ∀ (i : Nat) x, out[i]? = some x → x.Size = ((S i).length : Int)
  par : ∀ (i : Nat) x, out[i]? = some x → x.Parent = -1 ∨ ∃ (j : Nat) (y : Node), x.Parent = (j : Int) ∧ i < j ∧ out[j]? = some y ∧ y.K < x.K ∧ ∀ v ∈ S i, v ∈ S j
  dis : ∀ (i j : Nat) x y, out[i]? = some x → out[j]? = some y → x.Parent = y.Parent → i ≠ j → ∀ v ∈ S i, v ∉ S j
  own : ∀ (j : Nat) y, out[j]? = some y → ∃ u ∈ S j, ∀ (i : Nat) x, out[i]? = some x → x.Parent = (j : Int) → u ∉ S i
  lam : ∀ (i j : Nat) x y, out[i]? = some x → out[j]? = some y → i < j → (∃ v, v ∈ S i ∧ v ∈ S j) → Anc out i j
theorem nodeS_get {n : Nat} {comp : Nat → Nat → Bool} {k : Int} {out : List Node} {v i : Nat} {z : Node} : (nodeS n comp k out v)[i]? = some z ↔ (∃ x, out[i]? = some x ∧ z = childS (comp v) out.length x) ∨ (i = out.length ∧ z = ⟨k, (v : Int), (((List.range n).filter (comp v)).length : Int), -1⟩) := by
  unfold nodeS
  rcases Nat.lt_or_ge i out.length with q | q
  · rw [List.getElem?_append_left (by simpa using q), List.getElem?_map, List.getElem?_eq_getElem q]
    simp only [Option.map_some, Option.some.injEq]
    constructor
    · intro e; exact .inl ⟨_, rfl, e.symm⟩
    · rintro (⟨x, rfl, e⟩ | ⟨e, _⟩)
      · exact e.symm
      · omega
  · rw [List.getElem?_append_right (by simpa using q)]
    simp only [List.length_map, List.getElem?_eq_none q]
    constructor
    · intro e
      have : i - out.length = 0 := by
        have := (List.getElem?_eq_some_iff.1 e).1
        simp at this
        omega
      rw [this] at e
      simp only [List.getElem?_cons_zero, Option.some.injEq] at e
      exact .inr ⟨by omega, e.symm⟩
    · rintro (⟨x, e, _⟩ | ⟨e, rfl⟩)
      · cases e
      · rw [e, Nat.sub_self]; rfl
section
variable {n : Nat} {out : List Node} {S : Nat → List Nat}
theorem FInv.lt (_ : FInv n out S) {i : Nat} {x : Node} (hx : out[i]? = some x) : i < out.length := (List.getElem?_eq_some_iff.1 hx).1
/-- The outermost node round i. -/
theorem FInv.top (h : FInv n out S) : ∀ (m i : Nat) (x : Node), out[i]? = some x → out.length ≤ i + m → ∃ (r : Nat) (y : Node), out[r]? = some y ∧ y.Parent = -1 ∧ (r = i ∨ Anc out i r) ∧ ∀ v ∈ S i, v ∈ S r
  | 0, i, x, hx, hm => by have := h.lt hx; omega
  | m + 1, i, x, hx, hm => by
    rcases h.par i x hx with hp | ⟨j, y, h1, h2, h3, h4, h5⟩
    · exact ⟨i, x, hx, hp, .inl rfl, fun v q => q⟩
    · obtain ⟨r, z, r1, r2, r3, r4⟩ := FInv.top h m j y h3 (by omega)
      refine ⟨r, z, r1, r2, .inr ?_, fun v q => r4 v (h5 v q)⟩
      have h0 : Anc out i j := .up hx h1
      rcases r3 with rfl | r3
      · exact h0
      · clear r1 r2 r4
        induction r3 with
        | up q1 q2 => exact h0.more q1 q2
        | more _ q1 q2 ih => exact ih.more q1 q2
theorem FInv.step (h : FInv n out S) {comp : Nat → Nat → Bool} {k : Int} {v : Nat} {T : List Nat} (hT : T.Nodup) (hTn : ∀ u ∈ T, u < n) (hvT : v ∈ T) (hvm : ∀ u ∈ T, v ≤ u) (hlen : ((List.range n).filter (comp v)).length = T.length) (hc : ∀ u, comp v u = true ↔ u ∈ T)
    (hr : ∀ (i : Nat) x, out[i]? = some x → x.Parent = -1 → (∃ w, w ∈ S i ∧ w ∈ T) → ∀ w ∈ S i, w ∈ T) (hu : ∃ u ∈ T, ∀ (i : Nat) x, out[i]? = some x → x.Parent = -1 → u ∉ S i) (hk : ∀ (i : Nat) x, out[i]? = some x → x.Parent = -1 → x.Least.toNat ∈ T → k < x.K) :
    FInv n (nodeS n comp k out v) (fun i => if i = out.length then T else S i) := by
  have hne : ∀ (i : Nat) x, out[i]? = some x → (if i = out.length then T else S i) = S i := fun i x hx => if_neg (by have := h.lt hx; omega)
  have hnew : (if out.length = out.length then T else S out.length) = T := if_pos rfl
  have hK : ∀ x, (childS (comp v) out.length x).K = x.K ∧ (childS (comp v) out.length x).Least = x.Least ∧ (childS (comp v) out.length x).Size = x.Size := fun x => by unfold childS; split <;> exact ⟨rfl, rfl, rfl⟩
  -- a child, or not
  have hch : ∀ (i : Nat) x, out[i]? = some x → ((x.Parent = -1 ∧ x.Least.toNat ∈ T ∧ (childS (comp v) out.length x).Parent = (out.length : Int)) ∨ (childS (comp v) out.length x = x ∧ ¬ (x.Parent = -1 ∧ x.Least.toNat ∈ T))) := fun i x hx => by
    by_cases q : x.Parent = -1 ∧ comp v x.Least.toNat = true
    · exact .inl ⟨q.1, (hc _).1 q.2, by unfold childS; rw [if_pos q]⟩
    · exact .inr ⟨by unfold childS; rw [if_neg q], fun p => q ⟨p.1, (hc _).2 p.2⟩⟩
  have hlT : ∀ (i : Nat) x, out[i]? = some x → x.Least.toNat ∈ S i := fun i x hx => by
    obtain ⟨l, h1, h2, _⟩ := h.least i x hx
    rw [h1, Int.toNat_natCast]; exact h2
  have hnolen : ∀ (i : Nat) x, out[i]? = some x → x.Parent ≠ (out.length : Int) := fun i x hx e => by
    rcases h.par i x hx with hp | ⟨j, y, h1, _, h3, _⟩
    · omega
    · have := h.lt h3; omega
  have hanc : ∀ (i j : Nat), Anc out i j → Anc (nodeS n comp k out v) i j := fun i j ha => by
    have one : ∀ (a b : Nat) (x : Node), out[a]? = some x → x.Parent = (b : Int) → ∃ z, (nodeS n comp k out v)[a]? = some z ∧ z.Parent = (b : Int) := fun a b x hx hb => by
      refine ⟨childS (comp v) out.length x, nodeS_get.2 (.inl ⟨x, hx, rfl⟩), ?_⟩
      unfold childS
      rw [if_neg (fun q => by omega)]
      exact hb
    induction ha with
    | up hx hp =>
      obtain ⟨z, z1, z2⟩ := one _ _ _ hx hp
      exact .up z1 z2
    | more _ hx hp ih =>
      obtain ⟨z, z1, z2⟩ := one _ _ _ hx hp
      exact ih.more z1 z2
  constructor
  · intro i z hz
    rcases nodeS_get.1 hz with ⟨x, hx, rfl⟩ | ⟨rfl, rfl⟩
    · rw [hne i x hx]; exact h.nd i x hx
    · rw [hnew]; exact hT
  · intro i z hz
    rcases nodeS_get.1 hz with ⟨x, hx, rfl⟩ | ⟨rfl, rfl⟩
    · rw [hne i x hx]; exact h.sub i x hx
    · rw [hnew]; exact hTn
  · intro i z hz
    rcases nodeS_get.1 hz with ⟨x, hx, rfl⟩ | ⟨rfl, rfl⟩
    · rw [hne i x hx, (hK x).2.1]; exact h.least i x hx
    · rw [hnew]; exact ⟨v, rfl, hvT, hvm⟩
  · intro i z hz
    rcases nodeS_get.1 hz with ⟨x, hx, rfl⟩ | ⟨rfl, rfl⟩
    · rw [hne i x hx, (hK x).2.2]; exact h.size i x hx
    · rw [hnew, hlen]
  · intro i z hz
    rcases nodeS_get.1 hz with ⟨x, hx, rfl⟩ | ⟨rfl, rfl⟩
    · rcases hch i x hx with ⟨q1, q2, q3⟩ | ⟨q1, _⟩
      · refine .inr ⟨out.length, _, q3, h.lt hx, nodeS_get.2 (.inr ⟨rfl, rfl⟩), by rw [(hK x).1]; exact hk i x hx q1 q2, fun w hw => ?_⟩
        rw [hnew]
        rw [hne i x hx] at hw
        exact hr i x hx q1 ⟨_, hlT i x hx, q2⟩ w hw
      · rw [q1]
        rcases h.par i x hx with hp | ⟨j, y, h1, h2, h3, h4, h5⟩
        · exact .inl hp
        · refine .inr ⟨j, childS (comp v) out.length y, h1, h2, nodeS_get.2 (.inl ⟨y, h3, rfl⟩), by rw [(hK y).1]; exact h4, fun w hw => ?_⟩
          rw [hne i x hx] at hw
          rw [hne j y h3]
          exact h5 w hw
    · exact .inl rfl
  · intro i j z1 z2 hz1 hz2 hp hij w hw
    rcases nodeS_get.1 hz1 with ⟨x, hx, rfl⟩ | ⟨rfl, rfl⟩
    · rw [hne i x hx] at hw
      rcases nodeS_get.1 hz2 with ⟨y, hy, rfl⟩ | ⟨rfl, rfl⟩
      · rw [hne j y hy]
        rcases hch i x hx with ⟨q1, q2, q3⟩ | ⟨q1, _⟩ <;> rcases hch j y hy with ⟨p1, p2, p3⟩ | ⟨p1, _⟩
        · exact h.dis i j x y hx hy (q1.trans p1.symm) hij w hw
        · rw [q3, p1] at hp; exact absurd hp.symm (hnolen j y hy)
        · rw [q1, p3] at hp; exact absurd hp (hnolen i x hx)
        · rw [q1, p1] at hp; exact h.dis i j x y hx hy hp hij w hw
      · rw [hnew]
        rcases hch i x hx with ⟨q1, q2, q3⟩ | ⟨q1, q2⟩
        · rw [q3] at hp; simp only at hp; omega
        · rw [q1] at hp
          intro hwT
          exact q2 ⟨hp, hr i x hx hp ⟨w, hw, hwT⟩ _ (hlT i x hx)⟩
    · rw [hnew] at hw
      rcases nodeS_get.1 hz2 with ⟨y, hy, rfl⟩ | ⟨rfl, rfl⟩
      · rw [hne j y hy]
        rcases hch j y hy with ⟨p1, p2, p3⟩ | ⟨p1, p2⟩
        · rw [p3] at hp; simp only at hp; omega
        · rw [p1] at hp
          intro hwS
          exact p2 ⟨hp.symm, hr j y hy hp.symm ⟨w, hwS, hw⟩ _ (hlT j y hy)⟩
      · exact absurd rfl hij
  · intro j z hz
    rcases nodeS_get.1 hz with ⟨y, hy, rfl⟩ | ⟨rfl, rfl⟩
    · obtain ⟨u, u1, u2⟩ := h.own j y hy
      rw [hne j y hy]
      refine ⟨u, u1, fun i z' hz' hp => ?_⟩
      rcases nodeS_get.1 hz' with ⟨x, hx, rfl⟩ | ⟨rfl, rfl⟩
      · rw [hne i x hx]
        rcases hch i x hx with ⟨q1, q2, q3⟩ | ⟨q1, _⟩
        · rw [q3] at hp
          have := h.lt hy
          omega
        · rw [q1] at hp; exact u2 i x hx hp
      · simp only at hp; omega
    · obtain ⟨u, u1, u2⟩ := hu
      rw [hnew]
      refine ⟨u, u1, fun i z' hz' hp => ?_⟩
      rcases nodeS_get.1 hz' with ⟨x, hx, rfl⟩ | ⟨rfl, rfl⟩
      · rw [hne i x hx]
        rcases hch i x hx with ⟨q1, q2, q3⟩ | ⟨q1, _⟩
        · exact u2 i x hx q1
        · rw [q1] at hp; exact absurd hp (hnolen i x hx)
      · simp only at hp; omega
  · rintro i j z1 z2 hz1 hz2 hij ⟨w, hw1, hw2⟩
    rcases nodeS_get.1 hz1 with ⟨x, hx, rfl⟩ | ⟨rfl, rfl⟩
    · rw [hne i x hx] at hw1
      rcases nodeS_get.1 hz2 with ⟨y, hy, rfl⟩ | ⟨rfl, rfl⟩
      · rw [hne j y hy] at hw2
        exact hanc i j (h.lam i j x y hx hy hij ⟨w, hw1, hw2⟩)
      · rw [hnew] at hw2
        obtain ⟨r, y, r1, r2, r3, r4⟩ := h.top out.length i x hx (by omega)
        have hrT := hr r y r1 r2 ⟨w, r4 w hw1, hw2⟩
        have hz : (nodeS n comp k out v)[r]? = some (childS (comp v) out.length y) := nodeS_get.2 (.inl ⟨y, r1, rfl⟩)
        have hp : (childS (comp v) out.length y).Parent = (out.length : Int) := by
          rcases hch r y r1 with ⟨_, _, q3⟩ | ⟨_, q2⟩
          · exact q3
          · exact absurd ⟨r2, hrT _ (hlT r y r1)⟩ q2
        rcases r3 with rfl | r3
        · exact .up hz hp
        · exact (hanc i r r3).more hz hp
    · exfalso
      rcases nodeS_get.1 hz2 with ⟨y, hy, rfl⟩ | ⟨rfl, rfl⟩
      · have := h.lt hy; omega
      · omega
end
/-- One behind the other: by falling K, those of one K by rising Least. -/
def Ahead (x y : Node) : Prop := y.K < x.K ∨ (y.K = x.K ∧ x.Least < y.Least)
/-- u lies in an outermost node. -/
def Cov (out : List Node) (S : Nat → List Nat) (u : Nat) : Prop := ∃ (i : Nat) (x : Node), out[i]? = some x ∧ x.Parent = -1 ∧ u ∈ S i
/-- The nest down to level k, of its nodes those ahead of the vertex v. -/
structure NSt (n : Nat) (adj : List (List Int)) (cs : List Int) (k : Int) (v : Nat) (out : List Node) (S : Nat → List Nat) : Prop where
  inv : FInv n out S
  sorted : out.Pairwise Ahead
  lo : ∀ (i : Nat) x, out[i]? = some x → k ≤ x.K ∧ (x.K = k → x.Least < (v : Int))
  set : ∀ (i : Nat) x, out[i]? = some x → ∀ u, u ∈ S i ↔ Joined (within adj (lv n cs x.K)) x.Least.toNat u
  in_ : ∀ (i : Nat) x, out[i]? = some x → ∀ u ∈ S i, x.K ≤ cs.getD u (-1)
  own : ∀ (i : Nat) x, out[i]? = some x → ∃ u ∈ S i, cs.getD u (-1) = x.K
theorem within_mono {n : Nat} {adj : List (List Int)} {cs : List Int} {k k' : Int} (h : k' ≤ k) {a b : Nat} (hw : within adj (lv n cs k) a b) : within adj (lv n cs k') a b :=
  ⟨⟨hw.1.1, Int.le_trans h hw.1.2⟩, ⟨hw.2.1.1, Int.le_trans h hw.2.1.2⟩, hw.2.2⟩
theorem joined_mono {n : Nat} {adj : List (List Int)} {cs : List Int} {k k' : Int} (h : k' ≤ k) {a b : Nat} (hw : Joined (within adj (lv n cs k)) a b) : Joined (within adj (lv n cs k')) a b := hw.mono fun _ _ q => .inl (within_mono h q)
section
variable {n : Nat} {adj : List (List Int)} {cs : List Int} {k : Int}
theorem NSt.step {v v0 : Nat} {out : List Node} {S : Nat → List Nat} (h : NSt n adj cs k v0 out S) (hv0 : v0 ≤ v) {comp : Nat → Nat → Bool} (hc : ∀ v u, comp v u = true ↔ Joined (within adj (lv n cs k)) v u) (hv : v ∈ leastsS n cs comp k) :
    ∃ S', NSt n adj cs k (v + 1) (nodeS n comp k out v) S' ∧ (∀ u, Cov out S u → Cov (nodeS n comp k out v) S' u) ∧ (∀ u, Joined (within adj (lv n cs k)) v u → Cov (nodeS n comp k out v) S' u ∧ ∃ (i : Nat) (x : Node), (nodeS n comp k out v)[i]? = some x ∧ x.K = k ∧ u ∈ S' i) ∧
      ∀ u (i : Nat) x, out[i]? = some x → u ∈ S i → ∃ z, (nodeS n comp k out v)[i]? = some z ∧ z.K = x.K ∧ u ∈ S' i := by
  have hRM : ∀ a b, within adj (lv n cs k) a b → lv n cs k a ∧ lv n cs k b := fun a b q => ⟨q.1, q.2.1⟩
  obtain ⟨q1, q2, q3, u0, q4, q5, q6⟩ := mem_leasts.1 hv
  have hlv : lv n cs k v := ⟨q1, q2⟩
  have hT : ∀ u, u ∈ (List.range n).filter (comp v) ↔ Joined (within adj (lv n cs k)) v u := fun u => by
    rw [List.mem_filter, List.mem_range, hc]
    exact ⟨fun p => p.2, fun p => ⟨(p.mem hRM hlv).1, p⟩⟩
  have hmin : ∀ u, Joined (within adj (lv n cs k)) v u → v ≤ u := fun u p => q3 u (p.mem hRM hlv).1 ((hc v u).2 p)
  have hlT : ∀ (i : Nat) x, out[i]? = some x → x.Least.toNat ∈ S i := fun i x hx => by
    obtain ⟨l, h1, h2, _⟩ := h.inv.least i x hx
    rw [h1, Int.toNat_natCast]; exact h2
  -- all of a node are joined on level k
  have hconn : ∀ (i : Nat) x, out[i]? = some x → ∀ a ∈ S i, ∀ b ∈ S i, Joined (within adj (lv n cs k)) a b := fun i x hx a ha b hb => by
    have h1 := joined_mono (h.lo i x hx).1 ((h.set i x hx a).1 ha)
    have h2 := joined_mono (h.lo i x hx).1 ((h.set i x hx b).1 hb)
    exact h1.symm.trans h2
  -- no node of this level meets the new one
  have hsame : ∀ (i : Nat) x, out[i]? = some x → x.K = k → ∀ w ∈ S i, ¬ Joined (within adj (lv n cs k)) v w := fun i x hx hK w hw hj => by
    have h1 := (h.lo i x hx).2 hK
    obtain ⟨l, e, h2, h3⟩ := h.inv.least i x hx
    have h4 := hj.trans (hconn i x hx w hw l h2)
    have := hmin l h4
    omega
  have hFI := h.inv.step (comp := comp) (k := k) (v := v) (T := (List.range n).filter (comp v)) (List.nodup_range.sublist List.filter_sublist) (fun u hu => List.mem_range.1 (List.mem_filter.1 hu).1) ((hT v).2 .refl) (fun u hu => hmin u ((hT u).1 hu)) rfl
    (fun u => (hc v u).trans (hT u).symm) (fun i x hx _ ⟨w, w1, w2⟩ b hb => (hT b).2 (((hT w).1 w2).trans (hconn i x hx w w1 b hb)))
    ⟨u0, (hT u0).2 ((hc v u0).1 q5), fun i x hx _ hu => by
      have h1 := h.in_ i x hx u0 hu
      have h2 := (h.lo i x hx).1
      exact hsame i x hx (by omega) u0 hu ((hc v u0).1 q5)⟩
    (fun i x hx _ hl => by
      have h2 := (h.lo i x hx).1
      have h3 : x.K ≠ k := fun e => hsame i x hx e _ (hlT i x hx) ((hT _).1 hl)
      omega)
  have hne : ∀ (i : Nat) x, out[i]? = some x → (if i = out.length then (List.range n).filter (comp v) else S i) = S i := fun i x hx => if_neg (by have := h.inv.lt hx; omega)
  have hnew : (if out.length = out.length then (List.range n).filter (comp v) else S out.length) = (List.range n).filter (comp v) := if_pos rfl
  have hK : ∀ x, (childS (comp v) out.length x).K = x.K ∧ (childS (comp v) out.length x).Least = x.Least := fun x => by unfold childS; split <;> exact ⟨rfl, rfl⟩
  refine ⟨fun i => if i = out.length then (List.range n).filter (comp v) else S i, ⟨hFI, ?_, ?_, ?_, ?_, ?_⟩, ?_, ?_, ?_⟩
  · unfold nodeS
    rw [List.pairwise_append]
    refine ⟨?_, by simp, fun x hx y hy => ?_⟩
    · rw [List.pairwise_map]
      refine h.sorted.imp ?_
      intro a b hab
      unfold Ahead
      rw [(hK a).1, (hK a).2, (hK b).1, (hK b).2]
      exact hab
    · rw [List.mem_singleton] at hy
      subst hy
      obtain ⟨a, ha, rfl⟩ := List.mem_map.1 hx
      obtain ⟨i, hi⟩ := List.getElem?_of_mem ha
      have h1 := h.lo i a hi
      unfold Ahead
      rw [(hK a).1, (hK a).2]
      by_cases e : a.K = k
      · right
        have := h1.2 e
        exact ⟨e.symm, by show a.Least < (v : Int); omega⟩
      · left
        show k < a.K
        omega
  · intro i z hz
    rcases nodeS_get.1 hz with ⟨x, hx, rfl⟩ | ⟨rfl, rfl⟩
    · rw [(hK x).1, (hK x).2]
      have := h.lo i x hx
      exact ⟨this.1, fun e => by have := this.2 e; omega⟩
    · exact ⟨Int.le_refl _, fun _ => by show (v : Int) < ((v + 1 : Nat) : Int); omega⟩
  · intro i z hz u
    rcases nodeS_get.1 hz with ⟨x, hx, rfl⟩ | ⟨rfl, rfl⟩
    · rw [hne i x hx, (hK x).1, (hK x).2]
      exact h.set i x hx u
    · rw [hnew]
      exact hT u
  · intro i z hz u hu
    rcases nodeS_get.1 hz with ⟨x, hx, rfl⟩ | ⟨rfl, rfl⟩
    · rw [hne i x hx] at hu
      rw [(hK x).1]
      exact h.in_ i x hx u hu
    · rw [hnew] at hu
      exact (((hT u).1 hu).mem hRM hlv).2
  · intro i z hz
    rcases nodeS_get.1 hz with ⟨x, hx, rfl⟩ | ⟨rfl, rfl⟩
    · rw [hne i x hx, (hK x).1]
      exact h.own i x hx
    · rw [hnew]
      exact ⟨u0, (hT u0).2 ((hc v u0).1 q5), q6⟩
  · rintro u ⟨i, x, hx, hp, hu⟩
    by_cases e : x.Parent = -1 ∧ comp v x.Least.toNat = true
    · refine ⟨out.length, _, nodeS_get.2 (.inr ⟨rfl, rfl⟩), rfl, ?_⟩
      dsimp only
      rw [hnew, hT]
      exact ((hc v _).1 e.2).trans (hconn i x hx _ (hlT i x hx) u hu)
    · refine ⟨i, childS (comp v) out.length x, nodeS_get.2 (.inl ⟨x, hx, rfl⟩), by unfold childS; rw [if_neg e]; exact hp, ?_⟩
      dsimp only
      rw [hne i x hx]
      exact hu
  · intro u hu
    refine ⟨⟨out.length, _, nodeS_get.2 (.inr ⟨rfl, rfl⟩), rfl, by dsimp only; rw [hnew]; exact (hT u).2 hu⟩, out.length, _, nodeS_get.2 (.inr ⟨rfl, rfl⟩), rfl, by dsimp only; rw [hnew]; exact (hT u).2 hu⟩
  · intro u i x hx hu
    exact ⟨childS (comp v) out.length x, nodeS_get.2 (.inl ⟨x, hx, rfl⟩), (hK x).1, by dsimp only; rw [hne i x hx]; exact hu⟩
/-- u has a node of its own number. -/
def Own1 (out : List Node) (S : Nat → List Nat) (cs : List Int) (u : Nat) : Prop := ∃ (i : Nat) (x : Node), out[i]? = some x ∧ x.K = cs.getD u (-1) ∧ u ∈ S i
theorem NSt.steps {comp : Nat → Nat → Bool} (hc : ∀ v u, comp v u = true ↔ Joined (within adj (lv n cs k)) v u) : ∀ (vs : List Nat) {v0 : Nat} {out : List Node} {S : Nat → List Nat} (_ : NSt n adj cs k v0 out S) (_ : vs.Pairwise (· < ·)) (_ : ∀ v ∈ vs, v0 ≤ v ∧ v ∈ leastsS n cs comp k),
    ∃ S' v1, NSt n adj cs k v1 (vs.foldl (nodeS n comp k) out) S' ∧ (∀ u, Cov out S u → Cov (vs.foldl (nodeS n comp k) out) S' u) ∧ (∀ u, Own1 out S cs u → Own1 (vs.foldl (nodeS n comp k) out) S' cs u) ∧
      ∀ v ∈ vs, ∀ u, Joined (within adj (lv n cs k)) v u → Cov (vs.foldl (nodeS n comp k) out) S' u ∧ (cs.getD u (-1) = k → Own1 (vs.foldl (nodeS n comp k) out) S' cs u)
  | [], v0, out, S, h, _, _ => ⟨S, v0, h, fun _ q => q, fun _ q => q, fun v hv => absurd hv (by simp)⟩
  | v :: vs, v0, out, S, h, hp, hm => by
    obtain ⟨hp1, hp2⟩ := List.pairwise_cons.1 hp
    obtain ⟨S1, h1, h2, h3, h4⟩ := h.step (hm v (by simp)).1 hc (hm v (by simp)).2
    obtain ⟨S2, v2, k1, k2, k3, k4⟩ := NSt.steps hc vs h1 hp2 fun w hw => ⟨hp1 w hw, (hm w (by simp [hw])).2⟩
    refine ⟨S2, v2, k1, fun u q => k2 u (h2 u q), fun u ⟨i, x, hx, hxk, hu⟩ => ?_, fun w hw u hj => ?_⟩
    · obtain ⟨z, z1, z2, z3⟩ := h4 u i x hx hu
      exact k3 u ⟨i, z, z1, z2.trans hxk, z3⟩
    · rcases List.mem_cons.1 hw with rfl | hw
      · obtain ⟨p1, i, x, p2, p3, p4⟩ := h3 u hj
        exact ⟨k2 u p1, fun e => k3 u ⟨i, x, p2, p3.trans e.symm, p4⟩⟩
      · exact k4 w hw u hj
/-- Each part of level k that has a vertex of number k is one of the leasts'. -/
theorem least_of {comp : Nat → Nat → Bool} (hc : ∀ v u, comp v u = true ↔ Joined (within adj (lv n cs k)) v u) {u : Nat} (hu : u < n) (hk : cs.getD u (-1) = k) : ∃ l ∈ leastsS n cs comp k, Joined (within adj (lv n cs k)) l u := by
  have hRM : ∀ a b, within adj (lv n cs k) a b → lv n cs k a ∧ lv n cs k b := fun a b q => ⟨q.1, q.2.1⟩
  have hlu : lv n cs k u := ⟨hu, by omega⟩
  have hex : ∀ m, ∀ w, w < m → Joined (within adj (lv n cs k)) w u → ∃ l, Joined (within adj (lv n cs k)) l u ∧ ∀ b, Joined (within adj (lv n cs k)) l b → l ≤ b := by
    intro m
    induction m with
    | zero => intro w hw; omega
    | succ m ih =>
      intro w hw hj
      by_cases q : ∃ b, b < w ∧ Joined (within adj (lv n cs k)) w b
      · obtain ⟨b, b1, b2⟩ := q
        exact ih b (by omega) (b2.symm.trans hj)
      · exact ⟨w, hj, fun b hb => by
          rcases Nat.lt_or_ge b w with p | p
          · exact absurd ⟨b, p, hb⟩ q
          · exact p⟩
  obtain ⟨l, l1, l2⟩ := hex (u + 1) u (by omega) .refl
  have hll := l1.symm.mem hRM hlu
  exact ⟨l, mem_leasts.2 ⟨hll.1, hll.2, fun b _ hb => l2 b ((hc l b).1 hb), u, hu, (hc l u).2 l1, hk⟩, l1⟩
theorem NSt.levels {comp : Int → Nat → Nat → Bool} (hc : ∀ k v u, comp k v u = true ↔ Joined (within adj (lv n cs k)) v u) : ∀ (ls : List Int) {k : Int} {v : Nat} {out : List Node} {S : Nat → List Nat} (_ : NSt n adj cs k v out S) (_ : ls.Pairwise (· > ·)) (_ : ∀ x ∈ ls, x < k)
    (_ : ∀ u, u < n → cs.getD u (-1) ∉ ls → Cov out S u ∧ Own1 out S cs u), ∃ S' k' v', NSt n adj cs k' v' (forestS n cs comp ls out) S' ∧ ∀ u, u < n → Cov (forestS n cs comp ls out) S' u ∧ Own1 (forestS n cs comp ls out) S' cs u
  | [], k, v, out, S, h, _, _, hcov => ⟨S, k, v, h, fun u hu => hcov u hu (by simp)⟩
  | x :: ls, k, v, out, S, h, hp, hlt, hcov => by
    obtain ⟨hp1, hp2⟩ := List.pairwise_cons.1 hp
    have hxk := hlt x (by simp)
    have h0 : NSt n adj cs x 0 out S := { h with lo := fun i y hy => ⟨by have := (h.lo i y hy).1; omega, fun e => by have := (h.lo i y hy).1; omega⟩ }
    have hasc : (leastsS n cs (comp x) x).Pairwise (· < ·) := List.Pairwise.sublist List.filter_sublist (List.pairwise_lt_range)
    obtain ⟨S1, v1, h1, h2, h3, h4⟩ := NSt.steps (hc x) (leastsS n cs (comp x) x) h0 hasc fun w hw => ⟨Nat.zero_le _, hw⟩
    refine NSt.levels hc ls h1 hp2 hp1 fun u hu hnot => ?_
    by_cases e : cs.getD u (-1) = x
    · obtain ⟨l, l1, l2⟩ := least_of (hc x) hu e
      have := h4 l l1 u l2
      exact ⟨this.1, this.2 e⟩
    · have := hcov u hu (fun q => (List.mem_cons.1 q).elim e hnot)
      exact ⟨h2 u this.1, h3 u this.2⟩
end
/-- The shape of the nest. -/
theorem nest_shape {n : Nat} {ps : List Pair} {cs : List Int} (hcs : cs.length = n) : ∃ S k v, NSt n (adjOf n ps) cs k v (nestS n ps cs) S ∧ ∀ u, u < n → Cov (nestS n ps cs) S u ∧ Own1 (nestS n ps cs) S cs u := by
  obtain ⟨h1, h2⟩ := levelsOf_spec cs
  have hin : ∀ a, a < n → cs.getD a (-1) ∈ (levelsOf cs).reverse := fun a ha => by
    rw [h2, List.getD_eq_getElem?_getD, List.getElem?_eq_getElem (by omega)]
    exact List.getElem_mem _
  unfold nestS
  cases hl : (levelsOf cs).reverse with
  | nil =>
    refine ⟨fun _ => [], 0, 0, ⟨⟨?_, ?_, ?_, ?_, ?_, ?_, ?_, ?_⟩, List.Pairwise.nil, ?_, ?_, ?_, ?_⟩, fun u hu => ?_⟩
    case refine_13 => have := hin u hu; rw [hl] at this; simp at this
    all_goals (intro i; intros; first | (rename_i h _ _; simp [forestS] at h; done) | (rename_i h _; simp [forestS] at h; done) | (rename_i h; simp [forestS] at h; done) | simp_all [forestS])
  | cons x ls =>
    rw [hl] at h1
    have h0 : NSt n (adjOf n ps) cs (x + 1) 0 [] (fun _ => []) := by
      refine ⟨⟨?_, ?_, ?_, ?_, ?_, ?_, ?_, ?_⟩, List.Pairwise.nil, ?_, ?_, ?_, ?_⟩
      all_goals (intro i; intros; simp_all)
    refine NSt.levels (fun k v u => compS_iff) (x :: ls) h0 h1 (fun y hy => ?_) fun u hu hnot => ?_
    · rcases List.mem_cons.1 hy with rfl | hy
      · omega
      · have := (List.pairwise_cons.1 h1).1 y hy
        omega
    · have := hin u hu
      rw [hl] at this
      exact absurd this hnot
end Go.Proofs.Ytikgdhmnnnicmaa
