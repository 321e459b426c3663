/- The plain law of the reference's Cores; what NestCores asks holds. No condition. -/
import Derived.Test.YtikgdhmnnnicmaaNw
namespace Go.Proofs.Ytikgdhmnnnicmaa
open Go.RowKit Go.IntWalk
/-! ### the reference's Cores -/
def hereF (l : List Int) (left : List Bool) : Nat := (l.filter fun u => left.getD u.toNat false).length
def passStep (adj : List (List Int)) (k : Nat) (a : List Bool × Bool) (v : Nat) : List Bool × Bool := if a.1.getD v false = true ∧ hereF (adj.getD v []) a.1 < k then (a.1.set v false, true) else a
def passF (n : Nat) (adj : List (List Int)) (k : Nat) (left : List Bool) : List Bool × Bool := (List.range n).foldl (passStep adj k) (left, false)
def peelF (n : Nat) (adj : List (List Int)) (k : Nat) : Nat → List Bool → Option (List Bool)
  | 0, _ => none
  | f + 1, left => if (passF n adj k left).2 = true then peelF n adj k f (passF n adj k left).1 else some (passF n adj k left).1
def coreStep (left : List Bool) (k : Nat) (a : List Int × Bool) (v : Nat) : List Int × Bool := if left.getD v false = true then (a.1.set v (k : Int), true) else a
def coresG (n : Nat) (adj : List (List Int)) : Nat → Nat → List Bool → List Int → Bool → Option (List Int)
  | 0, _, _, _, _ => none
  | f + 1, k, left, core, some_ => if some_ = true then (peelF n adj k (n + 1) left).bind fun left' => coresG n adj f (k + 1) left' ((List.range n).foldl (coreStep left' k) (core, false)).1 ((List.range n).foldl (coreStep left' k) (core, false)).2 else some core
def coresF (n : Nat) (adj : List (List Int)) : Option (List Int) := coresG n adj (n + 2) 1 (List.replicate n true) (List.replicate n 0) (decide (0 < n))
section
variable {n : Nat} {adj : List (List Int)} {k : Nat}
def trues (left : List Bool) : Nat := left.countP fun b => b
theorem trues_set {left : List Bool} {v : Nat} (h : left.getD v false = true) : trues (left.set v false) + 1 = trues left := by
  have hv : v < left.length := by
    refine Decidable.byContradiction fun q => ?_
    rw [List.getD_eq_getElem?_getD, List.getElem?_eq_none (by omega)] at h
    cases h
  have hg : left[v] = true := by
    rw [List.getD_eq_getElem?_getD, List.getElem?_eq_getElem hv] at h
    exact h
  unfold trues
  rw [List.countP_set hv, hg]
  have : 0 < left.countP fun b => b := List.countP_pos_iff.2 ⟨true, by rw [← hg]; exact List.getElem_mem hv, rfl⟩
  simp
  omega
/-- A pass only takes away; it says false only if nothing is to be taken. -/
theorem pass_spec : ∀ (vs : List Nat) (a : List Bool × Bool), (vs.foldl (passStep adj k) a).1.length = a.1.length ∧ (∀ u, (vs.foldl (passStep adj k) a).1.getD u false = true → a.1.getD u false = true) ∧ trues (vs.foldl (passStep adj k) a).1 ≤ trues a.1 ∧ ((vs.foldl (passStep adj k) a).2 = true → a.2 = true ∨ trues (vs.foldl (passStep adj k) a).1 < trues a.1) ∧
    ((vs.foldl (passStep adj k) a).2 = false → a.2 = false ∧ (vs.foldl (passStep adj k) a).1 = a.1 ∧ ∀ v ∈ vs, a.1.getD v false = true → k ≤ hereF (adj.getD v []) a.1)
  | [], a => ⟨rfl, fun _ q => q, Nat.le_refl _, fun q => .inl q, fun q => ⟨q, rfl, fun v hv => absurd hv (by simp)⟩⟩
  | v :: vs, a => by
    rw [List.foldl_cons]
    obtain ⟨h1, h2, h3, h4, h5⟩ := pass_spec vs (passStep adj k a v)
    by_cases hc : a.1.getD v false = true ∧ hereF (adj.getD v []) a.1 < k
    · have e : passStep adj k a v = (a.1.set v false, true) := by unfold passStep; rw [if_pos hc]
      rw [e] at h1 h2 h3 h4 h5 ⊢
      have ht := trues_set hc.1
      simp only at h1 h3
      refine ⟨by rw [h1, List.length_set], fun u hu => ?_, by omega, fun _ => .inr (by omega), fun q => absurd (h5 q).1 (by simp)⟩
      have := h2 u hu
      simp only at this
      by_cases e2 : v = u
      · subst e2
        rw [getD_set] at this
        split at this
        · cases this
        · exact hc.1
      · rwa [getD_set_ne e2] at this
    · have e : passStep adj k a v = a := by unfold passStep; rw [if_neg hc]
      rw [e] at h1 h2 h3 h4 h5 ⊢
      refine ⟨h1, h2, h3, h4, fun q => ?_⟩
      obtain ⟨q1, q2, q3⟩ := h5 q
      refine ⟨q1, q2, fun w hw hl => ?_⟩
      rcases List.mem_cons.1 hw with rfl | hw
      · have : ¬ hereF (adj.getD w []) a.1 < k := fun p => hc ⟨hl, p⟩
        omega
      · exact q3 w hw hl
theorem peel_spec : ∀ (f : Nat) (left : List Bool) (_ : left.length = n) (_ : trues left < f), ∃ left', peelF n adj k f left = some left' ∧ left'.length = n ∧ (∀ u, left'.getD u false = true → left.getD u false = true) ∧ ∀ v, v < n → left'.getD v false = true → k ≤ hereF (adj.getD v []) left'
  | 0, left, _, h => absurd h (Nat.not_lt_zero _)
  | f + 1, left, hl, ht => by
    obtain ⟨h1, h2, h3, h4, h5⟩ := pass_spec (adj := adj) (k := k) (List.range n) (left, false)
    by_cases hg : (passF n adj k left).2 = true
    · have ht2 : trues (passF n adj k left).1 < trues left := by
        rcases h4 hg with q | q
        · cases q
        · exact q
      obtain ⟨left', q1, q2, q3, q4⟩ := peel_spec f (passF n adj k left).1 (h1.trans hl) (by omega)
      refine ⟨left', by simp only [peelF, if_pos hg]; exact q1, q2, fun u hu => h2 u (q3 u hu), q4⟩
    · have hg2 : (passF n adj k left).2 = false := by simpa using hg
      obtain ⟨_, p2, p3⟩ := h5 hg2
      refine ⟨(passF n adj k left).1, by simp only [peelF, if_neg hg], h1.trans hl, h2, fun v hv hlv => ?_⟩
      have p2 : (passF n adj k left).1 = left := p2
      rw [p2] at hlv ⊢
      exact p3 v (List.mem_range.2 hv) hlv
theorem coreSteps_spec (left : List Bool) (k : Nat) : ∀ (m : Nat) (core : List Int) (_ : core.length = n) (_ : m ≤ n), ((List.range m).foldl (coreStep left k) (core, false)).1.length = n ∧ (∀ u, ((List.range m).foldl (coreStep left k) (core, false)).1.getD u 0 = if u < m ∧ left.getD u false = true then (k : Int) else core.getD u 0) ∧ (((List.range m).foldl (coreStep left k) (core, false)).2 = true ↔ ∃ u, u < m ∧ left.getD u false = true)
  | 0, core, hl, _ => ⟨hl, fun u => by rw [if_neg (fun q => absurd q.1 (Nat.not_lt_zero _))]; rfl, ⟨fun q => (by cases q), fun ⟨u, hu, _⟩ => absurd hu (Nat.not_lt_zero _)⟩⟩
  | m + 1, core, hl, hm => by
    obtain ⟨h1, h2, h3⟩ := coreSteps_spec left k m core hl (by omega)
    rw [List.range_succ, List.foldl_append, List.foldl_cons, List.foldl_nil]
    generalize (List.range m).foldl (coreStep left k) (core, false) = a at *
    by_cases hb : left.getD m false = true
    · have e : coreStep left k a m = (a.1.set m (k : Int), true) := by unfold coreStep; rw [if_pos hb]
      rw [e]
      refine ⟨by rw [List.length_set]; exact h1, fun u => ?_, ⟨fun _ => ⟨m, by omega, hb⟩, fun _ => rfl⟩⟩
      by_cases q : m = u
      · subst q
        rw [getD_set_eq (by omega), if_pos ⟨by omega, hb⟩]
      · rw [getD_set_ne q, h2]
        have : (u < m + 1) = (u < m) := by simp; omega
        simp only [this]
    · have e : coreStep left k a m = a := by unfold coreStep; rw [if_neg hb]
      rw [e]
      refine ⟨h1, fun u => ?_, h3.trans ⟨fun ⟨u, u1, u2⟩ => ⟨u, by omega, u2⟩, fun ⟨u, u1, u2⟩ => ⟨u, by
        rcases Nat.lt_or_ge u m with q | q
        · exact q
        · obtain rfl : u = m := by omega
          exact absurd u2 hb, u2⟩⟩⟩
      rw [h2]
      by_cases q : u = m
      · subst q
        rw [if_neg (fun p => absurd p.1 (Nat.lt_irrefl _)), if_neg (fun p => hb p.2)]
      · have : (u < m + 1) = (u < m) := by simp; omega
        simp only [this]
/-- How many of v's neighbours have that number or more. -/
def strong (adj : List (List Int)) (c : List Int) (v : Nat) (K : Int) : Nat := ((adj.getD v []).filter fun u => decide (K ≤ c.getD u.toNat 0)).length
theorem filter_le {α : Type} {p q : α → Bool} (h : ∀ x, p x = true → q x = true) : ∀ l : List α, (l.filter p).length ≤ (l.filter q).length := fun l => by
  rw [← List.countP_eq_length_filter, ← List.countP_eq_length_filter]
  exact List.countP_mono_left fun x _ hx => h x hx
theorem hereF_le (l : List Int) (left : List Bool) : hereF l left ≤ l.length := List.length_filter_le _ _
theorem trues_le (left : List Bool) : trues left ≤ left.length := List.countP_le_length
theorem cores_spec (hadj : Adj n adj) (hrow : ∀ v, (adj.getD v []).length ≤ n) : ∀ (f k : Nat) (left : List Bool) (core : List Int) (some_ : Bool) (_ : 1 ≤ k ∧ k ≤ n + 2) (_ : n + 3 ≤ f + k) (_ : left.length = n) (_ : core.length = n)
    (_ : ∀ u, u < n → 0 ≤ core.getD u 0 ∧ core.getD u 0 < k) (_ : ∀ u, u < n → left.getD u false = true → core.getD u 0 = (k : Int) - 1) (_ : ∀ v, v < n → core.getD v 0 ≤ strong adj core v (core.getD v 0)) (_ : some_ = true → k ≤ n + 1),
    ∃ c, coresG n adj f k left core some_ = some c ∧ c.length = n ∧ (∀ u, u < n → 0 ≤ c.getD u 0 ∧ c.getD u 0 < (n : Int) + 2) ∧ ∀ v, v < n → c.getD v 0 ≤ strong adj c v (c.getD v 0)
  | 0, k, left, core, some_, hk, hf, hll, hcl, hb, hlc, hst, hso => by omega
  | f + 1, k, left, core, some_, hk, hf, hll, hcl, hb, hlc, hst, hso => by
    cases some_ with
    | false =>
      refine ⟨core, rfl, hcl, fun u hu => ?_, hst⟩
      have := hb u hu
      omega
    | true =>
      have hkn := hso rfl
      obtain ⟨left', p1, p2, p3, p4⟩ := peel_spec (adj := adj) (k := k) (n + 1) left hll (by have := trues_le left; omega)
      obtain ⟨c1, c2, c3⟩ := coreSteps_spec left' k n core hcl (Nat.le_refl _)
      simp only [coresG, if_true, p1, Option.bind_some]
      generalize (List.range n).foldl (coreStep left' k) (core, false) = a at *
      have hge : ∀ u, u < n → a.1.getD u 0 = if left'.getD u false = true then (k : Int) else core.getD u 0 := fun u hu => by
        rw [c2]
        simp [hu]
      have hmono : ∀ u, u < n → core.getD u 0 ≤ a.1.getD u 0 := fun u hu => by
        rw [hge u hu]
        split
        · have := (hb u hu).2; omega
        · exact Int.le_refl _
      refine cores_spec hadj hrow f (k + 1) left' a.1 a.2 ⟨by omega, by omega⟩ (by omega) p2 c1 (fun u hu => ?_) (fun u hu hl => ?_) (fun v hv => ?_) (fun hs => ?_)
      · rw [hge u hu]
        split
        · omega
        · have := hb u hu; omega
      · rw [hge u hu, if_pos hl]; omega
      · by_cases hl : left'.getD v false = true
        · have h1 := p4 v hv hl
          have e : a.1.getD v 0 = (k : Int) := by rw [hge v hv, if_pos hl]
          rw [e]
          have : hereF (adj.getD v []) left' ≤ strong adj a.1 v (k : Int) := by
            unfold hereF strong
            rw [← List.countP_eq_length_filter, ← List.countP_eq_length_filter]
            refine List.countP_mono_left fun x hx hxl => ?_
            have hr := hadj.row v x hx
            rw [hge x.toNat (by omega), if_pos hxl]
            simp
          omega
        · have e : a.1.getD v 0 = core.getD v 0 := by rw [hge v hv, if_neg hl]
          rw [e]
          have h1 := hst v hv
          have : strong adj core v (core.getD v 0) ≤ strong adj a.1 v (core.getD v 0) := by
            unfold strong
            rw [← List.countP_eq_length_filter, ← List.countP_eq_length_filter]
            refine List.countP_mono_left fun x hx hxl => ?_
            have hr := hadj.row v x hx
            have := hmono x.toNat (by omega)
            simp only [decide_eq_true_eq] at hxl ⊢
            omega
          omega
      · obtain ⟨u, u1, u2⟩ := c3.1 hs
        have h1 := p4 u u1 u2
        have h2 := hereF_le (adj.getD u []) left'
        have h3 := hrow u
        omega
theorem cores_ok (hadj : Adj n adj) (hrow : ∀ v, (adj.getD v []).length ≤ n) : ∃ c, coresF n adj = some c ∧ c.length = n ∧ (∀ u, u < n → 0 ≤ c.getD u 0 ∧ c.getD u 0 < (n : Int) + 2) ∧ ∀ v, v < n → c.getD v 0 ≤ strong adj c v (c.getD v 0) := by
  have hr : ∀ {α : Type} (x d : α) (u : Nat), u < n → (List.replicate n x).getD u d = x := fun x d u hu => by rw [List.getD_eq_getElem?_getD, List.getElem?_replicate, if_pos hu]; rfl
  refine cores_spec hadj hrow (n + 2) 1 _ _ _ ⟨Nat.le_refl _, by omega⟩ (by omega) (by simp) (by simp) (fun u hu => by rw [hr _ _ u hu]; omega) (fun u hu _ => by rw [hr _ _ u hu]; rfl) (fun v hv => by rw [hr _ _ v hv]; omega) (fun h => by omega)
/-! ### What NestCores asks -/
/-- The parts of the vertices of a number of K or more. -/
def partsOf (n : Nat) (adj : List (List Int)) (c : List Int) (K : Int) : List Int := (partsP n adj (keepF c K)).getD []
def bitN (n : Nat) (adj : List (List Int)) (c : List Int) (l : List Node) (i v : Nat) : Bool := decide ((partsOf n adj c (l.getD i ⟨0, 0, 0, 0⟩).K).getD v 0 = (l.getD i ⟨0, 0, 0, 0⟩).Least) && decide (c.getD v 0 = (l.getD i ⟨0, 0, 0, 0⟩).K)
/-- In how many of the first i nodes of its own level v lies. -/
def cntN (n : Nat) (adj : List (List Int)) (c : List Int) (l : List Node) (i v : Nat) : Nat := ((List.range i).filter fun a => bitN n adj c l a v).length
def atN (n : Nat) (adj : List (List Int)) (c : List Int) (l : List Node) (i u : Nat) : List Int := (List.range n).map fun v => if v < u then (cntN n adj c l (i + 1) v : Int) else (cntN n adj c l i v : Int)
/-- How many of v's first j neighbours lie in node i. -/
def nearN (parts : List Int) (least : Int) (row : List Int) (j : Nat) : Nat := ((row.take j).filter fun u => decide (parts.getD u.toNat 0 = least)).length
def szN (parts : List Int) (least : Int) (u : Nat) : Nat := ((List.range u).filter fun v => decide (parts.getD v 0 = least)).length
structure NC (n : Nat) (adj tl : List (List Int)) (c : List Int) (l : List Node) : Prop where
  len : l.length ≤ n
  el : ∀ (i : Nat) x, l[i]? = some x → 0 ≤ x.Least ∧ x.Least < n ∧ partsP n adj (keepF c x.K) = some (partsOf n adj c x.K) ∧ (partsOf n adj c x.K).length = n ∧ (szN (partsOf n adj c x.K) x.Least n : Int) = x.Size ∧
    ∀ v, v < n → (partsOf n adj c x.K).getD v 0 = x.Least → x.K ≤ nearN (partsOf n adj c x.K) x.Least (tl.getD v []) (tl.getD v []).length
  one : ∀ v, v < n → cntN n adj c l l.length v = 1
end
theorem getD_any {c : List Int} {n u : Nat} (h : c.length = n) (hu : u < n) (d e : Int) : c.getD u d = c.getD u e := by
  rw [List.getD_eq_getElem?_getD, List.getD_eq_getElem?_getD, List.getElem?_eq_getElem (by omega)]
  rfl
theorem nest_NC {n : Nat} {ps : List Pair} {c : List Int} {tl : List (List Int)} (ha : among n ps) (hn : n ≤ 16777216) (hto : Adj n tl) (hmem : ∀ v u : Nat, (u : Int) ∈ tl.getD v [] ↔ v < n ∧ edgeB ps v u = true) (hcl : c.length = n) (hst : ∀ v, v < n → c.getD v 0 ≤ strong tl c v (c.getD v 0)) :
    NC n (adjOf n ps) tl c (nestS n ps c) := by
  obtain ⟨S, k0, v0, hN, hcov⟩ := nest_shape (ps := ps) hcl
  have hlen := (forests_ok (K := n) ha hn (Nat.le_refl _) hcl).2.2
  generalize nestS n ps c = l at *
  have hparts : ∀ K : Int, partsP n (adjOf n ps) (keepF c K) = some (partsOf n (adjOf n ps) c K) ∧ PO n (adjOf n ps) c K n (partsOf n (adjOf n ps) c K) := fun K => by
    obtain ⟨p, h1, h2⟩ := parts_ok (k := K) (adjOf_adj ha) hcl hn
    unfold partsOf
    rw [h1]
    exact ⟨rfl, h2⟩
  have hlst : ∀ (i : Nat) x, l[i]? = some x → ∃ w : Nat, x.Least = (w : Int) ∧ w ∈ S i ∧ w < n ∧ (partsOf n (adjOf n ps) c x.K).getD w 0 = (w : Int) ∧ ∀ u, u < n → ((partsOf n (adjOf n ps) c x.K).getD u 0 = (w : Int) ↔ u ∈ S i) := fun i x hx => by
    obtain ⟨w, w1, w2, w3⟩ := hN.inv.least i x hx
    have hwn := hN.inv.sub i x hx w w2
    have hset := hN.set i x hx
    rw [w1, Int.toNat_natCast] at hset
    have hs := ((hparts x.K).2.self hwn).2 ⟨⟨hwn, hN.in_ i x hx w w2⟩, fun b hb => w3 b ((hset b).2 hb)⟩
    exact ⟨w, w1, w2, hwn, hs, fun u hu => ((hparts x.K).2.of hwn hu hs).trans (hset u).symm⟩
  have hgd : ∀ (i : Nat) x, l[i]? = some x → l.getD i ⟨0, 0, 0, 0⟩ = x := fun i x hx => by rw [List.getD_eq_getElem?_getD, hx]; rfl
  refine ⟨hlen, fun i x hx => ?_, fun v hv => ?_⟩
  · obtain ⟨w, w1, w2, w3, w4, w5⟩ := hlst i x hx
    refine ⟨by omega, by omega, (hparts x.K).1, (hparts x.K).2.1, ?_, fun v hv hp => ?_⟩
    · rw [hN.inv.size i x hx]
      have : (S i).Perm ((List.range n).filter fun v => decide ((partsOf n (adjOf n ps) c x.K).getD v 0 = x.Least)) := (List.perm_ext_iff_of_nodup (hN.inv.nd i x hx) (List.nodup_range.sublist List.filter_sublist)).2 fun u => by
        rw [List.mem_filter, List.mem_range, decide_eq_true_eq, w1]
        exact ⟨fun q => ⟨hN.inv.sub i x hx u q, (w5 u (hN.inv.sub i x hx u q)).2 q⟩, fun q => (w5 u q.1).1 q.2⟩
      rw [this.length_eq]
      rfl
    · rw [w1] at hp
      have hvS := (w5 v hv).1 hp
      have hvk := hN.in_ i x hx v hvS
      have hset := hN.set i x hx
      have h1 := hst v hv
      have hkc : x.K ≤ c.getD v 0 := by rw [getD_any hcl hv 0 (-1)]; exact hvk
      have h2 : strong tl c v (c.getD v 0) ≤ nearN (partsOf n (adjOf n ps) c x.K) x.Least (tl.getD v []) (tl.getD v []).length := by
        unfold strong nearN
        rw [List.take_of_length_le (Nat.le_refl _), ← List.countP_eq_length_filter, ← List.countP_eq_length_filter]
        refine List.countP_mono_left fun u hu hul => ?_
        have hr := hto.row v u hu
        obtain ⟨b, rfl⟩ := Int.eq_ofNat_of_zero_le hr.1
        rw [Int.toNat_natCast] at hul ⊢
        simp only [decide_eq_true_eq] at hul ⊢
        have hbn : b < n := by omega
        rw [w1]
        refine (w5 b hbn).2 ((hset b).2 ?_)
        have hbk : x.K ≤ c.getD b (-1) := by rw [getD_any hcl hbn (-1) 0]; omega
        exact ((hset v).1 hvS).step (.inr ⟨⟨hbn, hbk⟩, ⟨hv, hvk⟩, mem_adjOf.2 ((hmem v b).1 hu)⟩)
      omega
  · obtain ⟨i, x, hx, hxk, hvi⟩ := (hcov v hv).2
    unfold cntN
    refine filter_one (i := i) List.nodup_range (List.mem_range.2 (hN.inv.lt hx)) ?_ fun j hj hb => ?_
    · obtain ⟨w, w1, w2, w3, w4, w5⟩ := hlst i x hx
      unfold bitN
      rw [hgd i x hx, w1]
      simp only [Bool.and_eq_true, decide_eq_true_eq]
      exact ⟨(w5 v hv).2 hvi, by rw [getD_any hcl hv 0 (-1), hxk]⟩
    · have hjl := List.mem_range.1 hj
      have hy : l[j]? = some l[j] := List.getElem?_eq_getElem hjl
      obtain ⟨w, w1, w2, w3, w4, w5⟩ := hlst j l[j] hy
      unfold bitN at hb
      rw [hgd j l[j] hy, w1] at hb
      simp only [Bool.and_eq_true, decide_eq_true_eq] at hb
      have hvj := (w5 v hv).1 hb.1
      have hkj : l[j].K = x.K := by rw [← hb.2, getD_any hcl hv 0 (-1), hxk]
      rcases Nat.lt_trichotomy i j with q | q | q
      · obtain ⟨a, b, a1, a2, a3⟩ := (hN.inv.lam i j x l[j] hx hy q ⟨v, hvi, hvj⟩).less hN.inv
        rw [hx] at a1
        rw [hy] at a2
        cases a1
        cases a2
        omega
      · exact q.symm
      · obtain ⟨a, b, a1, a2, a3⟩ := (hN.inv.lam j i l[j] x hy hx q ⟨v, hvj, hvi⟩).less hN.inv
        rw [hx] at a2
        rw [hy] at a1
        cases a1
        cases a2
        omega
end Go.Proofs.Ytikgdhmnnnicmaa
