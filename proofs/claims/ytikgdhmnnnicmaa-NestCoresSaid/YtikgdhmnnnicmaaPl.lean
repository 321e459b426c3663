/- The plain law of graph.Parts. No condition. -/
import Derived.Test.YtikgdhmnnnicmaaSh
namespace Go.Proofs.Ytikgdhmnnnicmaa
open Go.RowKit Go.IntWalk
/-! ### graph.Parts -/
def keepF (cs : List Int) (k : Int) : List Bool := cs.map fun c => decide (k ≤ c)
def visitP (kp : List Bool) (v : Nat) (a : List Int × List Int) (w : Int) : Option (List Int × List Int) :=
  if a.1.getD w.toNat 0 < 0 ∧ kp.getD w.toNat false = true then (if a.2.length < 16777216 then some (a.1.set w.toNat (v : Int), a.2 ++ [w]) else none) else some a
def dfsP (adj : List (List Int)) (kp : List Bool) (v : Nat) : Nat → List Int × List Int → Option (List Int)
  | 0, _ => none
  | f + 1, a => if a.2.length = 0 then some a.1 else ((adj.getD (a.2.getD (a.2.length - 1) 0).toNat []).foldlM (visitP kp v) (a.1, a.2.take (a.2.length - 1))).bind (dfsP adj kp v f)
def stepP (n : Nat) (adj : List (List Int)) (kp : List Bool) (out : List Int) (v : Nat) : Option (List Int) :=
  if 0 ≤ out.getD v 0 ∨ kp.getD v false = false then some out else dfsP adj kp v (n + 1) (out.set v (v : Int), [(v : Int)])
def partsP (n : Nat) (adj : List (List Int)) (kp : List Bool) : Option (List Int) := (List.range n).foldlM (stepP n adj kp) (List.replicate n (-1))
theorem keepF_get {n : Nat} {cs : List Int} {k : Int} (hcs : cs.length = n) {u : Nat} : (keepF cs k).getD u false = true ↔ lv n cs k u := by
  unfold keepF lv
  rw [List.getD_eq_getElem?_getD, List.getElem?_map]
  rcases Nat.lt_or_ge u cs.length with h | h
  · rw [List.getElem?_eq_getElem h, List.getD_eq_getElem?_getD, List.getElem?_eq_getElem h]
    simp only [Option.map_some, Option.getD_some, decide_eq_true_eq]
    exact ⟨fun q => ⟨by omega, q⟩, fun q => q.2⟩
  · rw [List.getElem?_eq_none h]
    simp only [Option.map_none, Option.getD_none]
    exact ⟨fun q => (by cases q), fun q => by omega⟩
/-- In the search from v on: L is what it has found, the list todo of it is still to be looked at; x's neighbours are looked at in part. -/
structure DI (n : Nat) (adj : List (List Int)) (cs : List Int) (k : Int) (out0 : List Int) (v : Nat) (x : Option Nat) (L : List Nat) (a : List Int × List Int) : Prop where
  len : a.1.length = n
  nd : L.Nodup
  el : ∀ u ∈ L, Joined (within adj (lv n cs k)) v u ∧ lv n cs k u ∧ out0.getD u 0 < 0 ∧ a.1.getD u 0 = (v : Int)
  no : ∀ u, u < n → u ∉ L → a.1.getD u 0 = out0.getD u 0
  vin : v ∈ L
  td : a.2.Nodup ∧ ∀ y ∈ a.2, ∃ u : Nat, y = (u : Int) ∧ u ∈ L
  cl : ∀ u ∈ L, (u : Int) ∉ a.2 → some u ≠ x → ∀ w : Nat, (w : Int) ∈ adj.getD u [] → lv n cs k w → w ∈ L ∨ 0 ≤ out0.getD w 0
section
variable {n : Nat} {adj : List (List Int)} {cs : List Int} {k : Int} {out0 : List Int} {v : Nat}
theorem DI.lenL {x : Option Nat} {L : List Nat} {a : List Int × List Int} (h : DI n adj cs k out0 v x L a) : L.length ≤ n := nodup_le n h.nd fun u hu => (h.el u hu).2.1.1
theorem DI.lenT {x : Option Nat} {L : List Nat} {a : List Int × List Int} (h : DI n adj cs k out0 v x L a) : a.2.length ≤ L.length := by
  have := sub_length (T := L.map fun u : Nat => (u : Int)) h.td.1 fun y hy => by
    obtain ⟨u, rfl, hu⟩ := h.td.2 y hy
    exact List.mem_map.2 ⟨u, hu, rfl⟩
  rwa [List.length_map] at this
theorem DI.visits (hcs : cs.length = n) (hn : n ≤ 16777216) {x : Nat} : ∀ (us : List Int) {L : List Nat} {a : List Int × List Int} (_ : DI n adj cs k out0 v (some x) L a) (_ : x ∈ L) (_ : ∀ u ∈ us, 0 ≤ u ∧ u < n ∧ u ∈ adj.getD x []),
    ∃ L' a', us.foldlM (visitP (keepF cs k) v) a = some a' ∧ DI n adj cs k out0 v (some x) L' a' ∧ x ∈ L' ∧ (∀ w, w ∈ L → w ∈ L') ∧ (∀ w : Nat, (w : Int) ∈ us → lv n cs k w → w ∈ L' ∨ 0 ≤ out0.getD w 0) ∧ L'.length + a.2.length = L.length + a'.2.length ∧ (∀ y, y ∈ a.2 → y ∈ a'.2) ∧ ((x : Int) ∉ a.2 → (x : Int) ∉ a'.2)
  | [], L, a, h, hx, _ => ⟨L, a, rfl, h, hx, fun _ q => q, fun w q => absurd q (by simp), rfl, fun _ q => q, fun q => q⟩
  | u :: us, L, a, h, hx, hus => by
    obtain ⟨hu0, hu1, hu2⟩ := hus u (by simp)
    obtain ⟨u, rfl⟩ := Int.eq_ofNat_of_zero_le hu0
    have hun : u < n := by omega
    rw [List.foldlM_cons]
    by_cases hc : a.1.getD u 0 < 0 ∧ (keepF cs k).getD u false = true
    · have hlu : lv n cs k u := (keepF_get hcs).1 hc.2
      have huL : u ∉ L := fun q => by
        have := (h.el u q).2.2.2
        omega
      obtain ⟨hj, hlx, _⟩ := h.el x hx
      have ho := h.no u hun huL
      have hlen := h.len
      have hg : ∀ w, (a.1.set u (v : Int)).getD w 0 = if w = u then (v : Int) else a.1.getD w 0 := fun w => by
        by_cases e : w = u
        · subst e; rw [getD_set_eq (by omega), if_pos rfl]
        · rw [getD_set_ne (Ne.symm e), if_neg e]
      have hut : (u : Int) ∉ a.2 := fun q => by
        obtain ⟨b, e, hb⟩ := h.td.2 _ q
        have : b = u := by omega
        exact huL (this ▸ hb)
      have hux : u ≠ x := fun e => huL (e ▸ hx)
      have H : DI n adj cs k out0 v (some x) (u :: L) (a.1.set u (v : Int), a.2 ++ [(u : Int)]) := by
        refine ⟨by simpa using hlen, List.nodup_cons.2 ⟨huL, h.nd⟩, fun w hw => ?_, fun w hw hwL => ?_, List.mem_cons_of_mem _ h.vin, ⟨List.nodup_append.2 ⟨h.td.1, by simp, fun p hp q hq e => hut (by rw [List.mem_singleton] at hq; rw [← hq, ← e]; exact hp)⟩, fun y hy => ?_⟩, fun w hw hwt hwx b hb hlb => ?_⟩
        · show _ ∧ _ ∧ _ ∧ (a.1.set u (v : Int)).getD w 0 = v
          rw [hg]
          rcases List.mem_cons.1 hw with rfl | hw
          · exact ⟨hj.step (.inr ⟨hlu, hlx, hu2⟩), hlu, by omega, if_pos rfl⟩
          · have := h.el w hw
            exact ⟨this.1, this.2.1, this.2.2.1, by rw [if_neg (fun e : w = u => huL (e ▸ hw))]; exact this.2.2.2⟩
        · show (a.1.set u (v : Int)).getD w 0 = _
          rw [hg, if_neg (fun e => hwL (by rw [e]; simp))]
          exact h.no w hw fun q => hwL (List.mem_cons_of_mem _ q)
        · rcases List.mem_append.1 hy with hy | hy
          · obtain ⟨b, e, hb⟩ := h.td.2 y hy
            exact ⟨b, e, List.mem_cons_of_mem _ hb⟩
          · rw [List.mem_singleton] at hy
            exact ⟨u, hy, by simp⟩
        · have hwt : (w : Int) ∉ a.2 ++ [(u : Int)] := hwt
          rw [List.mem_append, List.mem_singleton] at hwt
          rcases List.mem_cons.1 hw with rfl | hw
          · exact absurd (.inr rfl) hwt
          · rcases h.cl w hw (fun q => hwt (.inl q)) hwx b hb hlb with q | q
            · exact .inl (List.mem_cons_of_mem _ q)
            · exact .inr q
      have hlt : a.2.length < 16777216 := by
        have h1 := h.lenT
        have h2 := H.lenL
        rw [List.length_cons] at h2
        omega
      obtain ⟨L', a', h1, h2, h3, h4, h5, h6, h7, h8⟩ := DI.visits hcs hn us H (List.mem_cons_of_mem _ hx) fun y hy => hus y (by simp [hy])
      refine ⟨L', a', ?_, h2, h3, fun w q => h4 w (List.mem_cons_of_mem _ q), fun w hw hlw => ?_, ?_, fun y hy => h7 y (List.mem_append_left _ hy), fun q => h8 fun p => ?_⟩
      · have : visitP (keepF cs k) v a (u : Int) = some (a.1.set u (v : Int), a.2 ++ [(u : Int)]) := by
          unfold visitP
          rw [Int.toNat_natCast, if_pos hc, if_pos hlt]
        rw [this]
        exact h1
      · rcases List.mem_cons.1 hw with e | hw
        · have e : w = u := by omega
          exact .inl (h4 w (by rw [e]; simp))
        · exact h5 w hw hlw
      · simp only [List.length_append, List.length_cons, List.length_nil] at h6
        omega
      · have p : (x : Int) ∈ a.2 ++ [(u : Int)] := p
        rcases List.mem_append.1 p with p | p
        · exact q p
        · rw [List.mem_singleton] at p
          exact hux (by omega)
    · obtain ⟨L', a', h1, h2, h3, h4, h5, h6, h7, h8⟩ := DI.visits hcs hn us h hx fun y hy => hus y (by simp [hy])
      refine ⟨L', a', ?_, h2, h3, h4, fun w hw hlw => ?_, h6, h7, h8⟩
      · have : visitP (keepF cs k) v a (u : Int) = some a := by
          unfold visitP
          rw [Int.toNat_natCast, if_neg hc]
        rw [this]
        exact h1
      · rcases List.mem_cons.1 hw with e | hw
        · have e : w = u := by omega
          subst e
          by_cases hwL : w ∈ L
          · exact .inl (h4 w hwL)
          · have h9 := h.no w hun hwL
            have : ¬ a.1.getD w 0 < 0 := fun q => hc ⟨q, (keepF_get hcs).2 hlw⟩
            exact .inr (by omega)
        · exact h5 w hw hlw
theorem DI.dfs (hadj : Adj n adj) (hcs : cs.length = n) (hn : n ≤ 16777216) : ∀ (f : Nat) {L : List Nat} {a : List Int × List Int} (_ : DI n adj cs k out0 v none L a) (_ : n + 1 + a.2.length ≤ f + L.length),
    ∃ L' out', dfsP adj (keepF cs k) v f a = some out' ∧ DI n adj cs k out0 v none L' (out', [])
  | 0, L, a, h, hf => by have := h.lenL; have := h.lenT; omega
  | f + 1, L, a, h, hf => by
    by_cases hz : a.2.length = 0
    · refine ⟨L, a.1, by simp only [dfsP, if_pos hz], ?_⟩
      have e : a = (a.1, []) := by rw [← List.eq_nil_of_length_eq_zero hz]
      rw [e] at h
      exact h
    · have hlt : a.2.length - 1 < a.2.length := by omega
      have hgd : a.2.getD (a.2.length - 1) 0 = a.2[a.2.length - 1] := by rw [List.getD_eq_getElem?_getD, List.getElem?_eq_getElem hlt]; rfl
      have hsplit : a.2 = a.2.take (a.2.length - 1) ++ [a.2[a.2.length - 1]] := by
        conv => lhs; rw [← List.take_append_drop (a.2.length - 1) a.2]
        rw [List.drop_eq_getElem_cons hlt, List.drop_of_length_le (by omega)]
      obtain ⟨x, hx, hxL⟩ := h.td.2 a.2[a.2.length - 1] (List.getElem_mem hlt)
      have hnd := h.td.1
      rw [hsplit, hx] at hnd
      have hxn : (x : Int) ∉ a.2.take (a.2.length - 1) := fun q => (List.nodup_append.1 hnd).2.2 _ q _ (by simp) rfl
      have h0 : DI n adj cs k out0 v (some x) L (a.1, a.2.take (a.2.length - 1)) :=
        { len := h.len, nd := h.nd, el := h.el, no := h.no, vin := h.vin
          td := ⟨(List.nodup_append.1 hnd).1, fun y hy => h.td.2 y (List.mem_of_mem_take hy)⟩
          cl := fun u hu hut hux w hw hlw => h.cl u hu (fun q => by
            rw [hsplit, hx] at q
            rcases List.mem_append.1 q with q | q
            · exact hut q
            · rw [List.mem_singleton] at q
              exact hux (by congr 1; omega)) (by simp) w hw hlw }
      obtain ⟨L', a', h1, h2, h3, h4, h5, h6, h7, h8⟩ := DI.visits hcs hn (adj.getD x []) h0 hxL fun u hu => ⟨(hadj.row x u hu).1, (hadj.row x u hu).2, hu⟩
      have h9 : DI n adj cs k out0 v none L' a' :=
        { h2 with
          cl := fun u hu hut _ w hw hlw => by
            by_cases e : u = x
            · subst e
              exact h5 w hw hlw
            · exact h2.cl u hu hut (fun q => e (by simpa using q)) w hw hlw }
      have hL : L'.length + (a.2.length - 1) = L.length + a'.2.length := by
        simp only [List.length_take] at h6
        omega
      obtain ⟨L2, out2, h10, h11⟩ := DI.dfs hadj hcs hn f h9 (by omega)
      refine ⟨L2, out2, ?_, h11⟩
      simp only [dfsP, if_neg hz]
      rw [hgd, hx, Int.toNat_natCast, h1]
      exact h10
/-- What Parts has written when the vertices ahead of v are looked at. -/
def PO (n : Nat) (adj : List (List Int)) (cs : List Int) (k : Int) (v : Nat) (out : List Int) : Prop :=
  out.length = n ∧ ∀ u, u < n → (out.getD u 0 = -1 ∧ ∀ w, w < v → lv n cs k w → ¬ Joined (within adj (lv n cs k)) w u) ∨
    ∃ p : Nat, p < v ∧ out.getD u 0 = (p : Int) ∧ lv n cs k p ∧ Joined (within adj (lv n cs k)) p u ∧ ∀ b, Joined (within adj (lv n cs k)) p b → p ≤ b
theorem PO.step (hadj : Adj n adj) (hcs : cs.length = n) (hn : n ≤ 16777216) {out : List Int} (h : PO n adj cs k v out) (hv : v < n) : ∃ out', stepP n adj (keepF cs k) out v = some out' ∧ PO n adj cs k (v + 1) out' := by
  have hRM : ∀ a b, within adj (lv n cs k) a b → lv n cs k a ∧ lv n cs k b := fun a b q => ⟨q.1, q.2.1⟩
  obtain ⟨hlen, hall⟩ := h
  unfold stepP
  by_cases hc : 0 ≤ out.getD v 0 ∨ (keepF cs k).getD v false = false
  · rw [if_pos hc]
    refine ⟨out, rfl, hlen, fun u hu => ?_⟩
    rcases hall u hu with ⟨h1, h2⟩ | ⟨p, h1, h2, h3, h4, h5⟩
    · left
      refine ⟨h1, fun w hw hlw hj => ?_⟩
      rcases Nat.lt_or_ge w v with q | q
      · exact h2 w q hlw hj
      · obtain rfl : w = v := by omega
        rcases hc with hc | hc
        · rcases hall w hv with ⟨g1, _⟩ | ⟨p, g1, g2, g3, g4, g5⟩
          · omega
          · exact h2 p g1 g3 (g4.trans hj)
        · rw [(keepF_get hcs).2 hlw] at hc
          cases hc
    · exact .inr ⟨p, by omega, h2, h3, h4, h5⟩
  · rw [if_neg hc]
    have hlv : lv n cs k v := (keepF_get hcs).1 (by
      cases q : (keepF cs k).getD v false with
      | true => rfl
      | false => exact absurd (.inr q) hc)
    have hneg : out.getD v 0 < 0 := by
      have : ¬ 0 ≤ out.getD v 0 := fun q => hc (.inl q)
      omega
    have hg : ∀ w, (out.set v (v : Int)).getD w 0 = if w = v then (v : Int) else out.getD w 0 := fun w => by
      by_cases e : w = v
      · subst e; rw [getD_set_eq (by omega), if_pos rfl]
      · rw [getD_set_ne (Ne.symm e), if_neg e]
    have h0 : DI n adj cs k out v none [v] (out.set v (v : Int), [(v : Int)]) := by
      refine ⟨by simpa using hlen, by simp, fun u hu => ?_, fun u hu hul => ?_, by simp, ⟨by simp, fun y hy => ⟨v, by simpa using hy, by simp⟩⟩, fun u hu hut => ?_⟩
      · rw [List.mem_singleton] at hu
        subst hu
        exact ⟨.refl, hlv, hneg, by show (out.set u (u : Int)).getD u 0 = _; rw [hg, if_pos rfl]⟩
      · show (out.set v (v : Int)).getD u 0 = _
        rw [hg, if_neg (fun e => hul (by simp [e]))]
      · rw [List.mem_singleton] at hu
        subst hu
        exact absurd (by simp) hut
    obtain ⟨L, out', h1, h2⟩ := DI.dfs hadj hcs hn (n + 1) h0 (by simp)
    -- what was told before is closed
    have hold : ∀ a b, within adj (lv n cs k) a b → (0 ≤ out.getD a 0 ↔ 0 ≤ out.getD b 0) := by
      have one : ∀ a b, lv n cs k a → lv n cs k b → Joined (within adj (lv n cs k)) a b → 0 ≤ out.getD a 0 → 0 ≤ out.getD b 0 := fun a b ha hb hj h0 => by
        rcases hall a ha.1 with ⟨g1, _⟩ | ⟨p, g1, g2, g3, g4, g5⟩
        · omega
        · rcases hall b hb.1 with ⟨k1, k2⟩ | ⟨q, k1, k2, _⟩
          · exact absurd (g4.trans hj) (k2 p g1 g3)
          · omega
      intro a b hab
      exact ⟨one a b hab.1 hab.2.1 (.one hab), one b a hab.2.1 hab.1 (Joined.one hab).symm⟩
    have hcomp : ∀ u, Joined (within adj (lv n cs k)) v u → u ∈ L := fun u hu => by
      induction hu with
      | refl => exact h2.vin
      | @step a b hj hr ih =>
        obtain ⟨_, hla, hna, _⟩ := h2.el a ih
        have hab : (b : Int) ∈ adj.getD a [] ∧ lv n cs k b := by
          rcases hr with hr | hr
          · exact ⟨hadj.sym _ _ hr.2.2, hr.2.1⟩
          · exact ⟨hr.2.2, hr.1⟩
        rcases h2.cl a ih (by simp) (by simp) b hab.1 hab.2 with q | q
        · exact q
        · exfalso
          have : 0 ≤ out.getD a 0 := by
            rcases hr with hr | hr
            · exact (hold a b hr).2 q
            · exact (hold b a hr).1 q
          omega
    have hmin : ∀ b, Joined (within adj (lv n cs k)) v b → v ≤ b := fun b hb => by
      rcases Nat.lt_or_ge b v with q | q
      · exfalso
        have hlb := hb.mem hRM hlv
        rcases hall v hv with ⟨_, g2⟩ | ⟨p, _, g2, _⟩
        · exact g2 b q hlb hb.symm
        · omega
      · exact q
    refine ⟨out', h1, h2.len, fun u hu => ?_⟩
    by_cases huL : u ∈ L
    · obtain ⟨g1, g2, g3, g4⟩ := h2.el u huL
      exact .inr ⟨v, by omega, g4, hlv, g1, hmin⟩
    · have g1 := h2.no u hu huL
      have g1 : out'.getD u 0 = out.getD u 0 := g1
      rw [g1]
      rcases hall u hu with ⟨k1, k2⟩ | ⟨p, k1, k2, k3, k4, k5⟩
      · left
        refine ⟨k1, fun w hw hlw hj => ?_⟩
        rcases Nat.lt_or_ge w v with q | q
        · exact k2 w q hlw hj
        · obtain rfl : w = v := by omega
          exact huL (hcomp u hj)
      · exact .inr ⟨p, by omega, k2, k3, k4, k5⟩
theorem parts_ok (hadj : Adj n adj) (hcs : cs.length = n) (hn : n ≤ 16777216) : ∃ parts, partsP n adj (keepF cs k) = some parts ∧ PO n adj cs k n parts := by
  have h0 : PO n adj cs k 0 (List.replicate n (-1)) := ⟨by simp, fun u hu => .inl ⟨by rw [List.getD_eq_getElem?_getD, List.getElem?_replicate, if_pos hu]; rfl, fun w hw => absurd hw (Nat.not_lt_zero _)⟩⟩
  have hall : ∀ v, v ≤ n → ∃ out, (List.range v).foldlM (stepP n adj (keepF cs k)) (List.replicate n (-1)) = some out ∧ PO n adj cs k v out := by
    intro v
    induction v with
    | zero => intro _; exact ⟨_, rfl, h0⟩
    | succ v ih =>
      intro hv
      obtain ⟨out, h1, h2⟩ := ih (by omega)
      obtain ⟨out', h3, h4⟩ := h2.step hadj hcs hn (by omega)
      refine ⟨out', ?_, h4⟩
      rw [List.range_succ, List.foldlM_append, h1]
      simp only [List.foldlM_cons, List.foldlM_nil, Option.bind_eq_bind, Option.bind_some, h3]
      rfl
  exact hall n (Nat.le_refl _)
end
end Go.Proofs.Ytikgdhmnnnicmaa
