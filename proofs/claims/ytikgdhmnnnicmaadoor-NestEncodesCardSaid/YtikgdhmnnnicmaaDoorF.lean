/- nest.Forest: the lists of each number's vertices, the four lists, and the mirror of the whole. No condition. -/
import Derived.Test.YtikgdhmnnnicmaaDoorL
import Derived.Test.YtikgdhmnnnicmaaDoorI
namespace Go.Proofs.YtikgdhmnnnicmaaDoor
open Go.RowKit
/-- The places of a number in a list. -/
def grp (cs : List Int) (x : Int) : List Int := (cs.zipIdx.filter fun p => decide (p.1 = x)).map fun p => (p.2 : Int)
theorem grp_snoc (cs : List Int) (k x : Int) : grp (cs ++ [k]) x = if k = x then grp cs x ++ [(cs.length : Int)] else grp cs x := by
  unfold grp
  rw [List.zipIdx_append, List.filter_append, List.map_append]
  by_cases h : k = x <;> simp [h]
theorem grp_length (cs : List Int) (x : Int) : (grp cs x).length ≤ cs.length := by
  unfold grp
  rw [List.length_map]
  exact Nat.le_trans (List.length_filter_le _ _) (by simp)
theorem grp_mem {cs : List Int} {x v : Int} (h : v ∈ grp cs x) : 0 ≤ v ∧ v < cs.length := by
  unfold grp at h
  obtain ⟨p, hp, rfl⟩ := List.mem_map.1 h
  have h1 := (List.mem_filter.1 hp).1
  have h2 := List.snd_lt_of_mem_zipIdx h1
  omega
theorem mget_mput {m : List (Int × Value)} (x : Int) (v : Value) (y : Int) : mget (mput m x v) y = if y = x then some v else mget m y := by
  unfold mput
  split
  · rename_i hx
    unfold mget
    rw [List.find?_map]
    by_cases hy : y = x
    · subst hy
      rw [if_pos rfl]
      obtain ⟨p, hp, e⟩ := List.mem_map.1 hx
      have hf : (m.find? ((fun p : Int × Value => decide (p.1 = y)) ∘ fun p => if p.1 = y then (y, v) else p)).isSome := by
        rw [List.find?_isSome]
        exact ⟨p, hp, by simp [e]⟩
      cases h2 : m.find? ((fun p : Int × Value => decide (p.1 = y)) ∘ fun p => if p.1 = y then (y, v) else p) with
      | none => rw [h2] at hf; cases hf
      | some q =>
        have h3 := List.find?_some h2
        by_cases hq : q.1 = y
        · simp [hq]
        · simp [hq] at h3
    · rw [if_neg hy]
      have h1 : ((fun p : Int × Value => decide (p.1 = y)) ∘ fun p => if p.1 = x then (x, v) else p) = fun p => decide (p.1 = y) := by
        funext p
        by_cases hp : p.1 = x
        · simp [hp, Ne.symm hy]
        · simp [hp]
      rw [h1, Option.map_map]
      cases h2 : m.find? fun p => decide (p.1 = y) with
      | none => rfl
      | some q =>
        have h3 := List.find?_some h2
        simp only [decide_eq_true_eq] at h3
        simp [h3, hy]
  · rename_i hx
    unfold mget
    rw [List.find?_append]
    by_cases hy : y = x
    · subst hy
      have : m.find? (fun p => decide (p.1 = y)) = none := List.find?_eq_none.2 fun p hp => by
        simp only [decide_eq_true_eq]
        rintro e
        exact hx (e ▸ List.mem_map_of_mem hp)
      simp [this]
    · simp [hy, Ne.symm hy]
/-- The map of the places: each number's list is a row of the call's own. -/
structure OfIs (w : World) (B pb : Nat) (m : List (Int × Value)) (cs : List Int) : Prop where
  is : MapIs (Value.int .i64) w pb m
  lt : pb < B
  own : ∀ x, w.ownsRow B 3 1 ((mget m x).getD (.slice none 0 0)) (grp cs x).length (ints (grp cs x))
  apart : ∀ x y q, ((mget m x).getD (.slice none 0 0)).ownBlock = some q → ((mget m y).getD (.slice none 0 0)).ownBlock = some q → x = y
  keys : m.map (·.1) = cs.foldl addKey []
theorem OfIs.made {w : World} {B pb : Nat} (h : MapIs (Value.int .i64) w pb []) (hlt : pb < B) : OfIs w B pb [] [] :=
  ⟨h, hlt, fun x => World.ownsRow_nil _ _ _ _, fun x y q h => by simp [mget, Value.ownBlock] at h, rfl⟩
theorem OfIs.kept {w w' : World} {B pb : Nat} {m : List (Int × Value)} {cs : List Int} (h : OfIs w B pb m cs) (hb : w'.heap[pb]? = w.heap[pb]?) (hr : ∀ x q, ((mget m x).getD (.slice none 0 0)).ownBlock = some q → w'.heap[q]? = w.heap[q]?) : OfIs w' B pb m cs :=
  ⟨h.is.kept hb, h.lt, fun x => ownsRow_move (h.own x) fun q e => hr x q e, h.apart, h.keys⟩
theorem OfIs.below {w w' : World} {B pb : Nat} {m : List (Int × Value)} {cs : List Int} (h : OfIs w B pb m cs) (hb : Below w.heap.size w w') : OfIs w' B pb m cs :=
  h.kept (hb.block _ h.is.lt) fun x q e => hb.block _ ((h.own x).lt q e).2
/-- One place more. -/
theorem OfIs.add {w : World} {B pb : Nat} {m : List (Int × Value)} {cs : List Int} (h : OfIs w B pb m cs) (hB : B ≤ w.heap.size) (hl : cs.length ≤ 16777216) (k : Int) :
    ∃ v0 v1 w1 w2, (∀ W : World, W.heap[pb]? = w.heap[pb]? → (Instr.lookup 65 (.map (some pb)) (.int .i64 k) false).run Tryd.prog W = .ok v0 W) ∧ (∃ A n c, v0 = .slice A n c) ∧
      (appSem #[48, 48] 48 #[v0, .slice (some ⟨w.heap.size, 0, none⟩) 1 1]).run Tryd.prog ((w.alloc (.cells #[.int .i64 (cs.length : Int)] 3)).drew) = .ok v1 w1 ∧ (∃ A n c, v1 = .slice A n c) ∧
      (∀ q, q < B → w1.heap[q]? = w.heap[q]?) ∧ (Instr.mapUpdate 65 (.map (some pb)) (.int .i64 k) v1).run Tryd.prog w1 = .ok () w2 ∧
      OfIs w2 B pb (mput m k v1) (cs ++ [k]) ∧ (∀ q, q < B → q ≠ pb → w2.heap[q]? = w.heap[q]?) ∧ Below pb w w2 := by
  obtain ⟨i0, hi0, hz0, hz1, hz2⟩ := info_parts Tryd.info3
  have hpb := h.lt
  generalize hv : (mget m k).getD (.slice none 0 0) = v0
  have ho := h.own k
  rw [hv] at ho
  have hgl := grp_length cs k
  obtain ⟨v1, w1, hr, h2, h3, h4, h5⟩ := run_append_own_at (P := Tryd.prog) (w.alloc (.cells #[.int .i64 (cs.length : Int)] 3)).drew B 48 48 3 i0 (.int .i64 0) 1 8 Tryd.underlying48 hi0 hz0 hz1 hz2 rfl (by decide) v0 (grp cs k).length _ (ho.alloc _) ⟨w.heap.size, 0, none⟩ 1 1 [.int .i64 (cs.length : Int)] rfl
    (World.news_of_block (cs := #[.int .i64 (cs.length : Int)]) (t := 3) (fr := (0, 0)) (heap_alloc_new w _)) (by simp [Value.oneCell']) (by simp only [maxLen]; omega) (by omega) (by simp; omega)
  have hkb : ∀ q, q < w.heap.size → some q ≠ v0.ownBlock → w1.heap[q]? = w.heap[q]? := fun q hq hne => (h3.block q (by simp; omega) hne).trans (Below.heap_alloc w _ q hq)
  have hlow : ∀ q, q < B → w1.heap[q]? = w.heap[q]? := fun q hq => hkb q (by omega) fun e => by have := (ho.lt q e.symm).1; omega
  obtain ⟨w2, hput, hm2, hg2, hs2⟩ := map_put (P := Tryd.prog) (key_int Tryd.underlying3) (h.is.kept (hlow pb hpb)) (t := 65) Tryd.underlying65 k v1
  have hsz : w.heap.size + 1 ≤ w1.heap.size := by have := h3.size; simpa using this
  have hat : ∀ q, v1.ownBlock = some q → v0.ownBlock = some q ∨ q = w.heap.size + 1 := fun q hq => by
    rcases h5 with h5 | h5
    · exact .inl (h5 ▸ hq)
    · rw [h5] at hq
      have : w.heap.size + 1 = q := by simpa using hq
      exact .inr this.symm
  have h2' : w1.ownsRow B 3 1 v1 (grp (cs ++ [k]) k).length (ints (grp (cs ++ [k]) k)) := by rw [grp_snoc, if_pos rfl]; simpa [ints] using h2
  have hk2 : ∀ q, q < w1.heap.size → q ≠ pb → w2.heap[q]? = w1.heap[q]? := fun q hq hne => hg2.block q hq fun e => hne (by simpa using e)
  have hget : ∀ x, (mget (mput m k v1) x).getD (.slice none 0 0) = if x = k then v1 else (mget m x).getD (.slice none 0 0) := fun x => by rw [mget_mput]; split <;> rfl
  refine ⟨v0, v1, w1, w2, fun W hW => ?_, ?_, hr, ?_, hlow, hput, ⟨hm2, hpb, fun x => ?_, fun x y q hx hy => ?_, ?_⟩, fun q hq hne => (hk2 q (by omega) hne).trans (hlow q hq), ?_⟩
  · have := map_look (P := Tryd.prog) (key_int Tryd.underlying3) (h.is.kept hW) (t := 65) Tryd.underlying65 (z := .slice none 0 0) (fun w => by kernel_rfl) k false
    rw [hv] at this
    simpa using this
  · rcases ho.2 with ⟨rfl, _⟩ | ⟨g, cap, cur, rfl, _⟩
    · exact ⟨_, _, _, rfl⟩
    · exact ⟨_, _, _, rfl⟩
  · rcases h2.2 with ⟨rfl, _⟩ | ⟨g, cap, cur, rfl, _⟩
    · exact ⟨_, _, _, rfl⟩
    · exact ⟨_, _, _, rfl⟩
  · rw [hget]
    by_cases hx : x = k
    · rw [if_pos hx, hx]
      exact ownsRow_move h2' fun q e => hk2 q (h2'.lt q e).2 (by have := (h2'.lt q e).1; omega)
    · rw [if_neg hx, grp_snoc, if_neg (Ne.symm hx)]
      refine ownsRow_move (h.own x) fun q e => ?_
      have hq := (h.own x).lt q e
      exact (hk2 q (by omega) (by omega)).trans (hkb q hq.2 fun e2 => hx (h.apart x k q e (by rw [hv]; exact e2.symm)))
  · rw [hget] at hx hy
    by_cases hxk : x = k
    · by_cases hyk : y = k
      · rw [hxk, hyk]
      · rw [if_pos hxk] at hx
        rw [if_neg hyk] at hy
        have hq := (h.own y).lt q hy
        rcases hat q hx with h6 | h6
        · exact hxk.trans (h.apart k y q (by rw [hv]; exact h6) hy)
        · omega
    · rw [if_neg hxk] at hx
      by_cases hyk : y = k
      · rw [if_pos hyk] at hy
        have hq := (h.own x).lt q hx
        rcases hat q hy with h6 | h6
        · exact (h.apart x k q hx (by rw [hv]; exact h6)).trans hyk.symm
        · omega
      · rw [if_neg hyk] at hy
        exact h.apart x y q hx hy
  · rw [mput_keys, h.keys, List.foldl_append]
    rfl
  · have hb1 : Below pb w w1 := ⟨h3.os, h3.tape, h3.output, by omega, fun q hq => hlow q (by omega)⟩
    exact hb1.grown hg2 (by have := h.is.lt; omega) (fun q e => by cases e; exact Nat.le_refl _)
def lvOk (ks least : List Int) : Prop := (∀ r ∈ ks, 0 ≤ least.getD r.toNat 0 ∧ least.getD r.toNat 0 ≤ 16777216) ∧ ∀ a ∈ ks, ∀ b ∈ ks, least.getD a.toNat 0 = least.getD b.toNat 0 → a = b
instance (ks least : List Int) : Decidable (lvOk ks least) := by unfold lvOk; exact inferInstance
/-- One level. -/
def levelF (K : Nat) (adj : List (List Int)) (cs : List Int) (a : UF × List Node) (k : Int) : Option (UF × List Node) :=
  (takeF K adj a.1 (grp cs k)).bind fun S1 => (partsF K ([], S1) (grp cs k)).bind fun q =>
    if lvOk q.1 q.2.least then (rootsF k q.2.least q.2.size (a.2, q.2.tops) (sortBy q.2.least q.1)).map fun r => ({ q.2 with tops := r.2 }, r.1) else none
def levelsOf (cs : List Int) : List Int := sorted (cs.foldl addKey [])
def startF (n : Nat) : UF := ⟨List.replicate n (-1), List.replicate n 0, List.replicate n 0, List.replicate n []⟩
def levelsF (K : Nat) (adj : List (List Int)) (cs : List Int) (a : UF × List Node) (ls : List Int) : Option (UF × List Node) := ls.foldlM (levelF K adj cs) a
/-- The whole of nest.Forest, as the text goes. -/
def forestF (K : Nat) (adj : List (List Int)) (cs : List Int) : Option (List Node) := (levelsF K adj cs (startF cs.length, []) (levelsOf cs).reverse).map (·.2)
theorem addKey_mem {ks : List Int} {k x : Int} : x ∈ addKey ks k ↔ x ∈ ks ∨ x = k := by
  unfold addKey
  split
  · rename_i h
    constructor
    · exact .inl
    · rintro (h1 | rfl)
      · exact h1
      · exact h
  · simp
theorem keys_mem {cs : List Int} : ∀ {ks : List Int} {x : Int}, x ∈ cs.foldl addKey ks ↔ x ∈ ks ∨ x ∈ cs := by
  induction cs with
  | nil => simp
  | cons k cs ih =>
    intro ks x
    rw [List.foldl_cons, ih, addKey_mem, List.mem_cons, or_assoc]
theorem keys_length {cs : List Int} : ∀ {ks : List Int}, (cs.foldl addKey ks).length ≤ ks.length + cs.length := by
  induction cs with
  | nil => simp
  | cons k cs ih =>
    intro ks
    rw [List.foldl_cons]
    refine Nat.le_trans ih ?_
    have : (addKey ks k).length ≤ ks.length + 1 := by unfold addKey; split <;> simp
    simp
    omega
theorem back_vals (zs : List Int) : (back zs zs.length).map (·.2) = zs.reverse := by
  refine List.ext_getElem (by simp [back]) fun i h1 h2 => ?_
  have hi : i < zs.length := by simpa [back] using h1
  have h3 : zs.length - 1 - i < zs.length := by omega
  simp [back, h3]
end Go.Proofs.YtikgdhmnnnicmaaDoor
