/- The reference's Encode of a manifest: what stands between two steps, its two variables in registers. No condition. -/
import Derived.Test.YtgbladpoglhleaaGreatDoorEi
namespace Go.Proofs.YtgbladpoglhleaaGreatDoor
open Go.RowKit
def kS (C i : Nat) : Nat := if i < C then i / 50 else (C + 49) / 50
def rowsS (m : Man) (i : Nat) : List (List UInt8) := (List.range (kS m.Shards.length i)).map (rowS m)
def curS (m : Man) (i : Nat) : List UInt8 := segS m (50 * kS m.Shards.length i) i
theorem rowsS_zero (m : Man) : rowsS m 0 = [] := by
  unfold rowsS kS
  split
  · rfl
  · rw [show m.Shards.length = 0 by omega]; rfl
theorem curS_zero (m : Man) : curS m 0 = [] := by unfold curS segS; simp
theorem rowsS_end (m : Man) : rowsS m m.Shards.length = dataS m := by
  unfold rowsS kS dataS
  rw [if_neg (by omega)]
theorem curS_end (m : Man) : curS m m.Shards.length = [] := by
  apply List.eq_nil_of_length_eq_zero
  unfold curS kS
  rw [segS_len, if_neg (by omega)]
  omega
theorem curS_len (m : Man) {i : Nat} (hi : i ≤ m.Shards.length) : (curS m i).length ≤ 16 * 50 := by
  unfold curS kS
  rw [segS_len]
  split <;> omega
theorem stepS_flush (m : Man) {i : Nat} (hi : i < m.Shards.length) (hf : i % 50 = 49 ∨ i = m.Shards.length - 1) : rowsS m (i + 1) = rowsS m i ++ [curS m i ++ shRow m i] ∧ curS m (i + 1) = [] := by
  have e1 : kS m.Shards.length i = i / 50 := by unfold kS; rw [if_pos hi]
  have e2 : kS m.Shards.length (i + 1) = i / 50 + 1 := by
    unfold kS
    split <;> omega
  constructor
  · unfold rowsS curS
    rw [e1, e2, List.range_succ, List.map_append]
    simp only [List.map_cons, List.map_nil]
    rw [← segS_step m (by omega)]
    unfold rowS
    rw [show min (50 * (i / 50 + 1)) m.Shards.length = i + 1 by omega]
  · apply List.eq_nil_of_length_eq_zero
    unfold curS
    rw [e2, segS_len]
    omega
theorem stepS_keep (m : Man) {i : Nat} (hi : i < m.Shards.length) (hf : ¬(i % 50 = 49 ∨ i = m.Shards.length - 1)) : rowsS m (i + 1) = rowsS m i ∧ curS m (i + 1) = curS m i ++ shRow m i := by
  have e1 : kS m.Shards.length i = i / 50 := by unfold kS; rw [if_pos hi]
  have e2 : kS m.Shards.length (i + 1) = i / 50 := by
    unfold kS
    split <;> omega
  unfold rowsS curS
  rw [e1, e2]
  exact ⟨rfl, segS_step m (by omega)⟩
def segD (ds : List Int) (a e : Nat) : List UInt8 := rowD ((ds.take e).drop a)
theorem segD_none (ds : List Int) {a e : Nat} (h : e ≤ a) : segD ds a e = [] := by
  unfold segD
  rw [List.drop_eq_nil_of_le (by simp; omega)]; rfl
theorem segD_step (ds : List Int) {a e : Nat} (h : a ≤ e) (he : e < ds.length) : segD ds a (e + 1) = segD ds a e ++ vI ds[e] := by
  unfold segD rowD
  rw [take_snoc he, List.drop_append_of_le_length (by simp; omega), List.flatMap_append]
  simp
def kD (C i : Nat) : Nat := if i < C then i / 200 else (C + 199) / 200
def rowsD (ds : List Int) (i : Nat) : List (List UInt8) := (List.range (kD ds.length i)).map fun k => rowD (chD ds k)
def curD (ds : List Int) (i : Nat) : List UInt8 := segD ds (200 * kD ds.length i) i
theorem rowsD_zero (ds : List Int) : rowsD ds 0 = [] := by
  unfold rowsD kD
  split
  · rfl
  · rw [show ds.length = 0 by omega]; rfl
theorem curD_zero (ds : List Int) : curD ds 0 = [] := segD_none ds (by omega)
theorem rowsD_end (ds : List Int) : rowsD ds ds.length = dataD ds := by
  unfold rowsD kD dataD cnt
  rw [if_neg (by omega)]
theorem chD_seg (ds : List Int) (k : Nat) : rowD (chD ds k) = segD ds (200 * k) (200 * (k + 1)) := by
  unfold segD chD
  rw [List.drop_take]
  rw [show 200 * (k + 1) - 200 * k = 200 by omega]
theorem segD_min (ds : List Int) (a e : Nat) : segD ds a e = segD ds a (min e ds.length) := by
  unfold segD
  rcases Nat.le_total e ds.length with h | h
  · rw [Nat.min_eq_left h]
  · rw [Nat.min_eq_right h, List.take_of_length_le h, List.take_length]
theorem stepD_flush (ds : List Int) {i : Nat} (hi : i < ds.length) (hf : i % 200 = 199 ∨ i = ds.length - 1) : rowsD ds (i + 1) = rowsD ds i ++ [curD ds i ++ vI ds[i]] ∧ curD ds (i + 1) = [] := by
  have e1 : kD ds.length i = i / 200 := by unfold kD; rw [if_pos hi]
  have e2 : kD ds.length (i + 1) = i / 200 + 1 := by
    unfold kD
    split <;> omega
  constructor
  · unfold rowsD curD
    rw [e1, e2, List.range_succ, List.map_append]
    simp only [List.map_cons, List.map_nil]
    rw [← segD_step ds (by omega) hi, chD_seg, segD_min]
    rw [show min (200 * (i / 200 + 1)) ds.length = i + 1 by omega]
  · unfold curD
    rw [e2]
    exact segD_none ds (by omega)
theorem stepD_keep (ds : List Int) {i : Nat} (hi : i < ds.length) (hf : ¬(i % 200 = 199 ∨ i = ds.length - 1)) : rowsD ds (i + 1) = rowsD ds i ∧ curD ds (i + 1) = curD ds i ++ vI ds[i] := by
  have e1 : kD ds.length i = i / 200 := by unfold kD; rw [if_pos hi]
  have e2 : kD ds.length (i + 1) = i / 200 := by
    unfold kD
    split <;> omega
  unfold rowsD curD
  rw [e1, e2]
  exact ⟨rfl, segD_step ds (by omega) hi⟩
/-- data and the row under way, all of them the call's own. -/
structure EQ (lo : Nat) (w0 W : World) (dv : Value) (vs : List Value) (bv : Value) (rows : List (List UInt8)) (cur : List UInt8) : Prop where
  bel : Below lo w0 W
  size : lo ≤ W.heap.size
  bl : BL W lo dv vs rows
  own : W.ownsRow lo 5 1 bv cur.length (u8s cur)
  nd : ∀ q, bv.ownBlock = some q → dv.ownBlock ≠ some q ∧ ∀ (i : Nat) (v : Value), vs[i]? = some v → v.ownBlock ≠ some q
section
variable {lo : Nat} {w0 W w9 : World} {dv bv v1 dv1 : Value} {vs : List Value} {rows : List (List UInt8)} {cur new : List UInt8}
theorem EQ.init (w : World) : EQ w.heap.size w w (.slice none 0 0) [] (.slice none 0 0) [] [] :=
  ⟨Below.refl _ _, Nat.le_refl _, BL.nil _ _, World.ownsRow_nil _ _ _ _, fun q e => by cases e⟩
theorem EQ.grow (h : EQ lo w0 W dv vs bv rows cur) (ho : w9.ownsRow lo 5 1 v1 new.length (u8s new)) (hg : W.grownBy w9 bv.ownBlock) (hm : Moved W bv v1) : EQ lo w0 w9 dv vs v1 rows new := by
  refine ⟨h.bel.grown hg h.size fun q e => (h.own.lt q e).1, Nat.le_trans h.size hg.size, h.bl.grown hg fun q e => h.nd q e, ho, fun q e => ?_⟩
  rcases hm with hm | ⟨k, hm, hk⟩
  · rw [hm] at e; exact h.nd q e
  · rw [hm] at e
    have hqk : k = q := Option.some.inj e
    refine ⟨fun e2 => ?_, fun i v hv e2 => ?_⟩
    · have := (h.bl.own.lt q e2).2; omega
    · have hir : i < rows.length := by have := (List.getElem?_eq_some_iff.1 hv).1; have := h.bl.len; omega
      have hr : rows[i]? = some rows[i] := List.getElem?_eq_getElem hir
      have := ((h.bl.row i v _ hv hr).lt q e2).2
      omega
theorem EQ.fresh (h : EQ lo w0 W dv vs bv rows cur) (ho : w9.ownsRow W.heap.size 5 1 v1 new.length (u8s new)) (hb : Below W.heap.size W w9) : EQ lo w0 w9 dv vs v1 rows new := by
  have hsz := h.size
  refine ⟨h.bel.trans (hb.mono hsz), Nat.le_trans hsz hb.size, h.bl.below hb, own_low ho hsz, fun q e => ?_⟩
  have h1 := (ho.lt q e).1
  refine ⟨fun e2 => ?_, fun i v hv e2 => ?_⟩
  · have := (h.bl.own.lt q e2).2; omega
  · have hir : i < rows.length := by have := (List.getElem?_eq_some_iff.1 hv).1; have := h.bl.len; omega
    have hr : rows[i]? = some rows[i] := List.getElem?_eq_getElem hir
    have := ((h.bl.row i v _ hv hr).lt q e2).2
    omega
theorem EQ.flush (h : EQ lo w0 W dv vs bv rows cur) (ho : w9.ownsRow lo 44 1 dv1 (rows.length + 1) (vs ++ [bv])) (hg : W.grownBy w9 dv.ownBlock) (hat : dv1.ownBlock = dv.ownBlock ∨ dv1.ownBlock = some (W.heap.size + 1)) :
    EQ lo w0 w9 dv1 (vs ++ [bv]) (.slice none 0 0) (rows ++ [cur]) [] := by
  refine ⟨h.bel.grown hg h.size fun q e => (h.bl.own.lt q e).1, Nat.le_trans h.size hg.size, ?_, World.ownsRow_nil _ _ _ _, fun q e => by cases e⟩
  exact h.bl.snoc h.own (fun q e => (h.nd q e).1) ho hg (by rcases hat with e | e; exact .inl e; exact .inr ⟨_, e, by omega⟩)
end
end Go.Proofs.YtgbladpoglhleaaGreatDoor
