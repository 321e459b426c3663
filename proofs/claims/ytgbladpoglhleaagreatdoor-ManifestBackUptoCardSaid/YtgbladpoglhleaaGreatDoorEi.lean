/- What stands between two steps of manifest.Encode: its two variables in memory, the rows that are made, the row under way. No condition. -/
import Derived.Test.YtgbladpoglhleaaGreatDoorEp
namespace Go.Proofs.YtgbladpoglhleaaGreatDoor
open Go.RowKit
theorem row_sliceE {w : World} {B : Nat} {e : TypeId} {sz n : Nat} {v : Value} {xs : List Value} (h : w.ownsRow B e sz v n xs) (h0 : 0 < n) : ∃ g cap, v = .slice (some ⟨g, 0, none⟩) n cap ∧ B ≤ g ∧ n ≤ cap ∧ cap ≤ 9223372036854775807 := by
  rcases h.2 with ⟨_, hn⟩ | ⟨g, cap, cur, rfl, hb, hg, h1, h2, _⟩
  · omega
  · exact ⟨g, cap, rfl, hb, h1, by simp only [maxLen] at h2; omega⟩
/-- The call's memory: mc in the box at w's end, data in the cell N, the row under way in the cell N + 1. -/
structure EI (w : World) (mc : Array Value) (N : Nat) (W : World) (dv : Value) (vs : List Value) (bv : Value) (rows : List (List UInt8)) : Prop where
  bel : Below w.heap.size w W
  lt : w.heap.size < N
  mb : W.heap[w.heap.size]? = some (.cells mc 33 (0, 0))
  db : W.heap[N]? = some (.cells #[dv] 45 (0, 0))
  bb : W.heap[N + 1]? = some (.cells #[bv] 44 (0, 0))
  bl : BL W (N + 2) dv vs rows
/-- The row under way. -/
structure EB (N : Nat) (W : World) (dv : Value) (vs : List Value) (bv : Value) (cur : List UInt8) : Prop where
  own : W.ownsRow (N + 2) 5 1 bv cur.length (u8s cur)
  nd : ∀ q, bv.ownBlock = some q → dv.ownBlock ≠ some q ∧ ∀ (i : Nat) (v : Value), vs[i]? = some v → v.ownBlock ≠ some q
section
variable {w W W' w9 : World} {mc : Array Value} {N : Nat} {dv dv1 bv v1 : Value} {vs : List Value} {rows : List (List UInt8)} {cur ys : List UInt8}
theorem EI.below (h : EI w mc N W dv vs bv rows) (hb : Below W.heap.size W W') : EI w mc N W' dv vs bv rows :=
  ⟨bthen h.bel h.bel.size hb, h.lt, bblk hb h.mb, bblk hb h.db, bblk hb h.bb, h.bl.below hb⟩
theorem EB.below (h : EB N W dv vs bv cur) (hb : Below W.heap.size W W') : EB N W' dv vs bv cur :=
  ⟨ownsRow_move h.own fun q e => hb.block q (h.own.lt q e).2, h.nd⟩
theorem EI.size (h : EI w mc N W dv vs bv rows) : N + 2 ≤ W.heap.size := by have := blk_lt h.bb; omega
theorem EB.nil (N : Nat) (W : World) (dv : Value) (vs : List Value) : EB N W dv vs (.slice none 0 0) [] := ⟨World.ownsRow_nil _ _ _ _, fun q e => by cases e⟩
theorem setCell_same {W : World} {g : Nat} {u u' : Value} {t : TypeId} (h : W.heap[g]? = some (.cells #[u] t (0, 0))) : (W.setCell ⟨g, 0, none⟩ u').heap[g]? = some (.cells #[u'] t (0, 0)) := by
  simp [World.setCell, Array.getElem?_modify, h]
theorem setCell_far {W : World} {g q : Nat} {u : Value} (h : q ≠ g) : (W.setCell ⟨g, 0, none⟩ u).heap[q]? = W.heap[q]? := Below.heap_setCell _ _ _ _ h
theorem setCell_size {W : World} {a : Addr} {u : Value} : (W.setCell a u).heap.size = W.heap.size := by simp
/-- The cell of the row under way is written. -/
theorem EI.setB (h : EI w mc N W dv vs bv rows) (u : Value) : EI w mc N (W.setCell ⟨N + 1, 0, none⟩ u) dv vs u rows := by
  have hlt := h.lt
  have hsz := h.bel.size
  refine ⟨⟨h.bel.os, h.bel.tape, h.bel.output, by rw [setCell_size]; exact hsz, fun q hq => (setCell_far (by omega)).trans (h.bel.block q hq)⟩, hlt, (setCell_far (by omega)).trans h.mb, (setCell_far (by omega)).trans h.db, setCell_same h.bb, ?_⟩
  exact h.bl.move fun q c t hq _ _ => setCell_far (by omega)
theorem EB.setB (h : EB N W dv vs bv cur) (u : Value) : EB N (W.setCell ⟨N + 1, 0, none⟩ u) dv vs bv cur :=
  ⟨ownsRow_move h.own fun q e => setCell_far (by have := (h.own.lt q e).1; omega), h.nd⟩
/-- The row under way goes behind the others. -/
theorem EI.flush (h : EI w mc N W dv vs bv rows) (hb : EB N W dv vs bv cur) (ho : w9.ownsRow (N + 2) 44 1 dv1 (rows.length + 1) (vs ++ [bv])) (hg : W.grownBy w9 dv.ownBlock) (hat : dv1.ownBlock = dv.ownBlock ∨ dv1.ownBlock = some (W.heap.size + 1)) :
    w9.heap[N]? = some (.cells #[dv] 45 (0, 0)) ∧ w9.heap[N + 1]? = some (.cells #[bv] 44 (0, 0)) ∧ EI w mc N (w9.setCell ⟨N, 0, none⟩ dv1) dv1 (vs ++ [bv]) bv (rows ++ [cur]) := by
  have hlt := h.lt
  have hs0 := h.bel.size
  have hs9 := hg.size
  have hdv : ∀ q, dv.ownBlock = some q → N + 2 ≤ q ∧ q < W.heap.size := fun q e => h.bl.own.lt q e
  have hlow : ∀ q, q < N + 2 → w9.heap[q]? = W.heap[q]? := fun q hq => hg.block q (by have := h.size; omega) fun e => by have := (hdv q e.symm).1; omega
  have hm : Moved W dv dv1 := by rcases hat with e | e; exact .inl e; exact .inr ⟨_, e, by omega⟩
  have hsn := h.bl.snoc hb.own (fun q e => (hb.nd q e).1) ho hg hm
  refine ⟨(hlow N (by omega)).trans h.db, (hlow (N + 1) (by omega)).trans h.bb, ⟨?_, hlt, ?_, ?_, ?_, ?_⟩⟩
  · refine ⟨hg.os.trans h.bel.os, hg.tape.trans h.bel.tape, hg.output.trans h.bel.output, by rw [setCell_size]; omega, fun q hq => ?_⟩
    exact (setCell_far (by omega)).trans ((hlow q (by omega)).trans (h.bel.block q hq))
  · exact (setCell_far (by omega)).trans ((hlow _ (by omega)).trans h.mb)
  · exact setCell_same ((hlow N (by omega)).trans h.db)
  · exact (setCell_far (by omega)).trans ((hlow (N + 1) (by omega)).trans h.bb)
  · exact hsn.move fun q c t hq _ _ => setCell_far (by omega)
/-- The row under way has grown. -/
theorem EI.grow (h : EI w mc N W dv vs bv rows) (hb : EB N W dv vs bv cur) (ho : w9.ownsRow (N + 2) 5 1 v1 (cur ++ ys).length (u8s (cur ++ ys))) (hg : W.grownBy w9 bv.ownBlock) (hm : Moved W bv v1) :
    w9.heap[N + 1]? = some (.cells #[bv] 44 (0, 0)) ∧ EI w mc N (w9.setCell ⟨N + 1, 0, none⟩ v1) dv vs v1 rows ∧ EB N (w9.setCell ⟨N + 1, 0, none⟩ v1) dv vs v1 (cur ++ ys) := by
  have hlt := h.lt
  have hs0 := h.bel.size
  have hs9 := hg.size
  have hbv : ∀ q, bv.ownBlock = some q → N + 2 ≤ q ∧ q < W.heap.size := fun q e => hb.own.lt q e
  have hlow : ∀ q, q < N + 2 → w9.heap[q]? = W.heap[q]? := fun q hq => hg.block q (by have := h.size; omega) fun e => by have := (hbv q e.symm).1; omega
  have h1 : EI w mc N w9 dv vs bv rows := by
    refine ⟨⟨hg.os.trans h.bel.os, hg.tape.trans h.bel.tape, hg.output.trans h.bel.output, by omega, fun q hq => (hlow q (by omega)).trans (h.bel.block q hq)⟩, hlt, (hlow _ (by omega)).trans h.mb, (hlow _ (by omega)).trans h.db, (hlow _ (by omega)).trans h.bb, ?_⟩
    exact h.bl.grown hg fun q e => hb.nd q e
  refine ⟨h1.bb, h1.setB v1, EB.setB ⟨ho, fun q e => ?_⟩ v1⟩
  rcases hm with hm | ⟨k, hm, hk⟩
  · rw [hm] at e; exact hb.nd q e
  · rw [hm] at e
    have hqk : k = q := Option.some.inj e
    refine ⟨fun e2 => ?_, fun i v hv e2 => ?_⟩
    · have := (h.bl.own.lt q e2).2; omega
    · have hir : i < rows.length := by have := (List.getElem?_eq_some_iff.1 hv).1; have := h.bl.len; omega
      have hr : rows[i]? = some rows[i] := List.getElem?_eq_getElem hir
      have := ((h.bl.row i v _ hv hr).lt q e2).2
      omega
end
/-- Whatever keeps all cells and all that lies below. -/
theorem EI.keep {w W W' : World} {mc : Array Value} {N : Nat} {dv bv : Value} {vs : List Value} {rows : List (List UInt8)} (h : EI w mc N W dv vs bv rows) (ho : W'.os = W.os) (ht : W'.tape = W.tape) (hu : W'.output = W.output) (hs : W.heap.size ≤ W'.heap.size)
    (hlow : ∀ q, q < w.heap.size → W'.heap[q]? = W.heap[q]?) (hk : ∀ (q : Nat) (c : Array Value) (t : TypeId), W.heap[q]? = some (.cells c t (0, 0)) → W'.heap[q]? = W.heap[q]?) : EI w mc N W' dv vs bv rows :=
  ⟨⟨ho.trans h.bel.os, ht.trans h.bel.tape, hu.trans h.bel.output, Nat.le_trans h.bel.size hs, fun q hq => (hlow q hq).trans (h.bel.block q hq)⟩, h.lt, (hk _ _ _ h.mb).trans h.mb, (hk _ _ _ h.db).trans h.db, (hk _ _ _ h.bb).trans h.bb, h.bl.move fun q c t _ hq _ => hk q c t hq⟩
/-- What stands between two chunks: B and B + 1 hold what the iterator has caught. -/
def RI (w : World) (mc : Array Value) (N B : Nat) (rows0 : List (List UInt8)) (ds : List Int) (sl : Value) (k : Nat) (W : World) : Prop :=
  ∃ dv vs bv, EI w mc N W dv vs bv (rows0 ++ (List.range k).map fun j => rowD (chD ds j)) ∧ W.heap[B]? = some (.cells #[sl] 30 (0, 0)) ∧ W.heap[B + 1]? = some (.cells #[.int .i64 200] 3 (0, 0))
theorem RI.own {w : World} {mc : Array Value} {N B : Nat} {rows0 : List (List UInt8)} {ds : List Int} {sl : Value} (hd : w.heap.size ≤ B) : OwnFrom (B + 2) (RI w mc N B rows0 ds sl) := by
  rintro k W W' row ⟨dv, vs, bv, he, h1, h2⟩ hg hrow
  have hkeep : ∀ (q : Nat) (c : Array Value) (t : TypeId), W.heap[q]? = some (.cells c t (0, 0)) → W'.heap[q]? = W.heap[q]? := fun q c t hq => hg.block q (blk_lt hq) fun e => by
    obtain ⟨_, o', h1, h2⟩ := hrow q e.symm
    rw [hq] at h1
    cases h1
    cases h2
  have hl : ∀ q, q < w.heap.size → W'.heap[q]? = W.heap[q]? := fun q hq => hg.block q (by have := he.bel.size; omega) fun e => by have := (hrow q e.symm).1; omega
  exact ⟨dv, vs, bv, he.keep hg.os hg.tape hg.output hg.size hl hkeep, (hkeep _ _ _ h1).trans h1, (hkeep _ _ _ h2).trans h2⟩
/-- Only the cell of the row under way has been written since W2, and new blocks. -/
structure Since (N : Nat) (W2 W : World) : Prop where
  size : W2.heap.size ≤ W.heap.size
  far : ∀ q, q < W2.heap.size → q ≠ N + 1 → W.heap[q]? = W2.heap[q]?
theorem Since.below {N : Nat} {W2 W W' : World} (h : Since N W2 W) (hb : Below W.heap.size W W') : Since N W2 W' :=
  ⟨Nat.le_trans h.size hb.size, fun q h1 h2 => (hb.block q (by have := h.size; omega)).trans (h.far q h1 h2)⟩
theorem Since.setB {N : Nat} {W2 W : World} (h : Since N W2 W) (u : Value) : Since N W2 (W.setCell ⟨N + 1, 0, none⟩ u) :=
  ⟨by rw [setCell_size]; exact h.size, fun q h1 h2 => (setCell_far h2).trans (h.far q h1 h2)⟩
/-- One chunk more. -/
theorem RI.next {w W2 wr w9 : World} {mc : Array Value} {N B : Nat} {rows0 : List (List UInt8)} {ds : List Int} {sl dv dv1 bv2 bv : Value} {vs : List Value} {k : Nat}
    (h2 : EI w mc N W2 dv vs bv2 (rows0 ++ (List.range k).map fun j => rowD (chD ds j))) (hB : W2.heap[B]? = some (.cells #[sl] 30 (0, 0))) (hB1 : W2.heap[B + 1]? = some (.cells #[.int .i64 200] 3 (0, 0))) (hBN : N + 2 ≤ B)
    (hr : EI w mc N wr dv vs bv (rows0 ++ (List.range k).map fun j => rowD (chD ds j))) (hs : Since N W2 wr) (ho : wr.ownsRow W2.heap.size 5 1 bv (rowD (chD ds k)).length (u8s (rowD (chD ds k))))
    (ha : w9.ownsRow (N + 2) 44 1 dv1 ((rows0 ++ (List.range k).map fun j => rowD (chD ds j)).length + 1) (vs ++ [bv])) (hg : wr.grownBy w9 dv.ownBlock) (hat : dv1.ownBlock = dv.ownBlock ∨ dv1.ownBlock = some (wr.heap.size + 1)) :
    w9.heap[N]? = some (.cells #[dv] 45 (0, 0)) ∧ RI w mc N B rows0 ds sl (k + 1) (w9.setCell ⟨N, 0, none⟩ dv1) ∧ KeepsFrom (B + 2) W2 (w9.setCell ⟨N, 0, none⟩ dv1) ∧ Stay (fun q => q = B ∨ q = B + 1) W2 (w9.setCell ⟨N, 0, none⟩ dv1) := by
  have hdv : ∀ q, dv.ownBlock = some q → N + 2 ≤ q ∧ q < W2.heap.size := fun q e => h2.bl.own.lt q e
  have hlen := h2.bl.len
  have heb : EB N wr dv vs bv (rowD (chD ds k)) := ⟨own_low ho h2.size, fun q e => by
    have h1 := (ho.lt q e).1
    refine ⟨fun e2 => by have := (hdv q e2).2; omega, fun i v hv e2 => ?_⟩
    have hi : i < (rows0 ++ (List.range k).map fun j => rowD (chD ds j)).length := by have := (List.getElem?_eq_some_iff.1 hv).1; omega
    have := ((h2.bl.row i v _ hv (List.getElem?_eq_getElem hi)).lt q e2).2
    omega⟩
  obtain ⟨g1, _, g3⟩ := hr.flush heb ha hg hat
  have hlt := h2.lt
  have hs9 := hg.size
  have hss := hs.size
  have hfar : ∀ q, q < W2.heap.size → q ≠ N → q ≠ N + 1 → dv.ownBlock ≠ some q → (w9.setCell ⟨N, 0, none⟩ dv1).heap[q]? = W2.heap[q]? := fun q h1 h2 h3 h4 =>
    (setCell_far h2).trans ((hg.block q (by omega) (fun e => h4 e.symm)).trans (hs.far q h1 h3))
  have hty : ∀ (q : Nat) (c : Array Value) (t : TypeId), t ≠ 44 → W2.heap[q]? = some (.cells c t (0, 0)) → dv.ownBlock ≠ some q := fun q c t ht hq e => by
    obtain ⟨c', h'⟩ := ownsRow_cells h2.bl.own e
    rw [hq] at h'
    cases h'
    exact ht rfl
  have kB := (hfar B (blk_lt hB) (by omega) (by omega) (hty _ _ _ (by decide) hB)).trans hB
  have kB1 := (hfar (B + 1) (blk_lt hB1) (by omega) (by omega) (hty _ _ _ (by decide) hB1)).trans hB1
  refine ⟨g1, ⟨dv1, vs ++ [bv], bv, ?_, kB, kB1⟩, ⟨?_, ?_⟩, ?_⟩
  · rw [List.range_succ, List.map_append, ← List.append_assoc]
    exact g3
  · rw [setCell_size]; omega
  · intro q o hq ho' hn
    refine (hfar q (blk_lt ho') (by omega) (by omega) fun e => ?_).trans ho'
    obtain ⟨c, h1⟩ := ownsRow_cells h2.bl.own e
    rw [ho'] at h1
    cases h1
    cases hn
  · intro q hq hl
    rcases hq with rfl | rfl
    · exact ⟨kB.trans hB.symm, by rw [setCell_size]; omega⟩
    · exact ⟨kB1.trans hB1.symm, by rw [setCell_size]; omega⟩
end Go.Proofs.YtgbladpoglhleaaGreatDoor
