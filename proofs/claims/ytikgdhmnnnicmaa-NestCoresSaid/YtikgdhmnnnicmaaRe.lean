/- The ground for the walk of the reference's Forest: what lies in memory between two vertices of a level. No condition. -/
import Derived.Test.YtikgdhmnnnicmaaPt
import Derived.Test.YtikgdhmnnnicmaaW
namespace Go.Proofs.Ytikgdhmnnnicmaa
open Go.RowKit
/-- Between two vertices of a level: the nodes' row is the call's own, the marks lie in block sb. -/
structure RS (w : World) (sb n : Nat) (wr : World) (seen : List Bool) (nodes : List Node) (ov : Value) : Prop where
  own : wr.ownsRow w.heap.size 42 4 ov nodes.length (nodeCells nodes)
  marks : wr.heap[sb]? = some (.cells (bools seen).toArray 4 (0, 0))
  sbB : w.heap.size ≤ sb
  ne : ∀ q, ov.ownBlock = some q → q ≠ sb
  below : Below w.heap.size w wr
  len : seen.length = n
  ok : fine n nodes
  le : nodes.length ≤ 16777216
def RefPost (w : World) (nodes : List Node) (e : Ending) (w' : World) : Prop := ∃ v, e = .returned v ∧ w'.ownsRow w.heap.size 42 4 v nodes.length (nodeCells nodes) ∧ Below w.heap.size w w'
section
variable {w wr : World} {sb n : Nat} {seen : List Bool} {nodes : List Node} {ov : Value}
theorem RS.bit (h : RS w sb n wr seen nodes ov) {u : Nat} (hu : u < n) : wr.cell? ⟨sb, u, none⟩ = some (.bool (seen.getD u false)) := by
  have hl := h.len
  refine cell_blk h.marks ?_
  have : u < seen.length := by omega
  simp [bools, this]
theorem nodeCells_snoc' (xs : List Node) (x : Node) : nodeCells (xs ++ [x]) = nodeCells xs ++ [.int .i64 x.K, .int .i64 x.Least, .int .i64 x.Size, .int .i64 x.Parent] := by simp [nodeCells]
theorem own_shape {B : Nat} (h : wr.ownsRow B 42 4 ov nodes.length (nodeCells nodes)) : ∃ A c, ov = .slice A nodes.length c := by
  rcases h.2 with ⟨rfl, hn⟩ | ⟨g, cap, cur, rfl, _⟩
  · exact ⟨none, 0, by rw [hn]⟩
  · exact ⟨_, _, rfl⟩
end
theorem RS.below' {w wr w' : World} {sb n : Nat} {seen : List Bool} {nodes : List Node} {ov : Value} (h : RS w sb n wr seen nodes ov) (hb : Below wr.heap.size wr w') : RS w sb n w' seen nodes ov :=
  ⟨ownsRow_move h.own fun q e => hb.block q (h.own.lt q e).2, bblk hb h.marks, h.sbB, h.ne, bthen h.below h.below.size hb, h.len, h.ok, h.le⟩
/-- Behind a call of Part. -/
theorem RS.part {w wr w' : World} {sb n : Nat} {seen seen' : List Bool} {nodes : List Node} {ov : Value} (h : RS w sb n wr seen nodes ov) (ho : Only (· = sb) wr w') (hm : w'.heap[sb]? = some (.cells (bools seen').toArray 4 (0, 0))) (hl : seen'.length = n) : RS w sb n w' seen' nodes ov :=
  ⟨ownsRow_move h.own fun q e => ho.block q (h.own.lt q e).2 (h.ne q e), hm, h.sbB, h.ne, ⟨ho.os.trans h.below.os, ho.tape.trans h.below.tape, ho.output.trans h.below.output, Nat.le_trans h.below.size ho.size, fun k hk => (ho.block k (Nat.lt_of_lt_of_le hk h.below.size) (by have := h.sbB; omega)).trans (h.below.block k hk)⟩, hl, h.ok, h.le⟩
theorem marksF_length (n : Nat) (p : List Int) : (marksF n p).length = n := by
  unfold marksF
  have : ∀ (p : List Int) (l : List Bool), (p.foldl (fun l x => l.set x.toNat true) l).length = l.length := by
    intro p
    induction p with
    | nil => intro l; rfl
    | cons x p ih => intro l; rw [List.foldl_cons, ih, List.length_set]
  rw [this, List.length_replicate]
theorem marksF_succ (n : Nat) {p : List Int} {i : Nat} (hi : i < p.length) : marksF n (p.take (i + 1)) = (marksF n (p.take i)).set p[i].toNat true := by
  unfold marksF
  rw [List.take_add_one, List.getElem?_eq_getElem hi, Option.toList_some, List.foldl_append]
  rfl
theorem any_succ {p : List Int} {f : Int → Bool} {i : Nat} (hi : i < p.length) : (p.take (i + 1)).any f = ((p.take i).any f || f p[i]) := by
  rw [List.take_add_one, List.getElem?_eq_getElem hi, Option.toList_some, List.any_append]
  simp
theorem bool_blk {w : World} {ib x : Nat} {ms : List Bool} (h : w.heap[ib]? = some (.cells (bools ms).toArray 4 (0, 0))) (hx : x < ms.length) : w.cell? ⟨ib, x, none⟩ = some (.bool (ms.getD x false)) ∧ w.frozen? ⟨ib, x, none⟩ = false ∧
    (w.setCell ⟨ib, x, none⟩ (.bool true)).heap[ib]? = some (.cells (bools (ms.set x true)).toArray 4 (0, 0)) := by
  refine ⟨cell_blk h ?_, by simp [World.frozen?, h], ?_⟩
  · simp [bools, hx]
  · simp [World.setCell, Array.getElem?_modify, h, bools, List.map_set]
theorem kidsF_get {ms : List Bool} {i : Nat} {xs : List Node} (j : Nat) : (kidsF ms i xs)[j]? = (xs[j]?).map fun x => if j < i then kidF ms xs.length x else x := by
  unfold kidsF
  rcases Nat.lt_or_ge j (xs.take i).length with h | h
  · rw [List.getElem?_append_left (by simpa using h), List.getElem?_map]
    have hi : j < i := by simp at h; omega
    rw [List.getElem?_take, if_pos hi]
    simp [hi]
  · rw [List.getElem?_append_right (by simpa using h), List.length_map, List.getElem?_drop]
    simp at h
    by_cases hi : j < i
    · have : xs.length ≤ j := by omega
      rw [List.getElem?_eq_none this, List.getElem?_eq_none (by simp; omega)]
      rfl
    · have : i + (j - min i xs.length) = if i ≤ xs.length then j else i + (j - xs.length) := by split <;> omega
      simp only [List.length_take, this]
      split
      · cases xs[j]? <;> simp
      · rw [List.getElem?_eq_none (by omega), List.getElem?_eq_none (by omega)]
        rfl
theorem kidsF_length {ms : List Bool} {i : Nat} {xs : List Node} : (kidsF ms i xs).length = xs.length := by
  unfold kidsF
  rw [List.length_append, List.length_map, ← List.length_append, List.take_append_drop]
theorem kidsF_step {ms : List Bool} {i : Nat} {xs : List Node} (hi : i < xs.length) : kidsF ms (i + 1) xs = if xs[i].Parent < 0 ∧ ms.getD xs[i].Least.toNat false = true then (kidsF ms i xs).modify i (fun x => { x with Parent := (xs.length : Int) }) else kidsF ms i xs := by
  by_cases hc : xs[i].Parent < 0 ∧ ms.getD xs[i].Least.toNat false = true
  · rw [if_pos hc]
    refine List.ext_getElem? fun j => ?_
    rw [kidsF_get, List.getElem?_modify, kidsF_get]
    by_cases e : i = j
    · subst e
      have hk : kidF ms xs.length xs[i] = { xs[i] with Parent := (xs.length : Int) } := by unfold kidF; rw [if_pos hc]
      rw [List.getElem?_eq_getElem hi]
      simp only [Option.map_some, Nat.lt_add_one, if_true, Nat.lt_irrefl, if_false, hk, Option.map_eq_map]
    · have h2 : (j < i + 1) = (j < i) := by simp; omega
      simp only [h2, e, if_false]
      cases xs[j]? <;> rfl
  · rw [if_neg hc]
    refine List.ext_getElem? fun j => ?_
    rw [kidsF_get, kidsF_get]
    by_cases e : i = j
    · subst e
      have hk : kidF ms xs.length xs[i] = xs[i] := by unfold kidF; rw [if_neg hc]
      rw [List.getElem?_eq_getElem hi]
      simp only [Option.map_some, Nat.lt_add_one, if_true, Nat.lt_irrefl, if_false, hk]
    · have h2 : (j < i + 1) = (j < i) := by simp; omega
      simp only [h2]
theorem kidsF_zero {ms : List Bool} {xs : List Node} : kidsF ms 0 xs = xs := by simp [kidsF]
theorem kidsF_fine {n : Nat} {ms : List Bool} {i : Nat} {xs : List Node} (h : fine n xs) : fine n (kidsF ms i xs) := by
  intro x hx
  obtain ⟨j, hj⟩ := List.getElem?_of_mem hx
  rw [kidsF_get] at hj
  obtain ⟨y, hy, rfl⟩ := Option.map_eq_some_iff.1 hj
  have := h y (List.mem_of_getElem? hy)
  split
  · unfold kidF
    split
    · exact ⟨by show (-1 : Int) ≤ (xs.length : Int); omega, this.2⟩
    · exact this
  · exact this
/-- One node's parent is set. -/
theorem node_parent {w wr : World} {B g cap i : Nat} {xs : List Node} (hown : wr.ownsRow B 42 4 (.slice (some ⟨g, 0, none⟩) xs.length cap) xs.length (nodeCells xs)) (ho : Only (fun q => some g = some q) w wr) (y : Int) :
    wr.frozen? ⟨g, i * 4 + 3, none⟩ = false ∧ (wr.setCell ⟨g, i * 4 + 3, none⟩ (.int .i64 y)).ownsRow B 42 4 (.slice (some ⟨g, 0, none⟩) xs.length cap) xs.length (nodeCells (xs.modify i fun x => { x with Parent := y })) ∧ Only (fun q => some g = some q) w (wr.setCell ⟨g, i * 4 + 3, none⟩ (.int .i64 y)) := by
  obtain ⟨hs, hg⟩ := hown.stored (i * 4 + 3) (.int .i64 y)
  refine ⟨hown.frozenAt _, by rw [nodeCells_modify]; exact hs, ho.os, ho.tape, ho.output, by have := ho.size; simpa using this, fun k hk hf => ?_⟩
  exact (Below.heap_setCell _ _ _ _ (by show k ≠ g; intro e; subst e; exact hf rfl)).trans (ho.block k hk hf)
/-- A node of the level is laid behind. -/
theorem RS.finish {w w5 w6 w7 : World} {sb n : Nat} {seen : List Bool} {nodes xs : List Node} {ov v1 : Value} {x : Node} (h : RS w sb n w5 seen nodes ov) (ho : Only (fun q => ov.ownBlock = some q) w5 w6) (hxl : xs.length = nodes.length) (hxf : fine n (xs ++ [x])) (hle : nodes.length < 16777216) (hob : ∀ q, ov.ownBlock = some q → w.heap.size ≤ q)
    (hown : w7.ownsRow w.heap.size 42 4 v1 (xs.length + 1) (nodeCells xs ++ [.int .i64 x.K, .int .i64 x.Least, .int .i64 x.Size, .int .i64 x.Parent])) (hg : w6.grownBy w7 ov.ownBlock) (hat : v1.ownBlock = ov.ownBlock ∨ v1.ownBlock = some (w6.heap.size + 1)) : RS w sb n w7 seen (xs ++ [x]) v1 := by
  have hlow : ∀ q, q < w5.heap.size → ov.ownBlock ≠ some q → w7.heap[q]? = w5.heap[q]? := fun q hq hne => (hg.block q (Nat.lt_of_lt_of_le hq ho.size) (fun e => hne e.symm)).trans (ho.block q hq hne)
  have hsb := blk_lt h.marks
  refine ⟨by rw [nodeCells_snoc', List.length_append]; exact hown, (hlow sb hsb fun e => h.ne sb e rfl).trans h.marks, h.sbB, fun q hq => ?_, ⟨hg.os.trans (ho.os.trans h.below.os), hg.tape.trans (ho.tape.trans h.below.tape), hg.output.trans (ho.output.trans h.below.output), Nat.le_trans h.below.size (Nat.le_trans ho.size hg.size), fun k hk => ?_⟩, h.len, hxf, by simp; omega⟩
  · rcases hat with e | e
    · exact h.ne q (e ▸ hq)
    · rw [e] at hq
      have : w6.heap.size + 1 = q := by simpa using hq
      have := ho.size
      omega
  · exact (hlow k (Nat.lt_of_lt_of_le hk h.below.size) fun e => by have := hob k e; omega).trans (h.below.block k hk)
end Go.Proofs.Ytikgdhmnnnicmaa
