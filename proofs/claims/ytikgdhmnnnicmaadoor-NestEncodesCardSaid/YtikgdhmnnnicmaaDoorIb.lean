/- Blocks of numbers. No condition. -/
import Derived.Test.YtikgdhmnnnicmaaDoorY
import Derived.Test.YtikgdhmnnnicmaaDoor2
namespace Go.Proofs.YtikgdhmnnnicmaaDoor
open Go.RowKit
theorem ints_blk {w : World} {ib x : Nat} {s : List Int} (h : w.heap[ib]? = some (.cells (ints s).toArray 3 (0, 0))) (hx : x < s.length) : w.cell? ⟨ib, x, none⟩ = some (.int .i64 (s.getD x 0)) ∧ w.frozen? ⟨ib, x, none⟩ = false ∧
    ∀ y : Int, (w.setCell ⟨ib, x, none⟩ (.int .i64 y)).heap[ib]? = some (.cells (ints (s.set x y)).toArray 3 (0, 0)) := by
  refine ⟨cell_blk h ?_, by simp [World.frozen?, h], fun y => ?_⟩
  · simp [ints, hx]
  · simp [World.setCell, Array.getElem?_modify, h, ints, List.map_set]
theorem toList_made_ints (n : Nat) : madeCells #[.int .i64 0] n = (ints (List.replicate n 0)).toArray := by rw [ints, List.map_replicate, ← toList_madeCells_one]
end Go.Proofs.YtikgdhmnnnicmaaDoor
