/- The references' copies of lists: new memory, the same list. No condition. -/
import Derived.Test.YtikgdhmnnnicmaaDoorP
import Derived.Test.YtikgdhmnnnicmaaDoorW
namespace Go.Proofs.YtikgdhmnnnicmaaDoor
open Go.RowKit
theorem ints_snoc (xs : List Int) (x : Int) : ints (xs ++ [x]) = ints xs ++ [.int .i64 x] := by simp [ints]
theorem nodeCells_snoc (xs : List Node) (x : Node) : nodeCells (xs ++ [x]) = nodeCells xs ++ [.int .i64 x.K, .int .i64 x.Least, .int .i64 x.Size, .int .i64 x.Parent] := by simp [nodeCells]
theorem take_snoc {α : Type} {xs : List α} {i : Nat} (hi : i < xs.length) : xs.take (i + 1) = xs.take i ++ [xs[i]] := by
  rw [List.take_add_one, List.getElem?_eq_getElem hi]
  rfl
set_option maxHeartbeats 1000000 in
set_option maxRecDepth 100000 in
theorem Nodes_any {w : World} {ok : Nat → Prop} {v : Value} {nodes : List Node} (hs : Sl knode w ok v nodes) (hl : nodes.length ≤ 16777216) : Calls Tryd.prog 7 #[v] w (ClonePost w nodes) := by
  obtain ⟨A, c, rfl, hc, hm⟩ := hs.slice
  have HS := Aside.mk hs
  obtain ⟨i0, hi0, hz0, hz1, hz2⟩ := info_parts Tryd.info42
  have hmk := run_make (P := Tryd.prog) w 22 27 i0 _ Tryd.underlying22 hi0 hz0 .i64 .i64 0 nodes.length (by omega) (by omega) (by rw [hz2]; omega) (by omega)
  rw [hz1, Int.toNat_natCast] at hmk
  have HR0 := Aside.mk (World.ownsRow_made (base := w.heap.size) (e := 27) (size := 4) w (madeCells #[.int .i64 0, .int .i64 0, .int .i64 0, .int .i64 0] (nodes.length * 4)) nodes.length (Nat.le_refl _) (by simp only [maxLen]; omega) (size_madeCells _ _))
  have HB0 := Aside.mk ((Below.refl _ w).alloc (Nat.le_refl _) (.cells (madeCells #[.int .i64 0, .int .i64 0, .int .i64 0, .int .i64 0] (nodes.length * 4)) 27))
  clear hs hi0 hz0 hz1 hz2
  go_enter Tryd.func7, Tryd.ntmps7
  go_wp2
  clear hmk
  generalize w.alloc (.cells (madeCells #[.int .i64 0, .int .i64 0, .int .i64 0, .int .i64 0] (nodes.length * 4)) 27) = w0 at *
  go_loopg [3, 4] nodes.length (fun kq v3 iv wr => ∃ (i : Nat), Aside (i + kq = nodes.length) ∧ iv = .int .i64 i ∧ Aside (Below w.heap.size w wr) ∧ Aside (wr.ownsRow w.heap.size 27 4 v3 (nodes.take i).length (nodeCells (nodes.take i))))
  case atStart => exact ⟨0, ⟨by omega⟩, rfl, HB0, HR0⟩
  case round =>
    clear HR0 HB0
    obtain ⟨i, HI, rfl, HB, HR⟩ := hrel
    by_cases hi : i < nodes.length
    · obtain ⟨b, o, e, k0, k1, k2, k3⟩ := (HS.out.below HB.out).node i hi
      cases e
      have HT := Aside.mk (take_snoc hi)
      have hlen : (nodes.take i).length ≤ 16777216 := by simp; omega
      generalize nodes[i] = x at *
      go_wp2_with (at_builtin; go_must (refine app_one w.heap.size rfl _ _ 22 27 _ 4 32 rfl Tryd.underlying22 Tryd.info42 rfl (by decide) (by decide) u3 (nodes.take i).length _ [.int .i64 x.K, .int .i64 x.Least, .int .i64 x.Size, .int .i64 x.Parent] rfl rfl rfl (by simp [Value.oneCell']) HR.out HB.out.size (by omega) ?_; intro v1 w6 hown hg6 hat; have HB6 := Aside.mk (HB.out.grown hg6 HB.out.size fun q e => (HR.out.lt q e).1); have HO6 := Aside.mk hown; clear hown hg6 hat k0 k1 k2 k3))
      go_roundg (nodes.length - (i + 1))
      case measure => have := HI.out; omega
      case rel => exact ⟨i + 1, ⟨by omega⟩, by go_num, HB6, ⟨by rw [HT.out, nodeCells_snoc, List.length_append]; exact HO6.out⟩⟩
    · have ht : nodes.take i = nodes := List.take_of_length_le (by omega)
      have HP : Aside (ClonePost w nodes (.returned u3) wr) := ⟨_, rfl, by rw [← ht]; exact HR.out, HB.out⟩
      replace hi : nodes.length ≤ i := by omega
      clear ht HR HB
      go_wp2
      go_ret
      exact HP.out
end Go.Proofs.YtikgdhmnnnicmaaDoor
