/- The references' copies of lists: new memory, the same list. No condition. -/
import Derived.Test.YtikgdhmnnnicmaaP
import Derived.Test.YtikgdhmnnnicmaaW
namespace Go.Proofs.Ytikgdhmnnnicmaa
open Go.RowKit
theorem ints_snoc (xs : List Int) (x : Int) : ints (xs ++ [x]) = ints xs ++ [.int .i64 x] := by simp [ints]
theorem nodeCells_snoc (xs : List Node) (x : Node) : nodeCells (xs ++ [x]) = nodeCells xs ++ [.int .i64 x.K, .int .i64 x.Least, .int .i64 x.Size, .int .i64 x.Parent] := by simp [nodeCells]
theorem take_snoc {α : Type} {xs : List α} {i : Nat} (hi : i < xs.length) : xs.take (i + 1) = xs.take i ++ [xs[i]] := by
  rw [List.take_add_one, List.getElem?_eq_getElem hi]
  rfl
set_option maxHeartbeats 1000000 in
set_option maxRecDepth 100000 in
theorem Ints_any {w : World} {ok : Nat → Prop} {v : Value} {cs : List Int} (hs : Sl kint w ok v cs) (hl : cs.length ≤ 16777216) : Calls Try.prog 12 #[v] w (IntsPost w cs) := by
  obtain ⟨A, c, rfl, hc, hm⟩ := hs.slice
  have HS := Aside.mk hs
  obtain ⟨i0, hi0, hz0, hz1, hz2⟩ := info_parts Try.info3
  have hmk := run_make (P := Try.prog) w 23 3 i0 _ Try.underlying23 hi0 hz0 .i64 .i64 0 cs.length (by omega) (by omega) (by rw [hz2]; omega) (by omega)
  rw [hz1, Int.toNat_natCast] at hmk
  have HR0 : Aside ((w.alloc (.cells (madeCells #[.int .i64 0] cs.length) 3)).ownsRow w.heap.size 3 1 (.slice (some ⟨w.heap.size, 0, none⟩) 0 cs.length) 0 []) := ⟨World.ownsRow_made w _ cs.length (Nat.le_refl _) (by simp only [maxLen]; omega) (by rw [size_madeCells]; omega)⟩
  have HB0 : Aside (Below w.heap.size w (w.alloc (.cells (madeCells #[.int .i64 0] cs.length) 3))) := ⟨(Below.refl _ w).alloc (Nat.le_refl _) _⟩
  clear hs hi0 hz0 hz1 hz2
  go_enter Try.func12, Try.ntmps12
  go_wp2
  clear hmk
  generalize w.alloc (.cells (madeCells #[.int .i64 0] cs.length) 3) = w0 at *
  go_loopg [3, 4] cs.length (fun kq v3 iv wr => ∃ (i : Nat), Aside (i + kq = cs.length) ∧ iv = .int .i64 i ∧ Aside (Below w.heap.size w wr) ∧ Aside (wr.ownsRow w.heap.size 3 1 v3 (cs.take i).length (ints (cs.take i))))
  case atStart => exact ⟨0, ⟨by omega⟩, rfl, HB0, HR0⟩
  case round =>
    clear HR0 HB0
    obtain ⟨i, HI, rfl, HB, HR⟩ := hrel
    by_cases hi : i < cs.length
    · obtain ⟨b, o, e, k0⟩ := (HS.out.below HB.out).int i hi
      cases e
      have HT := Aside.mk (take_snoc hi)
      have hlen : (cs.take i).length ≤ 16777216 := by simp; omega
      generalize cs[i] = x at *
      go_wp2_with (at_builtin; go_must (refine app_one w.heap.size rfl _ _ 23 3 (.int .i64 0) 1 8 rfl Try.underlying23 Try.info3 rfl (by decide) (by decide) u3 (cs.take i).length _ [.int .i64 x] rfl rfl rfl (by simp [Value.oneCell']) HR.out HB.out.size (by omega) ?_; intro v1 w6 hown hg6 hat; have HB6 := Aside.mk (HB.out.grown hg6 HB.out.size fun q e => (HR.out.lt q e).1); have HO6 := Aside.mk hown; clear hown hg6 hat))
      go_roundg (cs.length - (i + 1))
      case measure => have := HI.out; omega
      case rel => exact ⟨i + 1, ⟨by omega⟩, by go_num, HB6, ⟨by rw [HT.out, ints_snoc, List.length_append]; exact HO6.out⟩⟩
    · have ht : cs.take i = cs := List.take_of_length_le (by omega)
      have HP : Aside (IntsPost w cs (.returned u3) wr) := ⟨_, rfl, by rw [← ht]; exact HR.out, HB.out⟩
      replace hi : cs.length ≤ i := by omega
      clear ht HR HB
      go_wp2
      go_ret
      exact HP.out
set_option maxHeartbeats 1000000 in
set_option maxRecDepth 100000 in
theorem Nodes_any {w : World} {ok : Nat → Prop} {v : Value} {nodes : List Node} (hs : Sl knode w ok v nodes) (hl : nodes.length ≤ 16777216) : Calls Try.prog 19 #[v] w (ClonePost w nodes) := by
  obtain ⟨A, c, rfl, hc, hm⟩ := hs.slice
  have HS := Aside.mk hs
  obtain ⟨i0, hi0, hz0, hz1, hz2⟩ := info_parts Try.info42
  have hmk := run_make (P := Try.prog) w 30 42 i0 _ Try.underlying30 hi0 hz0 .i64 .i64 0 nodes.length (by omega) (by omega) (by rw [hz2]; omega) (by omega)
  rw [hz1, Int.toNat_natCast] at hmk
  have HR0 := Aside.mk (World.ownsRow_made (base := w.heap.size) (e := 42) (size := 4) w (madeCells #[.int .i64 0, .int .i64 0, .int .i64 0, .int .i64 0] (nodes.length * 4)) nodes.length (Nat.le_refl _) (by simp only [maxLen]; omega) (size_madeCells _ _))
  have HB0 := Aside.mk ((Below.refl _ w).alloc (Nat.le_refl _) (.cells (madeCells #[.int .i64 0, .int .i64 0, .int .i64 0, .int .i64 0] (nodes.length * 4)) 42))
  clear hs hi0 hz0 hz1 hz2
  go_enter Try.func19, Try.ntmps19
  go_wp2
  clear hmk
  generalize w.alloc (.cells (madeCells #[.int .i64 0, .int .i64 0, .int .i64 0, .int .i64 0] (nodes.length * 4)) 42) = w0 at *
  go_loopg [3, 4] nodes.length (fun kq v3 iv wr => ∃ (i : Nat), Aside (i + kq = nodes.length) ∧ iv = .int .i64 i ∧ Aside (Below w.heap.size w wr) ∧ Aside (wr.ownsRow w.heap.size 42 4 v3 (nodes.take i).length (nodeCells (nodes.take i))))
  case atStart => exact ⟨0, ⟨by omega⟩, rfl, HB0, HR0⟩
  case round =>
    clear HR0 HB0
    obtain ⟨i, HI, rfl, HB, HR⟩ := hrel
    by_cases hi : i < nodes.length
    · obtain ⟨b, o, e, k0, k1, k2, k3⟩ := (HS.out.below HB.out).node i hi
      cases e
      have HT := Aside.mk (take_snoc hi)
      have hlen : (nodes.take i).length ≤ 16777216 := by simp; omega
      generalize nodes[i] = x at *
      go_wp2_with (at_builtin; go_must (refine app_one w.heap.size rfl _ _ 30 42 _ 4 32 rfl Try.underlying30 Try.info42 rfl (by decide) (by decide) u3 (nodes.take i).length _ [.int .i64 x.K, .int .i64 x.Least, .int .i64 x.Size, .int .i64 x.Parent] rfl rfl rfl (by simp [Value.oneCell']) HR.out HB.out.size (by omega) ?_; intro v1 w6 hown hg6 hat; have HB6 := Aside.mk (HB.out.grown hg6 HB.out.size fun q e => (HR.out.lt q e).1); have HO6 := Aside.mk hown; clear hown hg6 hat k0 k1 k2 k3))
      go_roundg (nodes.length - (i + 1))
      case measure => have := HI.out; omega
      case rel => exact ⟨i + 1, ⟨by omega⟩, by go_num, HB6, ⟨by rw [HT.out, nodeCells_snoc, List.length_append]; exact HO6.out⟩⟩
    · have ht : nodes.take i = nodes := List.take_of_length_le (by omega)
      have HP : Aside (ClonePost w nodes (.returned u3) wr) := ⟨_, rfl, by rw [← ht]; exact HR.out, HB.out⟩
      replace hi : nodes.length ≤ i := by omega
      clear ht HR HB
      go_wp2
      go_ret
      exact HP.out
end Go.Proofs.Ytikgdhmnnnicmaa
