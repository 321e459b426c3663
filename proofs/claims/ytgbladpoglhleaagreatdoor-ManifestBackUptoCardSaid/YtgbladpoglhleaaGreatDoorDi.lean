/- The box of *manifest under Decode: its three lists, each the call's own. No condition. -/
import Derived.Test.YtgbladpoglhleaaGreatDoorNv
import Derived.Test.YtgbladpoglhleaaGreatDoorEm
namespace Go.Proofs.YtgbladpoglhleaaGreatDoor
open Go.RowKit
structure MI (lo : Nat) (w0 W : World) (M : Nat) (gen n : Int) (cv sv dv : Value) (cs : List Int) (ss : List Info) (ds : List Int) : Prop where
  bel : Below lo w0 W
  size : lo ≤ W.heap.size
  low : lo ≤ M
  box : W.heap[M]? = some (.cells #[.int .i64 gen, .int .i64 n, cv, sv, dv] 96 (0, 0))
  oc : W.ownsRow lo 3 1 cv cs.length (ints cs)
  os : W.ownsRow lo 54 3 sv ss.length (infoCells ss)
  od : W.ownsRow lo 3 1 dv ds.length (ints ds)
  c1 : cv.ownBlock ≠ some M
  s1 : sv.ownBlock ≠ some M
  d1 : dv.ownBlock ≠ some M
  ncs : ∀ q, cv.ownBlock = some q → sv.ownBlock ≠ some q
  ncd : ∀ q, cv.ownBlock = some q → dv.ownBlock ≠ some q
  nsd : ∀ q, sv.ownBlock = some q → dv.ownBlock ≠ some q
section
variable {lo : Nat} {w0 W W' w9 : World} {M : Nat} {gen n : Int} {cv sv dv v1 : Value} {cs : List Int} {ss : List Info} {ds : List Int}
theorem MI.below (h : MI lo w0 W M gen n cv sv dv cs ss ds) (hb : Below W.heap.size W W') : MI lo w0 W' M gen n cv sv dv cs ss ds :=
  ⟨h.bel.trans (hb.mono h.size), Nat.le_trans h.size hb.size, h.low, bblk hb h.box, ownsRow_move h.oc fun q e => hb.block q (h.oc.lt q e).2, ownsRow_move h.os fun q e => hb.block q (h.os.lt q e).2, ownsRow_move h.od fun q e => hb.block q (h.od.lt q e).2, h.c1, h.s1, h.d1, h.ncs, h.ncd, h.nsd⟩
/-- Nothing but the box R, not among these, is written, and new blocks. -/
theorem MI.far (h : MI lo w0 W M gen n cv sv dv cs ss ds) {R : Nat} (hR : lo ≤ R) (hM : M ≠ R) (rc : cv.ownBlock ≠ some R) (rs : sv.ownBlock ≠ some R) (rd : dv.ownBlock ≠ some R) (hs : W'.heap.size = W.heap.size) (hf : ∀ q, q ≠ R → W'.heap[q]? = W.heap[q]?) (ho : W'.os = W.os) (ht : W'.tape = W.tape) (hu : W'.output = W.output) : MI lo w0 W' M gen n cv sv dv cs ss ds :=
  ⟨⟨ho.trans h.bel.os, ht.trans h.bel.tape, hu.trans h.bel.output, by rw [hs]; exact h.bel.size, fun q hq => (hf q (by omega)).trans (h.bel.block q hq)⟩, by rw [hs]; exact h.size, h.low, (hf M hM).trans h.box, ownsRow_move h.oc fun q e => hf q fun e2 => rc (e2 ▸ e), ownsRow_move h.os fun q e => hf q fun e2 => rs (e2 ▸ e), ownsRow_move h.od fun q e => hf q fun e2 => rd (e2 ▸ e), h.c1, h.s1, h.d1, h.ncs, h.ncd, h.nsd⟩
theorem MI.cut (h : MI lo w0 W M gen n cv sv dv cs ss ds) (x : Int) (ho : w9.ownsRow lo 3 1 v1 (cs.length + 1) (ints cs ++ [.int .i64 x])) (hg : W.grownBy w9 cv.ownBlock) (hat : Moved W cv v1) :
    w9.heap[M]? = some (.cells #[.int .i64 gen, .int .i64 n, cv, sv, dv] 96 (0, 0)) ∧ MI lo w0 (w9.setCell ⟨M, 2, none⟩ v1) M gen n v1 sv dv (cs ++ [x]) ss ds := by
  have hM := blk_lt h.box
  have hMv : M < w9.heap.size := Nat.lt_of_lt_of_le hM hg.size
  have hlow := h.low
  have hbox : w9.heap[M]? = some (.cells #[.int .i64 gen, .int .i64 n, cv, sv, dv] 96 (0, 0)) := (hg.block M hM fun e => h.c1 e.symm).trans h.box
  have hfar : ∀ q, q ≠ M → (w9.setCell ⟨M, 2, none⟩ v1).heap[q]? = w9.heap[q]? := fun q hq => Below.heap_setCell _ _ _ _ hq
  have h1 : v1.ownBlock ≠ some M := fun e => by
    rcases hat with h2 | ⟨k, h2, hk⟩
    · rw [h2] at e; exact h.c1 e
    · rw [h2] at e; have := Option.some.inj e; omega
  have hb9 : Below lo w0 w9 := h.bel.grown hg h.size fun q e => (h.oc.lt q e).1
  have hne : ∀ (u : Value) (q : Nat), (∀ q, u.ownBlock = some q → q < W.heap.size) → (∀ q, cv.ownBlock = some q → u.ownBlock ≠ some q) → v1.ownBlock = some q → u.ownBlock ≠ some q := fun u q hl hn e e2 => by
    rcases hat with h2 | ⟨k, h2, hk⟩
    · rw [h2] at e; exact hn q e e2
    · rw [h2] at e; have := Option.some.inj e; have := hl q e2; omega
  have hA : ∀ q, sv.ownBlock = some q → (w9.setCell ⟨M, 2, none⟩ v1).heap[q]? = W.heap[q]? := fun q e => (hfar q fun e2 => h.s1 (e2 ▸ e)).trans (hg.block q (h.os.lt q e).2 fun e2 => h.ncs q e2.symm e)
  have hB : ∀ q, dv.ownBlock = some q → (w9.setCell ⟨M, 2, none⟩ v1).heap[q]? = W.heap[q]? := fun q e => (hfar q fun e2 => h.d1 (e2 ▸ e)).trans (hg.block q (h.od.lt q e).2 fun e2 => h.ncd q e2.symm e)
  have hown : (w9.setCell ⟨M, 2, none⟩ v1).ownsRow lo 3 1 v1 (cs.length + 1) (ints cs ++ [.int .i64 x]) := ownsRow_move ho fun q e => hfar q fun e2 => h1 (e2 ▸ e)
  have hrow : (w9.setCell ⟨M, 2, none⟩ v1).ownsRow lo 3 1 v1 (cs ++ [x]).length (ints (cs ++ [x])) := by
    rw [List.length_append, ints_snoc]
    exact hown
  refine ⟨hbox, ⟨hb9.setCell hlow _, by simp; exact Nat.le_trans h.size hg.size, hlow, Lib.heap_setCell_same hbox v1, hrow, ownsRow_move h.os hA, ownsRow_move h.od hB, h1, h.s1, h.d1, fun q e => hne sv q (fun q e => (h.os.lt q e).2) h.ncs e, fun q e => hne dv q (fun q e => (h.od.lt q e).2) h.ncd e, h.nsd⟩⟩
theorem MI.shard (h : MI lo w0 W M gen n cv sv dv cs ss ds) (x : Info) (ho : w9.ownsRow lo 54 3 v1 (ss.length + 1) (infoCells ss ++ [.int .i64 x.Size, .int .u32 x.Sum.toNat, .int .i64 x.Arcs])) (hg : W.grownBy w9 sv.ownBlock) (hat : Moved W sv v1) :
    w9.heap[M]? = some (.cells #[.int .i64 gen, .int .i64 n, cv, sv, dv] 96 (0, 0)) ∧ MI lo w0 (w9.setCell ⟨M, 3, none⟩ v1) M gen n cv v1 dv cs (ss ++ [x]) ds := by
  have hM := blk_lt h.box
  have hMv : M < w9.heap.size := Nat.lt_of_lt_of_le hM hg.size
  have hlow := h.low
  have hbox : w9.heap[M]? = some (.cells #[.int .i64 gen, .int .i64 n, cv, sv, dv] 96 (0, 0)) := (hg.block M hM fun e => h.s1 e.symm).trans h.box
  have hfar : ∀ q, q ≠ M → (w9.setCell ⟨M, 3, none⟩ v1).heap[q]? = w9.heap[q]? := fun q hq => Below.heap_setCell _ _ _ _ hq
  have h1 : v1.ownBlock ≠ some M := fun e => by
    rcases hat with h2 | ⟨k, h2, hk⟩
    · rw [h2] at e; exact h.s1 e
    · rw [h2] at e; have := Option.some.inj e; omega
  have hb9 : Below lo w0 w9 := h.bel.grown hg h.size fun q e => (h.os.lt q e).1
  have hne : ∀ (u : Value) (q : Nat), (∀ q, u.ownBlock = some q → q < W.heap.size) → (∀ q, sv.ownBlock = some q → u.ownBlock ≠ some q) → v1.ownBlock = some q → u.ownBlock ≠ some q := fun u q hl hn e e2 => by
    rcases hat with h2 | ⟨k, h2, hk⟩
    · rw [h2] at e; exact hn q e e2
    · rw [h2] at e; have := Option.some.inj e; have := hl q e2; omega
  have hA : ∀ q, cv.ownBlock = some q → (w9.setCell ⟨M, 3, none⟩ v1).heap[q]? = W.heap[q]? := fun q e => (hfar q fun e2 => h.c1 (e2 ▸ e)).trans (hg.block q (h.oc.lt q e).2 fun e2 => h.ncs q e e2.symm)
  have hB : ∀ q, dv.ownBlock = some q → (w9.setCell ⟨M, 3, none⟩ v1).heap[q]? = W.heap[q]? := fun q e => (hfar q fun e2 => h.d1 (e2 ▸ e)).trans (hg.block q (h.od.lt q e).2 fun e2 => h.nsd q e2.symm e)
  have hown : (w9.setCell ⟨M, 3, none⟩ v1).ownsRow lo 54 3 v1 (ss.length + 1) (infoCells ss ++ [.int .i64 x.Size, .int .u32 x.Sum.toNat, .int .i64 x.Arcs]) := ownsRow_move ho fun q e => hfar q fun e2 => h1 (e2 ▸ e)
  have hrow : (w9.setCell ⟨M, 3, none⟩ v1).ownsRow lo 54 3 v1 (ss ++ [x]).length (infoCells (ss ++ [x])) := by
    rw [List.length_append, infoCells_snoc]
    exact hown
  refine ⟨hbox, ⟨hb9.setCell hlow _, by simp; exact Nat.le_trans h.size hg.size, hlow, Lib.heap_setCell_same hbox v1, ownsRow_move h.oc hA, hrow, ownsRow_move h.od hB, h.c1, h1, h.d1, fun q e e2 => hne cv q (fun q e => (h.oc.lt q e).2) (fun q e e2 => h.ncs q e2 e) e2 e, h.ncd, fun q e => hne dv q (fun q e => (h.od.lt q e).2) h.nsd e⟩⟩
theorem MI.deg (h : MI lo w0 W M gen n cv sv dv cs ss ds) (x : Int) (ho : w9.ownsRow lo 3 1 v1 (ds.length + 1) (ints ds ++ [.int .i64 x])) (hg : W.grownBy w9 dv.ownBlock) (hat : Moved W dv v1) :
    w9.heap[M]? = some (.cells #[.int .i64 gen, .int .i64 n, cv, sv, dv] 96 (0, 0)) ∧ MI lo w0 (w9.setCell ⟨M, 4, none⟩ v1) M gen n cv sv v1 cs ss (ds ++ [x]) := by
  have hM := blk_lt h.box
  have hMv : M < w9.heap.size := Nat.lt_of_lt_of_le hM hg.size
  have hlow := h.low
  have hbox : w9.heap[M]? = some (.cells #[.int .i64 gen, .int .i64 n, cv, sv, dv] 96 (0, 0)) := (hg.block M hM fun e => h.d1 e.symm).trans h.box
  have hfar : ∀ q, q ≠ M → (w9.setCell ⟨M, 4, none⟩ v1).heap[q]? = w9.heap[q]? := fun q hq => Below.heap_setCell _ _ _ _ hq
  have h1 : v1.ownBlock ≠ some M := fun e => by
    rcases hat with h2 | ⟨k, h2, hk⟩
    · rw [h2] at e; exact h.d1 e
    · rw [h2] at e; have := Option.some.inj e; omega
  have hb9 : Below lo w0 w9 := h.bel.grown hg h.size fun q e => (h.od.lt q e).1
  have hne : ∀ (u : Value) (q : Nat), (∀ q, u.ownBlock = some q → q < W.heap.size) → (∀ q, dv.ownBlock = some q → u.ownBlock ≠ some q) → v1.ownBlock = some q → u.ownBlock ≠ some q := fun u q hl hn e e2 => by
    rcases hat with h2 | ⟨k, h2, hk⟩
    · rw [h2] at e; exact hn q e e2
    · rw [h2] at e; have := Option.some.inj e; have := hl q e2; omega
  have hA : ∀ q, cv.ownBlock = some q → (w9.setCell ⟨M, 4, none⟩ v1).heap[q]? = W.heap[q]? := fun q e => (hfar q fun e2 => h.c1 (e2 ▸ e)).trans (hg.block q (h.oc.lt q e).2 fun e2 => h.ncd q e e2.symm)
  have hB : ∀ q, sv.ownBlock = some q → (w9.setCell ⟨M, 4, none⟩ v1).heap[q]? = W.heap[q]? := fun q e => (hfar q fun e2 => h.s1 (e2 ▸ e)).trans (hg.block q (h.os.lt q e).2 fun e2 => h.nsd q e e2.symm)
  have hown : (w9.setCell ⟨M, 4, none⟩ v1).ownsRow lo 3 1 v1 (ds.length + 1) (ints ds ++ [.int .i64 x]) := ownsRow_move ho fun q e => hfar q fun e2 => h1 (e2 ▸ e)
  have hrow : (w9.setCell ⟨M, 4, none⟩ v1).ownsRow lo 3 1 v1 (ds ++ [x]).length (ints (ds ++ [x])) := by
    rw [List.length_append, ints_snoc]
    exact hown
  refine ⟨hbox, ⟨hb9.setCell hlow _, by simp; exact Nat.le_trans h.size hg.size, hlow, Lib.heap_setCell_same hbox v1, ownsRow_move h.oc hA, ownsRow_move h.os hB, hrow, h.c1, h.s1, h1, h.ncs, fun q e e2 => hne cv q (fun q e => (h.oc.lt q e).2) (fun q e e2 => h.ncd q e2 e) e2 e, fun q e e2 => hne sv q (fun q e => (h.os.lt q e).2) (fun q e e2 => h.nsd q e2 e) e2 e⟩⟩
end
end Go.Proofs.YtgbladpoglhleaaGreatDoor
