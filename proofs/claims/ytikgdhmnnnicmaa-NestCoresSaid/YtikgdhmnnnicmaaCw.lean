/- The reference's here and Cores walked: every graph's lists. No condition. -/
import Derived.Test.YtikgdhmnnnicmaaCl
import Derived.Test.YtikgdhmnnnicmaaRe
import Derived.Test.YtikgdhmnnnicmaaNt
namespace Go.Proofs.Ytikgdhmnnnicmaa
open Go.RowKit
theorem hereF_succ {l : List Int} {left : List Bool} {i : Nat} (hi : i < l.length) : hereF (l.take (i + 1)) left = if left.getD l[i].toNat false = true then hereF (l.take i) left + 1 else hereF (l.take i) left := by
  unfold hereF
  rw [List.take_add_one, List.getElem?_eq_getElem hi, Option.toList_some, List.filter_append, List.length_append]
  simp only [List.filter_cons, List.filter_nil]
  split <;> simp_all
set_option maxHeartbeats 1000000 in
set_option maxRecDepth 100000 in
theorem here_any {w : World} {ok ok2 : Nat → Prop} {v1 v2 : Value} {l : List Int} {left : List Bool} (h1 : Sl kint w ok v1 l) (h2 : Sl kbool w ok2 v2 left) (hb : ∀ u ∈ l, 0 ≤ u ∧ u < left.length) : Calls Try.prog 53 #[v1, v2] w fun e w' => e = .returned (.int .i64 (hereF l left)) ∧ w = w' := by
  obtain ⟨A, c, rfl, hc, hm⟩ := h1.slice
  obtain ⟨A2, c2, rfl, hc2, hm2⟩ := h2.slice
  have H1 := Aside.mk h1
  have H2 := Aside.mk h2
  have HB := Aside.mk hb
  have H0 : Aside (hereF (l.take 0) left = 0) := ⟨by simp [hereF]⟩
  clear h1 h2 hb
  go_enter Try.func53, Try.ntmps53
  go_wp2
  go_loopg [5, 6] l.length (fun kq v5 iv wr => ∃ (i : Nat), Aside (i + kq = l.length) ∧ iv = .int .i64 i ∧ v5 = .int .i64 (hereF (l.take i) left) ∧ w = wr)
  case atStart => exact ⟨0, ⟨by omega⟩, rfl, by rw [H0.out]; rfl, rfl⟩
  case round =>
    clear H0
    obtain ⟨i, HI, rfl, rfl, rfl⟩ := hrel
    by_cases hi : i < l.length
    · obtain ⟨b, o, e, k0⟩ := H1.out.int i hi
      cases e
      have hx := HB.out l[i] (List.getElem_mem hi)
      have HT := Aside.mk (hereF_succ (left := left) hi)
      have hle : hereF (l.take i) left ≤ i := Nat.le_trans (hereF_le _ _) (by simp; omega)
      generalize hereF (l.take i) left = hv at *
      generalize l[i] = X at *
      obtain ⟨x, rfl⟩ := Int.eq_ofNat_of_zero_le hx.1
      have hxl : x < left.length := by omega
      obtain ⟨b2, o2, e, k2⟩ := H2.out.bool x hxl
      cases e
      have hg : left.getD x false = left[x] := by rw [List.getD_eq_getElem?_getD, List.getElem?_eq_getElem hxl]; rfl
      have ht := HT.out
      rw [Int.toNat_natCast, hg] at ht
      have HIN : Aside (l.length - (i + 1) < gk) := ⟨by have := HI.out; omega⟩
      generalize left[x] = bx at *
      clear hx HT hg
      cases bx with
      | true =>
        rw [if_pos rfl] at ht
        have HT := Aside.mk ht
        clear ht
        go_wp2
        go_roundg (l.length - (i + 1))
        case measure => exact HIN.out
        case rel => exact ⟨i + 1, ⟨by omega⟩, by go_num, by rw [HT.out] <;> go_num, rfl⟩
      | false =>
        rw [if_neg (by simp)] at ht
        have HT := Aside.mk ht
        clear ht
        go_wp2
        go_roundg (l.length - (i + 1))
        case measure => exact HIN.out
        case rel => exact ⟨i + 1, ⟨by omega⟩, by go_num, by rw [HT.out], rfl⟩
    · have ht : l.take i = l := List.take_of_length_le (by omega)
      replace hi : l.length ≤ i := by omega
      rw [ht]
      clear ht
      go_wp2
      go_ret
      exact ⟨rfl, rfl⟩
/-- The marks and the cores in memory. -/
structure CB (w : World) (cb lb n : Nat) (wr : World) (core : List Int) (left : List Bool) : Prop where
  c : wr.heap[cb]? = some (.cells (ints core).toArray 3 (0, 0))
  l : wr.heap[lb]? = some (.cells (bools left).toArray 4 (0, 0))
  cl : core.length = n
  ll : left.length = n
  below : Below w.heap.size w wr
  cB : w.heap.size ≤ cb
  lB : w.heap.size ≤ lb
  ne : cb ≠ lb
theorem CB.setC {w wr : World} {cb lb n : Nat} {core : List Int} {left : List Bool} (h : CB w cb lb n wr core left) {x : Nat} (hx : x < n) (y : Int) : CB w cb lb n (wr.setCell ⟨cb, x, none⟩ (.int .i64 y)) (core.set x y) left :=
  ⟨(ints_blk h.c (by rw [h.cl]; exact hx)).2.2 y, (Below.heap_setCell _ _ _ _ (Ne.symm h.ne)).trans h.l, by rw [List.length_set]; exact h.cl, h.ll, h.below.setCell h.cB _, h.cB, h.lB, h.ne⟩
theorem bool_blk2 {w : World} {ib x : Nat} {ms : List Bool} (h : w.heap[ib]? = some (.cells (bools ms).toArray 4 (0, 0))) (hx : x < ms.length) (b : Bool) : w.cell? ⟨ib, x, none⟩ = some (.bool (ms.getD x false)) ∧ w.frozen? ⟨ib, x, none⟩ = false ∧
    (w.setCell ⟨ib, x, none⟩ (.bool b)).heap[ib]? = some (.cells (bools (ms.set x b)).toArray 4 (0, 0)) := by
  refine ⟨cell_blk h ?_, by simp [World.frozen?, h], ?_⟩
  · simp [bools, hx]
  · simp [World.setCell, Array.getElem?_modify, h, bools, List.map_set]
theorem CB.setL {w wr : World} {cb lb n : Nat} {core : List Int} {left : List Bool} (h : CB w cb lb n wr core left) {x : Nat} (hx : x < n) (b : Bool) : CB w cb lb n (wr.setCell ⟨lb, x, none⟩ (.bool b)) core (left.set x b) :=
  ⟨(Below.heap_setCell _ _ _ _ h.ne).trans h.c, (bool_blk2 h.l (by rw [h.ll]; exact hx) b).2.2, h.cl, by rw [List.length_set]; exact h.ll, h.below.setCell h.lB _, h.cB, h.lB, h.ne⟩
/-- The marks as a slice. -/
theorem CB.slL {w wr : World} {cb lb n : Nat} {core : List Int} {left : List Bool} (h : CB w cb lb n wr core left) (hn : n ≤ 16777216) : Sl kbool wr (fun _ => True) (.slice (some ⟨lb, 0, none⟩) n n) left := by
  have hl := h.ll
  refine ⟨some ⟨lb, 0, none⟩, n, by rw [hl], by omega, by omega, fun hp => ⟨lb, 0, rfl, trivial, blk_lt h.l, fun i x hx => ⟨_, rfl, fun j u hu => ?_⟩⟩⟩
  have hi := (List.getElem?_eq_some_iff.1 hx).1
  have h1 := (bool_blk2 h.l hi true).1
  rw [List.getD_eq_getElem?_getD, hx] at h1
  have hu : ([Value.bool x] : List Value)[j]? = some u := hu
  cases j with
  | zero => simp only [List.getElem?_cons_zero, Option.some.injEq] at hu; subst hu; simpa [kbool, flat] using h1
  | succ j => simp at hu
end Go.Proofs.Ytikgdhmnnnicmaa
