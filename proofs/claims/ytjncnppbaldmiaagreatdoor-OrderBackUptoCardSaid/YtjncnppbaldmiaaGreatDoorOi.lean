/- Whether a list is an order: the program's isOrder, the document's Is, the law's permutation. No condition. -/
import Derived.Test.YtjncnppbaldmiaaGreatDoorOp
import Derived.WalkSmall
namespace Go.Proofs.YtjncnppbaldmiaaGreatDoor
open Go.RowKit
theorem Tryz.infoBool : (Tryz.prog.info? 4).map (fun i => (i.zero, i.size, i.bytes)) = some (some (.bool false), 1, 1) := by kernel_rfl
theorem blkB_at {w : World} {b : Nat} {l : List Int} {i j : Nat} (h : w.heap[b]? = some (.cells (seenRow l i).toArray 4 (0, 0))) (hj : j < l.length) :
    w.cell? ⟨b, j, none⟩ = some (.bool (decide ((j : Int) ∈ l.take i))) ∧ w.frozen? ⟨b, j, none⟩ = false := by
  have hs : j < (seenRow l i).toArray.size := by simpa [seenRow] using hj
  obtain ⟨h1, h2, _⟩ := store_at h j hs
  refine ⟨?_, h2⟩
  rw [h1]
  congr 1
  exact seenRow_at hj
theorem blkB_set {w : World} {b : Nat} {l : List Int} {i j : Nat} (h : w.heap[b]? = some (.cells (seenRow l i).toArray 4 (0, 0))) (hi : i < l.length) (he : l[i] = (j : Int)) :
    (w.setCell ⟨b, j, none⟩ (.bool true)).heap[b]? = some (.cells (seenRow l (i + 1)).toArray 4 (0, 0)) := by
  rw [← seenRow_step hi he]
  simp [World.setCell, Array.getElem?_modify, h]
/-- What a call tells that asks whether a list is an order. -/
def IsPost (w : World) (b : Bool) (e : Ending) (w' : World) : Prop := e = .returned (.bool b) ∧ Below w.heap.size w w'
theorem made_bools {w : World} {n : Nat} (hl : n ≤ 1099511627776) :
    (Instr.makeSlice 69 (.int .i64 (n : Int)) (.int .i64 (n : Int))).run Tryz.prog w = .ok (.slice (some ⟨w.heap.size, 0, none⟩) n n) (w.alloc (.cells (madeCells #[.bool false] n) 4)) := by
  obtain ⟨i0, hi0, hz0, hz1, hz2⟩ := info_parts Tryz.infoBool
  have h := run_make (P := Tryz.prog) w 69 4 i0 _ Tryz.underlying69 hi0 hz0 .i64 .i64 (n : Int) (n : Int) (by omega) (by omega) (by rw [hz2]; omega) (by omega)
  rw [hz1] at h
  simpa [Value.cells] using h
theorem made_seen (w : World) (l : List Int) : (w.alloc (.cells (madeCells #[.bool false] l.length) 4)).heap[w.heap.size]? = some (.cells (seenRow l 0).toArray 4 (0, 0)) := by
  rw [heap_alloc_new]
  congr 2
  apply Array.ext'
  rw [toList_madeCells_one, seenRow_zero]
set_option maxHeartbeats 1000000 in
set_option maxRecDepth 100000 in
theorem isOrder_any {w : World} {ok : Nat → Prop} {v : Value} {l : List Int} (hs : Sl kint w ok v l) (hl : l.length ≤ 1099511627776) :
    Calls Tryz.prog 28 #[v] w (IsPost w (permB l && decide (l.length ≤ 16777216))) := by
  obtain ⟨A, c, rfl, hc, hm⟩ := hs.slice
  have hmk := made_bools (w := w) hl
  have HB0 := Aside.mk ((Below.refl w.heap.size w).alloc (Nat.le_refl _) (.cells (madeCells #[.bool false] l.length) 4))
  have HO0 := Aside.mk (made_seen w l)
  have HS := Aside.mk hs
  have HL := Aside.mk hl
  clear hs hl
  go_enter Tryz.func28, Tryz.ntmps28
  go_wp2
  clear hmk
  generalize w.alloc (.cells (madeCells #[.bool false] l.length) 4) = w0 at *
  have HP0 : Aside (PermAt l 0) := ⟨PermAt.zero l⟩
  go_loopg [11] l.length (fun kq v11 wr => ∃ (i : Nat), Aside (i + kq = l.length) ∧ v11 = .int .i64 i ∧ Aside (PermAt l i) ∧ Aside (Below w.heap.size w wr) ∧ Aside (wr.heap[w.heap.size]? = some (.cells (seenRow l i).toArray 4 (0, 0))))
  case atStart => exact ⟨0, ⟨by omega⟩, rfl, HP0, HB0, HO0⟩
  case round =>
    clear HO0 HB0 HP0
    obtain ⟨i, HI, rfl, HP, HB, HO⟩ := hrel
    by_cases hi : i < l.length
    · obtain ⟨b, o, e, k0⟩ := (HS.out.below HB.out).int i hi
      cases e
      have HM : Aside (l.length - (i + 1) < gk ∧ i + 1 + (l.length - (i + 1)) = l.length) := ⟨by have := HI.out; omega⟩
      have HRg := Aside.mk (fun h => (perm_range (l := l) hi h))
      have HTw := Aside.mk (fun h => (perm_twice (l := l) hi h))
      have HSt := Aside.mk (fun h0 h1 hn => HP.out.step hi h0 h1 hn)
      have HSet : Aside (∀ j : Nat, l[i] = (j : Int) → (wr.setCell ⟨w.heap.size, j, none⟩ (.bool true)).heap[w.heap.size]? = some (.cells (seenRow l (i + 1)).toArray 4 (0, 0))) := ⟨fun j e => blkB_set HO.out hi e⟩
      generalize l[i] = x at *
      by_cases h0 : x < 0
      · have HF := Aside.mk (HRg.out (.inl h0))
        have hd : decide (x < (0 : Int)) = true := decide_eq_true h0
        go_wp2
        go_ret
        exact ⟨by rw [HF.out]; rfl, HB.out⟩
      · have hd : decide (x < (0 : Int)) = false := decide_eq_false h0
        by_cases h1 : (l.length : Int) ≤ x
        · have HF := Aside.mk (HRg.out (.inr h1))
          have hd2 : decide ((l.length : Int) ≤ x) = true := decide_eq_true h1
          go_wp2
          go_ret
          exact ⟨by rw [HF.out]; rfl, HB.out⟩
        · have hd2 : decide ((l.length : Int) ≤ x) = false := decide_eq_false h1
          obtain ⟨j, rfl⟩ := Int.eq_ofNat_of_zero_le (show 0 ≤ x by omega)
          have hj : j < l.length := by omega
          obtain ⟨cj, fj⟩ := blkB_at HO.out hj
          have HLt := blk_lt HO.out
          by_cases hn : (j : Int) ∈ l.take i
          · have HF := Aside.mk (HTw.out hn)
            rw [decide_eq_true hn] at cj
            clear hn HTw HRg HSt HSet
            go_wp2
            go_ret
            exact ⟨by rw [HF.out]; rfl, HB.out⟩
          · rw [decide_eq_false hn] at cj
            have HP1 := Aside.mk (HSt.out (by omega) (by omega) hn)
            have HO1 := Aside.mk (HSet.out j rfl)
            have HB1 := Aside.mk (HB.out.setCell (p := ⟨w.heap.size, j, none⟩) (Nat.le_refl _) (.bool true))
            clear hn HTw HRg HSt HSet
            go_wp2
            go_roundg (l.length - (i + 1))
            case measure => exact HM.out.1
            case rel => exact ⟨i + 1, ⟨HM.out.2⟩, by go_num, HP1, HB1, HO1⟩
    · have HE : Aside (permB l = true) := ⟨by have e : i = l.length := by have := HI.out; omega
                                              subst e; exact HP.out.all⟩
      replace hi : l.length ≤ i := by omega
      obtain ⟨lb, hlb⟩ : ∃ lb, lb = decide (l.length ≤ 16777216) := ⟨_, rfl⟩
      have hd3 : decide ((l.length : Int) ≤ 16777216) = lb := by rw [hlb]; simp only [decide_eq_decide]; omega
      have hd4 : decide (l.length ≤ 16777216) = lb := hlb.symm
      have HD := Aside.mk hd4
      clear hlb
      go_wp2
      go_ret
      exact ⟨by rw [HE.out, HD.out]; rfl, HB.out⟩
set_option maxHeartbeats 1000000 in
set_option maxRecDepth 100000 in
theorem refIs_any {w : World} {ok : Nat → Prop} {v : Value} {l : List Int} (hs : Sl kint w ok v l) (hl : l.length ≤ 16777216) :
    Calls Tryz.prog 32 #[v] w (IsPost w (permB l)) := by
  obtain ⟨A, c, rfl, hc, hm⟩ := hs.slice
  have hmk := made_bools (w := w) (n := l.length) (by omega)
  have HB0 := Aside.mk ((Below.refl w.heap.size w).alloc (Nat.le_refl _) (.cells (madeCells #[.bool false] l.length) 4))
  have HO0 := Aside.mk (made_seen w l)
  have HS := Aside.mk hs
  have HL := Aside.mk hl
  clear hs hl
  go_enter Tryz.func32, Tryz.ntmps32
  go_wp2
  clear hmk
  generalize w.alloc (.cells (madeCells #[.bool false] l.length) 4) = w0 at *
  have HP0 : Aside (PermAt l 0) := ⟨PermAt.zero l⟩
  go_loopg [4] l.length (fun kq v4 wr => ∃ (i : Nat), Aside (i + kq = l.length) ∧ v4 = .int .i64 i ∧ Aside (PermAt l i) ∧ Aside (Below w.heap.size w wr) ∧ Aside (wr.heap[w.heap.size]? = some (.cells (seenRow l i).toArray 4 (0, 0))))
  case atStart => exact ⟨0, ⟨by omega⟩, rfl, HP0, HB0, HO0⟩
  case round =>
    clear HO0 HB0 HP0
    obtain ⟨i, HI, rfl, HP, HB, HO⟩ := hrel
    by_cases hi : i < l.length
    · obtain ⟨b, o, e, k0⟩ := (HS.out.below HB.out).int i hi
      cases e
      have HM : Aside (l.length - (i + 1) < gk ∧ i + 1 + (l.length - (i + 1)) = l.length) := ⟨by have := HI.out; omega⟩
      have HRg := Aside.mk (fun h => (perm_range (l := l) hi h))
      have HTw := Aside.mk (fun h => (perm_twice (l := l) hi h))
      have HSt := Aside.mk (fun h0 h1 hn => HP.out.step hi h0 h1 hn)
      have HSet : Aside (∀ j : Nat, l[i] = (j : Int) → (wr.setCell ⟨w.heap.size, j, none⟩ (.bool true)).heap[w.heap.size]? = some (.cells (seenRow l (i + 1)).toArray 4 (0, 0))) := ⟨fun j e => blkB_set HO.out hi e⟩
      generalize l[i] = x at *
      by_cases h0 : x < 0
      · have HF := Aside.mk (HRg.out (.inl h0))
        have hd : decide (x < (0 : Int)) = true := decide_eq_true h0
        go_wp2
        go_ret
        exact ⟨by rw [HF.out]; rfl, HB.out⟩
      · have hd : decide (x < (0 : Int)) = false := decide_eq_false h0
        by_cases h1 : (l.length : Int) ≤ x
        · have HF := Aside.mk (HRg.out (.inr h1))
          have hd2 : decide ((l.length : Int) ≤ x) = true := decide_eq_true h1
          go_wp2
          go_ret
          exact ⟨by rw [HF.out]; rfl, HB.out⟩
        · have hd2 : decide ((l.length : Int) ≤ x) = false := decide_eq_false h1
          obtain ⟨j, rfl⟩ := Int.eq_ofNat_of_zero_le (show 0 ≤ x by omega)
          have hj : j < l.length := by omega
          obtain ⟨cj, fj⟩ := blkB_at HO.out hj
          have HLt := blk_lt HO.out
          by_cases hn : (j : Int) ∈ l.take i
          · have HF := Aside.mk (HTw.out hn)
            rw [decide_eq_true hn] at cj
            clear hn HTw HRg HSt HSet
            go_wp2
            go_ret
            exact ⟨by rw [HF.out]; rfl, HB.out⟩
          · rw [decide_eq_false hn] at cj
            have HP1 := Aside.mk (HSt.out (by omega) (by omega) hn)
            have HO1 := Aside.mk (HSet.out j rfl)
            have HB1 := Aside.mk (HB.out.setCell (p := ⟨w.heap.size, j, none⟩) (Nat.le_refl _) (.bool true))
            clear hn HTw HRg HSt HSet
            go_wp2
            go_roundg (l.length - (i + 1))
            case measure => exact HM.out.1
            case rel => exact ⟨i + 1, ⟨HM.out.2⟩, by go_num, HP1, HB1, HO1⟩
    · have HE : Aside (permB l = true) := ⟨by have e : i = l.length := by have := HI.out; omega
                                              subst e; exact HP.out.all⟩
      replace hi : l.length ≤ i := by omega
      go_wp2
      go_ret
      exact ⟨by rw [HE.out]; rfl, HB.out⟩
set_option maxHeartbeats 1000000 in
set_option maxRecDepth 100000 in
theorem permutation_any {w : World} {ok : Nat → Prop} {v : Value} {l : List Int} (hs : Sl kint w ok v l) (hl : l.length ≤ 16777216) :
    Calls Tryz.prog 20 #[v] w (IsPost w (permB l)) := by
  obtain ⟨A, c, rfl, hc, hm⟩ := hs.slice
  have hmk := made_bools (w := w) (n := l.length) (by omega)
  have HB0 := Aside.mk ((Below.refl w.heap.size w).alloc (Nat.le_refl _) (.cells (madeCells #[.bool false] l.length) 4))
  have HO0 := Aside.mk (made_seen w l)
  have HS := Aside.mk hs
  have HL := Aside.mk hl
  clear hs hl
  go_enter Tryz.func20, Tryz.ntmps20
  go_wp2
  clear hmk
  generalize w.alloc (.cells (madeCells #[.bool false] l.length) 4) = w0 at *
  have HP0 : Aside (PermAt l 0) := ⟨PermAt.zero l⟩
  go_loopg [4] l.length (fun kq v4 wr => ∃ (i : Nat), Aside (i + kq = l.length) ∧ v4 = .int .i64 i ∧ Aside (PermAt l i) ∧ Aside (Below w.heap.size w wr) ∧ Aside (wr.heap[w.heap.size]? = some (.cells (seenRow l i).toArray 4 (0, 0))))
  case atStart => exact ⟨0, ⟨by omega⟩, rfl, HP0, HB0, HO0⟩
  case round =>
    clear HO0 HB0 HP0
    obtain ⟨i, HI, rfl, HP, HB, HO⟩ := hrel
    by_cases hi : i < l.length
    · obtain ⟨b, o, e, k0⟩ := (HS.out.below HB.out).int i hi
      cases e
      have HM : Aside (l.length - (i + 1) < gk ∧ i + 1 + (l.length - (i + 1)) = l.length) := ⟨by have := HI.out; omega⟩
      have HRg := Aside.mk (fun h => (perm_range (l := l) hi h))
      have HTw := Aside.mk (fun h => (perm_twice (l := l) hi h))
      have HSt := Aside.mk (fun h0 h1 hn => HP.out.step hi h0 h1 hn)
      have HSet : Aside (∀ j : Nat, l[i] = (j : Int) → (wr.setCell ⟨w.heap.size, j, none⟩ (.bool true)).heap[w.heap.size]? = some (.cells (seenRow l (i + 1)).toArray 4 (0, 0))) := ⟨fun j e => blkB_set HO.out hi e⟩
      generalize l[i] = x at *
      by_cases h0 : x < 0
      · have HF := Aside.mk (HRg.out (.inl h0))
        have hd : decide (x < (0 : Int)) = true := decide_eq_true h0
        go_wp2
        go_ret
        exact ⟨by rw [HF.out]; rfl, HB.out⟩
      · have hd : decide (x < (0 : Int)) = false := decide_eq_false h0
        by_cases h1 : (l.length : Int) ≤ x
        · have HF := Aside.mk (HRg.out (.inr h1))
          have hd2 : decide ((l.length : Int) ≤ x) = true := decide_eq_true h1
          go_wp2
          go_ret
          exact ⟨by rw [HF.out]; rfl, HB.out⟩
        · have hd2 : decide ((l.length : Int) ≤ x) = false := decide_eq_false h1
          obtain ⟨j, rfl⟩ := Int.eq_ofNat_of_zero_le (show 0 ≤ x by omega)
          have hj : j < l.length := by omega
          obtain ⟨cj, fj⟩ := blkB_at HO.out hj
          have HLt := blk_lt HO.out
          by_cases hn : (j : Int) ∈ l.take i
          · have HF := Aside.mk (HTw.out hn)
            rw [decide_eq_true hn] at cj
            clear hn HTw HRg HSt HSet
            go_wp2
            go_ret
            exact ⟨by rw [HF.out]; rfl, HB.out⟩
          · rw [decide_eq_false hn] at cj
            have HP1 := Aside.mk (HSt.out (by omega) (by omega) hn)
            have HO1 := Aside.mk (HSet.out j rfl)
            have HB1 := Aside.mk (HB.out.setCell (p := ⟨w.heap.size, j, none⟩) (Nat.le_refl _) (.bool true))
            clear hn HTw HRg HSt HSet
            go_wp2
            go_roundg (l.length - (i + 1))
            case measure => exact HM.out.1
            case rel => exact ⟨i + 1, ⟨HM.out.2⟩, by go_num, HP1, HB1, HO1⟩
    · have HE : Aside (permB l = true) := ⟨by have e : i = l.length := by have := HI.out; omega
                                              subst e; exact HP.out.all⟩
      replace hi : l.length ≤ i := by omega
      go_wp2
      go_ret
      exact ⟨by rw [HE.out]; rfl, HB.out⟩
end Go.Proofs.YtjncnppbaldmiaaGreatDoor
