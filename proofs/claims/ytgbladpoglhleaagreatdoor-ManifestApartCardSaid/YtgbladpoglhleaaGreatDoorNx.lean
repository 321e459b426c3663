/- slices.Index and slices.Contains at the table of shapes. No condition. -/
import Derived.Test.YtgbladpoglhleaaGreatDoorLa
import Derived.Test.YtgbladpoglhleaaGreatDoorNa
namespace Go.Proofs.YtgbladpoglhleaaGreatDoor
open Go.RowKit Go.Lib
def shapesL : List (List UInt8 × Int) := [([109, 97, 110, 105, 102, 101, 115, 116], 0), ([99, 111, 114, 101], 1), ([111, 114, 100, 101, 114], 1), ([110, 101, 115, 116], 1), ([99, 107, 112, 116], 1), ([115], 2), ([120], 2), ([120], 3)]
def isShape (x : List UInt8) (n : Int) : Bool := shapesL.any fun p => decide (p.1 = x) && (p.2 == n)
/-- The table, cell for cell. -/
structure ShCells (w : World) : Prop where
  at_ : ∀ i (h : i < shapesL.length), w.cell? ⟨0, i * 2, none⟩ = some (.string ⟨shapesL[i].1.toArray⟩) ∧ w.cell? ⟨0, i * 2 + 1, none⟩ = some (.int .i64 shapesL[i].2)
set_option maxHeartbeats 1000000 in
set_option maxRecDepth 100000 in
theorem index_any {w : World} (T : ShCells w) (x : List UInt8) (n : Int) : Calls Tryz.prog 100 #[.slice (some ⟨0, 0, none⟩) 8 8, .agg #[.string ⟨x.toArray⟩, .int .i64 n]] w fun e w' => ∃ k : Int, e = .returned (.int .i64 k) ∧ decide (0 ≤ k) = isShape x n ∧ Below w.heap.size w w' := by
  have HB := Aside.mk fun q => bdrew ((Below.refl w.heap.size w).alloc (Nat.le_refl _) (.cells #[.string ⟨x.toArray⟩, .int .i64 n] 120)) q
  have HA0 := Aside.mk ((Below.refl w.heap.size w).alloc (Nat.le_refl _) (.cells #[.string ⟨x.toArray⟩, .int .i64 n] 120))
  have HT := Aside.mk T
  have hl8 : shapesL.length = 8 := rfl
  have HL8 := Aside.mk hl8
  clear T hl8
  have hlt : ∀ W : World, W = w → True := fun _ _ => trivial
  go_enter Tryz.func100, Tryz.ntmps100
  go_wp2
  go_loopg [8] 8 (fun kq v8 wr => ∃ (i : Nat), Aside (i + kq = 8) ∧ v8 = .int .i64 i ∧ Aside ((shapesL.take i).any (fun p => decide (p.1 = x) && (p.2 == n)) = false) ∧ Same (w.alloc (.cells #[.string ⟨x.toArray⟩, .int .i64 n] 120)) wr)
  case atStart => exact ⟨0, ⟨rfl⟩, rfl, ⟨rfl⟩, Same.refl _⟩
  case round =>
    obtain ⟨i, HI, rfl, HA, ⟨⟨q, rfl⟩⟩⟩ := hrel
    by_cases hi : i < 8
    · have hil : i < shapesL.length := hi
      obtain ⟨k0, k1⟩ := HT.out.at_ i hil
      have b0 := bcell HA0.out k0
      have b1 := bcell HA0.out k1
      have HM : Aside (8 - (i + 1) < gk ∧ i + 1 + (8 - (i + 1)) = 8) := ⟨by have := HI.out; omega⟩
      have HS := Aside.mk (take_snoc' hil)
      have HMem := Aside.mk (List.getElem_mem hil)
      generalize shapesL[i] = y at *
      obtain ⟨sx, sn⟩ := y
      simp only at k0 k1 b0 b1
      clear k0 k1
      by_cases h : x = sx ∧ n = sn
      · obtain ⟨rfl, rfl⟩ := h
        have HR : Aside (decide (0 ≤ (i : Int)) = isShape x n) := ⟨by
          have : isShape x n = true := by unfold isShape; rw [List.any_eq_true]; exact ⟨_, HMem.out, by simp⟩
          rw [this]; exact decide_eq_true (by omega)⟩
        go_wp2
        go_quiet (fail)
        rw [World.drewN_drewN]
        go_wp2
        go_ret
        exact ⟨_, rfl, HR.out, HB.out _⟩
      · have HA2 : Aside ((shapesL.take (i + 1)).any (fun p => decide (p.1 = x) && (p.2 == n)) = false) := ⟨by
          rw [HS.out, List.any_append, HA.out]
          simp only [List.any_cons, List.any_nil, Bool.or_false, Bool.false_or]
          by_cases h1 : x = sx
          · have h2 : n ≠ sn := fun e => h ⟨h1, e⟩
            simp [h1, Ne.symm h2]
          · simp [Ne.symm h1]⟩
        by_cases h1 : x = sx
        · have h2 : (n == sn) = false := beq_false_of_ne fun e => h ⟨h1, e⟩
          subst h1
          clear h
          go_wp2
          go_quiet (fail)
          rw [World.drewN_drewN]
          go_wp2
          go_roundg (8 - (i + 1))
          case measure => exact HM.out.1
          case rel => exact ⟨i + 1, ⟨HM.out.2⟩, by go_num, HA2, ⟨⟨_, rfl⟩⟩⟩
        · have h2 : (x == sx) = false := beq_false_of_ne h1
          clear h h1
          go_wp2
          go_quiet (fail)
          rw [World.drewN_drewN]
          go_wp2
          go_roundg (8 - (i + 1))
          case measure => exact HM.out.1
          case rel => exact ⟨i + 1, ⟨HM.out.2⟩, by go_num, HA2, ⟨⟨_, rfl⟩⟩⟩
    · have hie : i = 8 := by have := HI.out; omega
      have HR : Aside (decide ((0 : Int) ≤ -1) = isShape x n) := ⟨by
        have := HA.out
        subst hie
        unfold isShape
        rw [show shapesL.take 8 = shapesL from rfl] at this
        rw [this]; rfl⟩
      replace hi : 8 ≤ i := by omega
      clear hie
      go_wp2
      go_ret
      exact ⟨_, rfl, HR.out, HB.out _⟩
theorem ShCells.below {w w' : World} (T : ShCells w) (hb : Below w.heap.size w w') : ShCells w' := ⟨fun i h => ⟨bcell hb (T.at_ i h).1, bcell hb (T.at_ i h).2⟩⟩
set_option maxHeartbeats 1000000 in
set_option maxRecDepth 100000 in
theorem contains_any {w : World} (T : ShCells w) (x : List UInt8) (n : Int) : Calls Tryz.prog 70 #[.slice (some ⟨0, 0, none⟩) 8 8, .agg #[.string ⟨x.toArray⟩, .int .i64 n]] w fun e w' => e = .returned (.bool (isShape x n)) ∧ Below w.heap.size w w' := by
  have ba := (Below.refl w.heap.size w).alloc (Nat.le_refl _) (.cells #[.string ⟨x.toArray⟩, .int .i64 n] 120)
  have hcall := index_any (T.below ba) x n
  have HB := Aside.mk ba
  clear T ba
  go_enter Tryz.func70, Tryz.ntmps70
  go_wp2_with fail
  refine hcall.mono ?_
  clear hcall
  rintro e w1 ⟨k, rfl, hk, B1⟩
  have HK := Aside.mk hk
  have HB1 := Aside.mk (bthen HB.out HB.out.size B1)
  clear hk B1
  go_wp2
  go_ret
  exact ⟨retb HK.out.symm, HB1.out⟩
/-- The table of shapes lies where its laid datum says. -/
theorem Tabs.sh {w : World} (T : Tabs w) : ShCells w := ⟨fun i h => by
  obtain ⟨e, fz, hq⟩ := row_at gShapes T.shapes
  have key : ∀ j (hj : j < 16) v, shapesTab[j]? = some v → w.cell? ⟨0, j, none⟩ = some v := fun j hj v hv => by
    simp only [World.cell?]
    rw [show w.heap[0]? = _ from hq]
    simpa using hv
  have hi : i < 8 := h
  rcases (by omega : i = 0 ∨ i = 1 ∨ i = 2 ∨ i = 3 ∨ i = 4 ∨ i = 5 ∨ i = 6 ∨ i = 7) with rfl | rfl | rfl | rfl | rfl | rfl | rfl | rfl <;> exact ⟨key _ (by decide) _ rfl, key _ (by decide) _ rfl⟩⟩
end Go.Proofs.YtgbladpoglhleaaGreatDoor
