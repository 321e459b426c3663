/- first(): what the document's example says holds. No condition. -/
import Derived.Test.YtikgdhmnnnicmaaDoorE
import Derived.Test.YtikgdhmnnnicmaaDoorO
import Derived.Test.YtikgdhmnnnicmaaDoorS
import Derived.OwnWalk
namespace Go.Proofs.YtikgdhmnnnicmaaDoor
open Go.RowKit
theorem flat_at {α : Type} (f : α → List Value) (s : Nat) (hf : ∀ x, (f x).length = s) : ∀ (xs : List α) (i : Nat) (x : α), xs[i]? = some x → ((xs.flatMap f).drop (i * s)).take s = f x
  | [], i, x, h => by simp at h
  | y :: ys, 0, x, h => by
    simp only [List.getElem?_cons_zero, Option.some.injEq] at h
    subst h
    simp only [Nat.zero_mul, List.drop_zero, List.flatMap_cons]
    rw [List.take_append_of_le_length (by rw [hf]; exact Nat.le_refl _), List.take_of_length_le (by rw [hf]; exact Nat.le_refl _)]
  | y :: ys, i + 1, x, h => by
    simp only [List.getElem?_cons_succ] at h
    rw [List.flatMap_cons, Nat.succ_mul, Nat.add_comm (i * s) s, ← List.drop_drop, List.drop_left' (hf y)]
    exact flat_at f s hf ys i x h
theorem own_nodes {w : World} {B : Nat} {v : Value} {xs : List Node} (h : w.ownsRow B 27 4 v xs.length (nodeCells xs)) : Own knode 27 w B v xs :=
  ⟨nodeCells xs, h, fun i x hx => flat_at _ 4 (fun _ => rfl) xs i x hx⟩
def pairCells (xs : List Pair) : List Value := xs.flatMap fun x => [.int .i64 x.U, .int .i64 x.V]
theorem own_pairs {w : World} {B : Nat} {v : Value} {xs : List Pair} (h : w.ownsRow B 59 2 v xs.length (pairCells xs)) : Own kpair 59 w B v xs :=
  ⟨pairCells xs, h, fun i x hx => flat_at _ 2 (fun _ => rfl) xs i x hx⟩
def EightPost (w : World) (e : Ending) (w' : World) : Prop := ∃ v, e = .returned v ∧ Own kpair 59 w' w.heap.size v eightPs ∧ Below w.heap.size w w'
set_option maxRecDepth 100000 in
set_option maxHeartbeats 1000000 in
theorem eight_any (w : World) : Calls Tryd.prog 15 #[] w (EightPost w) := by
  go_enter Tryd.func15, Tryd.ntmps15
  go_wp2
  go_ret
  refine ⟨_, rfl, own_pairs (World.ownsRow_lit w _ 8 (Nat.le_refl _) (by decide) (by rfl)), (Below.refl _ w).alloc (Nat.le_refl _) _⟩
theorem num_any (x : Int) (w : World) : Calls Tryd.prog 13 #[.int .i64 x] w fun e w' => e = .returned (.int .i64 x) ∧ w = w' := by
  go_enter Tryd.func13, Tryd.ntmps13
  go_wp2
  go_ret
  exact ⟨rfl, rfl⟩
def EncNoPost (w : World) (e : Ending) (w' : World) : Prop := e = .returned (.tuple #[.slice none 0 0, .slice none 0 0, .int .i64 220]) ∧ w = w'
set_option maxRecDepth 100000 in
theorem encode_no (n : Int) (v : Value) (w : World) : Calls Tryd.prog 8 #[.int .i64 0, .int .i64 n, v] w (EncNoPost w) := by
  go_enter Tryd.func8, Tryd.ntmps8
  go_wp2
  exact bodyPost_ret (by simp [results, Tryd.results8, go_sem]) rfl ⟨rfl, rfl⟩
def FirstPost (w : World) (e : Ending) (w' : World) : Prop := e = .returned (.bool true) ∧ Below w.heap.size w w'
theorem good_eight : good eightCs := by unfold good; decide
theorem adj_ok : ∀ l ∈ eightAdj, l.length ≤ 16777216 ∧ ∀ u ∈ l, 0 ≤ u ∧ u < (8 : Nat) := by decide
theorem same_two {w : World} {B : Nat} {v : Value} {a b : Int} (h : w.ownsRow B 3 1 v [a, b].length (ints [a, b])) :
    Calls Tryd.prog 17 #[v, .slice (some ⟨w.heap.size, 0, none⟩) 2 2] (w.alloc (.cells #[.int .i64 a, .int .i64 b] 3)) fun e w' => e = .returned (.bool true) ∧ Below w.heap.size w w' := by
  have ha := (Below.refl _ w).alloc (Nat.le_refl _) (.cells #[.int .i64 a, .int .i64 b] 3)
  have h2 : Sl kint (w.alloc (.cells #[.int .i64 a, .int .i64 b] 3)) (w.heap.size ≤ ·) (.slice (some ⟨w.heap.size, 0, none⟩) 2 2) [a, b] := (own_ints (World.ownsRow_lit w _ 2 (Nat.le_refl _) (by decide) (by rfl))).sl
  refine (SameInts_any ((own_ints h).sl.below ha) h2).mono ?_
  rintro e w' ⟨rfl, S⟩
  exact ⟨by rw [eqB_yes rfl], ha.trans (S.below _)⟩
set_option maxHeartbeats 4000000 in
set_option maxRecDepth 100000 in
theorem first_any (w : World) : Calls Tryd.prog 4 #[] w (FirstPost w) := by
  go_enter Tryd.func4, Tryd.ntmps4
  go_wp2_with fail
  refine (eight_any w).mono ?_
  rintro e w1 ⟨v1, rfl, H1, B1⟩
  have HB1 := Aside.mk B1
  have hmake := Make_any 8 (by decide) H1.sl (by decide) (show ∀ p ∈ eightPs, 0 ≤ p.U ∧ p.U < (8 : Nat) ∧ 0 ≤ p.V ∧ p.V < (8 : Nat) by decide)
  clear H1 B1
  go_wp2_with fail
  refine hmake.mono ?_
  clear hmake
  rintro e w2 ⟨gv, rfl, B2, hG⟩
  rw [adj_eight] at hG
  obtain ⟨gb, hgb⟩ : ∃ gb, gv = .pointer (some ⟨gb, 0, none⟩) := by obtain ⟨gb, _, _, e, _⟩ := hG; exact ⟨gb, e⟩
  subst hgb
  have HB2 := Aside.mk (bthen HB1.out HB1.out.size B2)
  have HG := Aside.mk hG
  clear hG B2 HB1
  go_wp2_with fail
  refine (num_any 0 _).mono ?_
  rintro e w' ⟨rfl, rfl⟩
  go_wp2_with fail
  have hb := (HB2.out.alloc HB2.out.size (.cells #[.int .i64 2, .int .i64 2, .int .i64 2, .int .i64 1, .int .i64 2, .int .i64 2, .int .i64 2, .int .i64 0] 3))
  have ha := ((Below.refl _ w2).alloc (Nat.le_refl _) (.cells #[.int .i64 2, .int .i64 2, .int .i64 2, .int .i64 1, .int .i64 2, .int .i64 2, .int .i64 2, .int .i64 0] 3))
  have hs : Sl kint (w2.alloc (.cells #[.int .i64 2, .int .i64 2, .int .i64 2, .int .i64 1, .int .i64 2, .int .i64 2, .int .i64 2, .int .i64 0] 3)) (w2.heap.size ≤ ·) (.slice (some ⟨w2.heap.size, 0, none⟩) 8 8) eightCs :=
    (own_ints (World.ownsRow_lit w2 _ 8 (Nat.le_refl _) (by decide) (by rfl))).sl
  have hf := Forest_any (HG.out.below ha) rfl adj_ok hs rfl (by decide) fun _ => forest_eight
  have HB3 := Aside.mk hb
  clear hb ha hs HB2 HG
  refine hf.mono ?_
  clear hf
  rintro e w3 ⟨h1, _, B3⟩
  obtain ⟨lv, rfl, hl⟩ := h1 good_eight
  have HB4 := Aside.mk (bthen HB3.out (by have := HB3.out.size; simp at this ⊢; omega) B3)
  have HL := Aside.mk hl
  clear h1 B3 HB3 hl
  go_wp2_with fail
  have ha := ((Below.refl _ w3).alloc (Nat.le_refl _) (.cells #[.int .i64 2, .int .i64 0, .int .i64 3, .int .i64 2, .int .i64 2, .int .i64 4, .int .i64 3, .int .i64 2, .int .i64 1, .int .i64 0, .int .i64 7, .int .i64 (-1), .int .i64 0, .int .i64 7, .int .i64 1, .int .i64 (-1)] 27))
  have hw : Own knode 27 (w3.alloc (.cells #[.int .i64 2, .int .i64 0, .int .i64 3, .int .i64 2, .int .i64 2, .int .i64 4, .int .i64 3, .int .i64 2, .int .i64 1, .int .i64 0, .int .i64 7, .int .i64 (-1), .int .i64 0, .int .i64 7, .int .i64 1, .int .i64 (-1)] 27)) w3.heap.size (.slice (some ⟨w3.heap.size, 0, none⟩) 4 4) eightOut :=
    own_nodes (World.ownsRow_lit w3 _ 4 (Nat.le_refl _) (by decide) (by rfl))
  have HW := Aside.mk hw.sl
  have hl2 := (own_nodes HL.out).sl.below ha
  have HB5 := Aside.mk (HB4.out.alloc HB4.out.size (.cells #[.int .i64 2, .int .i64 0, .int .i64 3, .int .i64 2, .int .i64 2, .int .i64 4, .int .i64 3, .int .i64 2, .int .i64 1, .int .i64 0, .int .i64 7, .int .i64 (-1), .int .i64 0, .int .i64 7, .int .i64 1, .int .i64 (-1)] 27))
  have hsame := SameNodes_any hl2 HW.out
  generalize w3.alloc (.cells #[.int .i64 2, .int .i64 0, .int .i64 3, .int .i64 2, .int .i64 2, .int .i64 4, .int .i64 3, .int .i64 2, .int .i64 1, .int .i64 0, .int .i64 7, .int .i64 (-1), .int .i64 0, .int .i64 7, .int .i64 1, .int .i64 (-1)] 27) = w4 at *
  obtain ⟨q, hq⟩ : ∃ q, q = w3.heap.size := ⟨_, rfl⟩
  rw [← hq] at hw HW hsame ⊢
  clear hw ha HL HB4 hl2 hq
  refine hsame.mono ?_
  clear hsame
  rintro e w5 ⟨rfl, S5⟩
  rw [eqB_yes rfl]
  have HB6 := Aside.mk (HB5.out.trans (S5.below _))
  have HW2 := Aside.mk (HW.out.below (S5.below _))
  clear S5 HB5 HW
  go_wp2_with fail
  refine (Level_any (k := 2) HW2.out (by decide)).mono ?_
  rintro e w6 ⟨v6, rfl, H6, B6⟩
  rw [show topsOf eightOut 2 eightOut.length = [0, 1] by decide +kernel] at H6
  have HB7 := Aside.mk (bthen HB6.out HB6.out.size B6)
  have HW7 := Aside.mk (HW2.out.below B6)
  have HI := Aside.mk H6
  clear B6 H6 HB6 HW2
  go_wp2_with fail
  refine (same_two HI.out).mono ?_
  rintro e w7 ⟨rfl, B7⟩
  have HB8 := Aside.mk (bthen HB7.out HB7.out.size B7)
  have HW8 := Aside.mk (HW7.out.below B7)
  clear B7 HB7 HW7 HI
  go_wp2_with fail
  refine (Level_any (k := 0) HW8.out (by decide)).mono ?_
  rintro e w8 ⟨v8, rfl, H8, B8⟩
  rw [show topsOf eightOut 0 eightOut.length = [2, 3] by decide +kernel] at H8
  have HB9 := Aside.mk (bthen HB8.out HB8.out.size B8)
  have HW9 := Aside.mk (HW8.out.below B8)
  have HI := Aside.mk H8
  clear B8 H8 HB8 HW8
  go_wp2_with fail
  refine (same_two HI.out).mono ?_
  rintro e w9 ⟨rfl, B9⟩
  have HBa := Aside.mk (bthen HB9.out HB9.out.size B9)
  have HWa := Aside.mk (HW9.out.below B9)
  clear B9 HB9 HW9 HI
  go_wp2_with fail
  refine (Up_any (k := 1) HWa.out (by decide)).mono ?_
  rintro e w10 ⟨v10, rfl, H10, B10⟩
  rw [show upN eightOut (eightOut.length + 1) (-1) 1 = [1, 2] by decide +kernel] at H10
  have HBb := Aside.mk (bthen HBa.out HBa.out.size B10)
  have HWb := Aside.mk (HWa.out.below B10)
  have HI := Aside.mk H10
  clear B10 H10 HBa HWa
  go_wp2_with fail
  refine (same_two HI.out).mono ?_
  rintro e w11 ⟨rfl, B11⟩
  have HBc := Aside.mk (bthen HBb.out HBb.out.size B11)
  have HWc := Aside.mk (HWb.out.below B11)
  clear B11 HBb HWb HI
  go_wp2_with fail
  refine (Up_any (k := 4) HWc.out (by decide)).mono ?_
  rintro e w12 ⟨v12, rfl, H12, B12⟩
  rw [show upN eightOut (eightOut.length + 1) (-1) 4 = [] by decide +kernel] at H12
  obtain ⟨A12, c12, rfl, _, _⟩ := (own_ints H12).sl.slice
  have HBd := Aside.mk (bthen HBc.out HBc.out.size B12)
  clear B12 HBc HWc H12
  go_wp2_with fail
  refine (encode_no 8 _ w12).mono ?_
  rintro e w13 ⟨rfl, rfl⟩
  go_wp2_with fail
  refine (num_any 0 _).mono ?_
  rintro e w14 ⟨rfl, rfl⟩
  go_wp2_with fail
  refine (num_any 220 _).mono ?_
  rintro e w14 ⟨rfl, rfl⟩
  go_wp2_with fail
  go_ret
  exact ⟨rfl, HBd.out⟩
end Go.Proofs.YtikgdhmnnnicmaaDoor
