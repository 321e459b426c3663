/- graph.of: the graph of the edges that a map holds: its lists are the sorted neighbours. No condition. -/
import Derived.Test.YtikgdhmnnnicmaaDoorM
import Derived.Test.YtikgdhmnnnicmaaDoorR
import Derived.Test.YtikgdhmnnnicmaaDoorShelf
import Derived.Deep.OwnRows
namespace Go.Proofs.YtikgdhmnnnicmaaDoor
open Go.RowKit
theorem keyPair : KeyEnc Tryd.prog 61 enc2 := key_two (it := 3) (by kernel_rfl) (by kernel_rfl) (fun _ => by kernel_rfl) (fun _ => by kernel_rfl)
/-- The neighbours of v by the edges E, in their order. -/
def nbOf (E : List (Int × Int)) (v : Int) : List Int := E.filterMap fun e => if e.1 = v then some e.2 else if e.2 = v then some e.1 else none
def rowsOf (n : Nat) (E : List (Int × Int)) : List (List Int) := (List.range n).map fun v : Nat => nbOf E (v : Int)
theorem toList_made (z : Value) (n : Nat) : madeCells #[z] n = (List.replicate n z).toArray := by
  rw [← toList_madeCells_one]
theorem rows_made (w : World) (B n : Nat) (hB : w.heap.size < B) : Rows (w.alloc (.cells (madeCells #[.slice none 0 0] n) 48)) B w.heap.size (List.replicate n (.slice none 0 0)) (List.replicate n []) where
  blk := by rw [toList_made]; exact heap_alloc_new w _
  len := by simp
  lt := hB
  own i v xs h1 h2 := by
    have h3 := List.eq_of_mem_replicate (List.mem_of_getElem? h1)
    have h4 := List.eq_of_mem_replicate (List.mem_of_getElem? h2)
    subst h3 h4
    exact World.ownsRow_nil _ _ _ _
  apart i j vi vj k h1 h2 h3 h4 := by
    have h5 := List.eq_of_mem_replicate (List.mem_of_getElem? h1)
    subst h5
    simp [Value.ownBlock] at h3
theorem rowsOf_nil (n : Nat) : rowsOf n [] = List.replicate n [] := by
  unfold rowsOf nbOf
  simp [List.map_const']
theorem sorted_perm {xs ys : List Int} (h : xs.Perm ys) : sorted xs = sorted ys := by
  have tr : ∀ a b c : Int, decide (a ≤ b) = true → decide (b ≤ c) = true → decide (a ≤ c) = true := by simp; omega
  have tt : ∀ a b : Int, (decide (a ≤ b) || decide (b ≤ a)) = true := by simp; omega
  refine List.Perm.eq_of_pairwise (le := fun a b => decide (a ≤ b) = true) (fun a b _ _ h1 h2 => by simp at h1 h2; omega) (List.pairwise_mergeSort tr tt xs) (List.pairwise_mergeSort tr tt ys) ?_
  exact (List.mergeSort_perm xs _).trans (h.trans (List.mergeSort_perm ys _).symm)
/-- What graph.of hands back. -/
def OfPost (w : World) (n mb : Nat) (E : List (Int × Int)) (e : Ending) (w' : World) : Prop :=
  ∃ tv, e = .returned (.pointer (some ⟨w.heap.size + 1, 0, none⟩)) ∧ Below w.heap.size w w' ∧ w'.heap[w.heap.size + 1]? = some (.cells #[.int .i64 n, .map (some mb), tv] 81 (0, 0)) ∧ Sl (kslice kint) w' (w.heap.size ≤ ·) tv ((rowsOf n E).map sorted)
theorem Rows.sl {w : World} {B tb : Nat} {rows : List Value} {xss : List (List Int)} (h : Rows w B tb rows xss) (hn : xss.length ≤ 9223372036854775807) : Sl (kslice kint) w (tb ≤ ·) (.slice (some ⟨tb, 0, none⟩) xss.length xss.length) xss := by
  refine ⟨_, _, rfl, Nat.le_refl _, hn, fun _ => ⟨tb, 0, rfl, Nat.le_refl _, blk_lt h.blk, fun i x hx => ?_⟩⟩
  have hi := (List.getElem?_eq_some_iff.1 hx).1
  obtain ⟨v, hv, hc, hf, ho⟩ := h.at i hi
  have hlt := h.lt
  rw [(List.getElem?_eq_some_iff.1 hx).2] at ho
  refine ⟨[v], ⟨v, rfl, (own_ints ho).sl.mono fun k hk => by omega⟩, fun j u hu => ?_⟩
  rcases j with _ | j
  · simp at hu; subst hu; simpa [kslice] using hc
  · simp at hu
attribute [local go_sem ↓] append_open
theorem nbOf_length (E : List (Int × Int)) (v : Int) : (nbOf E v).length ≤ E.length := List.length_filterMap_le _ _
theorem rowsOf_snoc (n ua ub : Nat) (E : List (Int × Int)) (h : ua < ub) (h1 : ua < (rowsOf n E).length) (x : List Int) (hx : x = (rowsOf n E)[ua] ++ [(ub : Int)]) (h2 : ub < ((rowsOf n E).set ua x).length) :
    ((rowsOf n E).set ua x).set ub (((rowsOf n E).set ua x)[ub] ++ [(ua : Int)]) = rowsOf n (E ++ [((ua : Int), (ub : Int))]) := by
  subst hx
  refine List.ext_getElem (by simp [rowsOf]) fun j h3 h4 => ?_
  have hj : j < n := by simpa [rowsOf] using h4
  simp only [List.getElem_set]
  by_cases e1 : ub = j
  · subst e1
    have : ¬ ua = ub := by omega
    have h5 : ¬ (ua : Int) = (ub : Int) := by omega
    simp [rowsOf, nbOf, this, List.filterMap, h5]
  · by_cases e2 : ua = j
    · subst e2
      simp [e1, rowsOf, nbOf]
    · have e3 : ¬ (ua : Int) = (j : Int) := by omega
      have e4 : ¬ (ub : Int) = (j : Int) := by omega
      simp [e1, e2, rowsOf, nbOf, e3, e4]
set_option maxHeartbeats 8000000 in
set_option maxRecDepth 100000 in
theorem of_any (n mb : Nat) (m : List ((Int × Int) × Value)) (w : World) (hm : MapIs enc2 w mb m) (hn : n ≤ 16777216) (hml : m.length ≤ 8796093022208) (hE : ∀ p ∈ m, 0 ≤ p.1.1 ∧ p.1.1 < p.1.2 ∧ p.1.2 < n) :
    Calls Tryd.prog 28 #[.int .i64 n, .map (some mb)] w (OfPost w n mb (m.map (·.1))) := by
  have hmk : ∀ W : World, (Instr.makeSlice 67 (.int .i64 (n : Int)) (.int .i64 (n : Int))).run Tryd.prog W = .ok (.slice (some ⟨W.heap.size, 0, none⟩) n n) (W.alloc (.cells (madeCells #[.slice none 0 0] n) 48)) := fun W =>
    run_make_row' 67 48 (.slice none 0 0) 24 Tryd.underlying67 Tryd.info23 rfl .i64 .i64 n (by omega) (by omega) W
  have hb2 : Below w.heap.size w ((w.alloc (.cells (madeCells #[.slice none 0 0] n) 48)).alloc (.cells #[.int .i64 n, .map (some mb), .slice (some ⟨w.heap.size, 0, none⟩) n n] 81)) :=
    ((Below.refl _ w).alloc (Nat.le_refl _) _).alloc (by simp) _
  obtain ⟨w3, hrange, hgo, hb3, hs3⟩ := map_range (P := Tryd.prog) (hm.below hb2) (t := 57) Tryd.underlying57
  simp only [World.size_alloc] at hrange hgo hb3 hs3
  have hrows : Rows w3 (w.heap.size + 3) w.heap.size (List.replicate n (.slice none 0 0)) (rowsOf n []) := by
    rw [rowsOf_nil]
    refine ((rows_made w (w.heap.size + 3) n (by omega)).below (((Below.refl _ _).alloc (Nat.le_refl _) _))).below (by simpa using hb3)
  have hg3 : w3.heap[w.heap.size + 1]? = some (.cells #[.int .i64 n, .map (some mb), .slice (some ⟨w.heap.size, 0, none⟩) n n] 81 (0, 0)) :=
    (hb3.block _ (by omega)).trans (by have := heap_alloc_new (w.alloc (.cells (madeCells #[.slice none 0 0] n) 48)) (.cells #[.int .i64 n, .map (some mb), .slice (some ⟨w.heap.size, 0, none⟩) n n] 81); simpa using this)
  have hbw : Below w.heap.size w w3 := hb2.trans (hb3.mono (by omega))
  have HG := Aside.mk hgo
  have HR := Aside.mk hrows
  have HB := Aside.mk hbw
  have HG3 := Aside.mk hg3
  clear hgo hrows hbw hg3 hb3 hb2
  go_enter Tryd.func28, Tryd.ntmps28
  go_wp2
  go_loopg [] m.length (fun kq wr => ∃ (seen left : List ((Int × Int) × Value)) (rows : List Value), Aside (left.length = kq) ∧ Aside (m.Perm (seen ++ left)) ∧ Aside (Going enc2 wr mb (w.heap.size + 1 + 1) m left) ∧ Aside (Rows wr (w.heap.size + 3) w.heap.size rows (rowsOf n (seen.map (·.1)))) ∧
    Aside (wr.heap[w.heap.size + 1]? = some (.cells #[.int .i64 n, .map (some mb), .slice (some ⟨w.heap.size, 0, none⟩) n n] 81 (0, 0))) ∧ Aside (Below w.heap.size w wr))
  case atStart => exact ⟨[], m, _, ⟨rfl⟩, ⟨by simp⟩, HG, HR, HG3, HB⟩
  case round =>
    clear HG HR HG3 HB
    obtain ⟨seen, left, rows, HL, HP, HGo, HRo, HG, HBe⟩ := hrel
    rcases map_next (P := Tryd.prog) HGo.out 0 with ⟨hl, hnx⟩ | ⟨x, v, left', w4, hpm, hnx, hgo4, hgr, hsz, hen⟩
    · subst hl
      have HP' : m.Perm seen := by simpa using HP.out
      have hlen : rows.length = n := by rw [HRo.out.len]; simp [rowsOf]
      have hg1 : wr.cell? ⟨w.heap.size + 1, 2, none⟩ = some (.slice (some ⟨w.heap.size, 0, none⟩) n n) := cell_blk HG.out rfl
      go_wp2
      go_loopg [64] n (fun kq ix wq => ∃ (k : Nat), Aside (k + kq = n) ∧ ix = .int .i64 k ∧
        Aside (Rows wq (w.heap.size + 3) w.heap.size rows (((rowsOf n (seen.map (·.1))).take k).map sorted ++ (rowsOf n (seen.map (·.1))).drop k)) ∧ Aside (wq.heap[w.heap.size + 1]? = some (.cells #[.int .i64 n, .map (some mb), .slice (some ⟨w.heap.size, 0, none⟩) n n] 81 (0, 0))) ∧ Aside (Below w.heap.size w wq))
      case atStart => exact ⟨0, ⟨by omega⟩, rfl, ⟨by simpa using HRo.out⟩, HG, HBe⟩
      case round =>
        clear hg1 HL HP HGo HRo HG HBe
        obtain ⟨k, HK, rfl, HR, HG, HB⟩ := hrel
        by_cases hk : k < n
        · have hk1 : k < (rowsOf n (seen.map (·.1))).length := by simpa [rowsOf] using hk
          have hk2 : k < (((rowsOf n (seen.map (·.1))).take k).map sorted ++ (rowsOf n (seen.map (·.1))).drop k).length := by simp [rowsOf] at hk1 ⊢; omega
          obtain ⟨v, hv, hc, hf, ho⟩ := HR.out.at k hk2
          have hx : (((rowsOf n (seen.map (·.1))).take k).map sorted ++ (rowsOf n (seen.map (·.1))).drop k)[k]'hk2 = (rowsOf n (seen.map (·.1)))[k]'hk1 := by
            rw [List.getElem_append_right (by simp; omega)]
            simp [Nat.min_eq_left (Nat.le_of_lt hk1)]
          rw [hx] at ho
          have hcon := sort_own ho (by
            have h3 := nbOf_length (seen.map (·.1)) k
            have h4 := HP'.length_eq
            simp [rowsOf] at h3 h4 ⊢
            omega)
          have HO := Aside.mk ho
          clear ho hx hf
          go_wp2_with (go_at_call 37; refine hcon.mono ?_; rintro e w9 ⟨rfl, ho9, hg9⟩)
          go_roundg (n - (k + 1))
          case measure => have := HK.out; omega
          case rel =>
            have hlt := HR.out.lt
            have hne : ∀ q, q < w.heap.size + 3 → some q ≠ v.ownBlock := fun q hq e => by have := (HO.out.lt q e.symm).1; omega
            have hsz : w.heap.size + 1 < wr.heap.size := blk_lt HG.out
            refine ⟨k + 1, ⟨by omega⟩, by go_num, ⟨?_⟩, ⟨(hg9.block _ hsz (hne _ (by omega))).trans HG.out⟩, ⟨HB.out.grown hg9 (by omega) (fun q e => by have := (HO.out.lt q e).1; omega)⟩⟩
            have h9 := HR.out.exch hv ho9 (hg9.block _ (by omega) (hne _ (by omega))) (fun q _ hq hn' => hg9.block q hq hn')
            have hset : ((((rowsOf n (seen.map (·.1))).take k).map sorted ++ (rowsOf n (seen.map (·.1))).drop k).set k (sorted ((rowsOf n (seen.map (·.1)))[k]'hk1))) = ((rowsOf n (seen.map (·.1))).take (k + 1)).map sorted ++ (rowsOf n (seen.map (·.1))).drop (k + 1) := by
              rw [List.set_append_right _ _ (by simp; omega), List.take_succ_eq_append_getElem hk1, List.map_append, List.append_assoc]
              congr 1
              simp [Nat.min_eq_left (Nat.le_of_lt hk1)]
              rw [List.drop_eq_getElem_cons hk1]
              rfl
            rw [hset] at h9
            exact h9
        · have hkn : k = n := by have := HK.out; omega
          subst hkn
          go_wp2
          go_ret
          have h9 := HR.out
          rw [List.take_of_length_le (by simp [rowsOf]), List.drop_of_length_le (by simp [rowsOf]), List.append_nil] at h9
          have h10 := h9.sl (by simp [rowsOf]; omega)
          have h11 : (rowsOf k (seen.map (·.1))).map sorted = (rowsOf k (m.map (·.1))).map sorted := by
            unfold rowsOf
            rw [List.map_map, List.map_map]
            refine List.map_congr_left fun v _ => ?_
            have h12 : (nbOf (seen.map (·.1)) (v : Int)).Perm (nbOf (m.map (·.1)) (v : Int)) := List.Perm.filterMap _ (HP'.map (·.1)).symm
            exact sorted_perm h12
          rw [h11] at h10
          refine ⟨_, rfl, HB.out, HG.out, ?_⟩
          simpa [rowsOf] using h10
    · obtain ⟨a, b⟩ := x
      simp only [enc2] at hnx hen
      have hmem : ((a, b), v) ∈ m := HP.out.mem_iff.2 (List.mem_append_right _ (hpm.mem_iff.2 (List.mem_cons_self ..)))
      obtain ⟨h0, h1, h2⟩ := hE _ hmem
      simp only at h0 h1 h2
      obtain ⟨ua, rfl⟩ := Int.eq_ofNat_of_zero_le h0
      obtain ⟨ub, rfl⟩ := Int.eq_ofNat_of_zero_le (show 0 ≤ b by omega)
      have hua : ua < n := by omega
      have hub : ub < n := by omega
      have hB4 : w.heap.size + 3 ≤ w4.heap.size := by have := HGo.out.lt.2; omega
      clear hsz
      go_wp2
      have hR4 : Rows w4 (w.heap.size + 3) w.heap.size rows (rowsOf n (seen.map (·.1))) := HRo.out.kept (hgr.block _ (by have := HGo.out.lt.2; omega) (by simp; omega)) fun k hk hlt => hgr.block k hlt (by simp; omega)
      have hg4 : w4.heap[w.heap.size + 1]? = some (.cells #[.int .i64 n, .map (some mb), .slice (some ⟨w.heap.size, 0, none⟩) n n] 81 (0, 0)) := (hgr.block _ (by have := HGo.out.lt.2; omega) (by simp)).trans HG.out
      have hb5 : Below w4.heap.size w4 (w4.alloc (.cells #[.int .i64 ua, .int .i64 ub] 61)) := (Below.refl _ _).alloc (Nat.le_refl _) _
      have hR5 := hR4.below hb5
      have hg5 := bblk hb5 hg4
      have he5 := heap_alloc_new w4 (.cells #[.int .i64 ua, .int .i64 ub] 61)
      have hf5 : ∀ (j : Nat) u k, rows[j]? = some u → u.ownBlock = some k → k ≠ w4.heap.size := fun j u k hj hk => by
        have := ((hR4.own j u _ hj (List.getElem?_eq_getElem (by rw [← hR4.len]; exact (List.getElem?_eq_some_iff.1 hj).1))).lt k hk).2
        omega
      have hla : ua < (rowsOf n (seen.map (·.1))).length := by simpa [rowsOf] using hua
      have hlb : ub < (rowsOf n (seen.map (·.1))).length := by simpa [rowsOf] using hub
      obtain ⟨v0, v1, w6, hc0, hrun, hc1, hf1, ⟨A1, n1, c1, rfl⟩, hg6, he6, hR7, hg7, he7, hf7, hb7, hk7⟩ := hR5.grow hg5 he5 (by omega) (by omega) hB4 hf5 ua hla (ub : Int) (by
        have h3 := nbOf_length (seen.map (·.1)) ua
        have h4 := HP.out.length_eq
        simp [rowsOf] at h3 h4 ⊢
        omega)
      generalize hW : w4.alloc (.cells #[.int .i64 ua, .int .i64 ub] 61) = W5 at *
      clear hW
      have cg5 : W5.cell? ⟨w.heap.size + 1, 2, none⟩ = some (.slice (some ⟨w.heap.size, 0, none⟩) n n) := cell_blk hg5 rfl
      have ca5 : W5.cell? ⟨w4.heap.size, 0, none⟩ = some (.int .i64 ua) := cell_blk he5 rfl
      have cb5 : W5.cell? ⟨w4.heap.size, 1, none⟩ = some (.int .i64 ub) := cell_blk he5 rfl
      have cg6 : w6.cell? ⟨w.heap.size + 1, 2, none⟩ = some (.slice (some ⟨w.heap.size, 0, none⟩) n n) := cell_blk hg6 rfl
      have ca6 : w6.cell? ⟨w4.heap.size, 0, none⟩ = some (.int .i64 ua) := cell_blk he6 rfl
      have cb6 : w6.cell? ⟨w4.heap.size, 1, none⟩ = some (.int .i64 ub) := cell_blk he6 rfl
      have H7 := Aside.mk (And.intro hR7 (And.intro hg7 (And.intro he7 (And.intro hf7 (And.intro hb7 hk7)))))
      clear hR7 hg7 he7 hf7 hb7 hk7 hR4 hR5 hg4 hg5 he5 hf5 hg6 he6
      have bA : Below W5.heap.size W5 (W5.alloc (.cells #[.int .i64 ub] 3)) := (Below.refl _ _).alloc (Nat.le_refl _) _
      have cg5a := bcell bA cg5
      have ca5a := bcell bA ca5
      have cb5a := bcell bA cb5
      have c05a := bcell bA hc0
      clear bA
      go_cut [] (fun wx => wx = w6.setCell ⟨w.heap.size, ua, none⟩ (.slice A1 n1 c1))
      case first =>
        go_region
        go_wp2
        go_meet
        case rel => rfl
      case rest =>
        clear hrun cg5 ca5 cb5 hc0 cg6 ca6 cb6 hc1 hf1 cg5a ca5a cb5a c05a
        obtain ⟨hR7, hg7, he7, hf7, hb7, hk7⟩ := H7.out
        clear H7
        subst hcut
        obtain ⟨u0, u1, w8, hc0, hrun, hc1, hf1, ⟨A2, n2, c2, rfl⟩, hg8, he8, hR9, hg9, he9, hf9, hb9, hk9⟩ := hR7.grow hg7 he7 (by omega) (by omega) hB4 hf7 ub (by rw [List.length_set]; exact hlb) (ua : Int) (by
          have h3 := nbOf_length (seen.map (·.1)) ub
          have h4 := HP.out.length_eq
          have h5 : ¬ ua = ub := by omega
          have h6 : ((rowsOf n (seen.map (·.1))).set ua ((rowsOf n (seen.map (·.1)))[ua] ++ [(ub : Int)]))[ub]'(by rw [List.length_set]; exact hlb) = nbOf (seen.map (·.1)) ub := by simp [h5, rowsOf]
          rw [h6]
          simp at h3 h4
          omega)
        generalize hW7 : w6.setCell ⟨w.heap.size, ua, none⟩ (.slice A1 n1 c1) = W7 at *
        have cg5 : W7.cell? ⟨w.heap.size + 1, 2, none⟩ = some (.slice (some ⟨w.heap.size, 0, none⟩) n n) := cell_blk hg7 rfl
        have ca5 : W7.cell? ⟨w4.heap.size, 0, none⟩ = some (.int .i64 ua) := cell_blk he7 rfl
        have cb5 : W7.cell? ⟨w4.heap.size, 1, none⟩ = some (.int .i64 ub) := cell_blk he7 rfl
        have cg6 : w8.cell? ⟨w.heap.size + 1, 2, none⟩ = some (.slice (some ⟨w.heap.size, 0, none⟩) n n) := cell_blk hg8 rfl
        have ca6 : w8.cell? ⟨w4.heap.size, 0, none⟩ = some (.int .i64 ua) := cell_blk he8 rfl
        have cb6 : w8.cell? ⟨w4.heap.size, 1, none⟩ = some (.int .i64 ub) := cell_blk he8 rfl
        have bA : Below W7.heap.size W7 (W7.alloc (.cells #[.int .i64 ua] 3)) := (Below.refl _ _).alloc (Nat.le_refl _) _
        have cg5a := bcell bA cg5
        have ca5a := bcell bA ca5
        have cb5a := bcell bA cb5
        have c05a := bcell bA hc0
        clear bA hW7 hf9 he9
        have HREL : Aside (∃ (seen left : List ((Int × Int) × Value)) (rows : List Value), Aside (left.length = left'.length) ∧ Aside (m.Perm (seen ++ left)) ∧ Aside (Going enc2 (w8.setCell ⟨w.heap.size, ub, none⟩ (.slice A2 n2 c2)) mb (w.heap.size + 1 + 1) m left) ∧ Aside (Rows (w8.setCell ⟨w.heap.size, ub, none⟩ (.slice A2 n2 c2)) (w.heap.size + 3) w.heap.size rows (rowsOf n (seen.map (·.1)))) ∧
            Aside ((w8.setCell ⟨w.heap.size, ub, none⟩ (.slice A2 n2 c2)).heap[w.heap.size + 1]? = some (.cells #[.int .i64 n, .map (some mb), .slice (some ⟨w.heap.size, 0, none⟩) n n] 81 (0, 0))) ∧ Aside (Below w.heap.size w (w8.setCell ⟨w.heap.size, ub, none⟩ (.slice A2 n2 c2)))) := by
          constructor
          have hlt0 := HGo.out.lt
          have hlt := hgo4.lt
          have hmb := hm.lt
          have hw4 : Below w.heap.size w w4 := HBe.out.grown hgr (by have := HBe.out.size; omega) (fun k e => by cases e; omega)
          have hke : ∀ k, k < w.heap.size + 3 → k ≠ w.heap.size → (w8.setCell ⟨w.heap.size, ub, none⟩ (.slice A2 n2 c2)).heap[k]? = w4.heap[k]? := fun k h3 h4 =>
            (hk9 k h3 h4).trans ((hk7 k h3 h4).trans (hb5.block k (by omega)))
          refine ⟨seen ++ [(((ua : Int), (ub : Int)), v)], left', (rows.set ua (.slice A1 n1 c1)).set ub (.slice A2 n2 c2), ⟨rfl⟩, ⟨?_⟩, ⟨hgo4.kept (hke _ (by omega) (by omega)) (hke _ (by omega) (by omega))⟩, ⟨?_⟩, ⟨hg9⟩, ⟨?_⟩⟩
          · rw [List.append_assoc]
            exact HP.out.trans (List.Perm.append_left _ hpm)
          · have h3 := rowsOf_snoc n ua ub (seen.map (·.1)) (by omega) hla _ rfl (by rw [List.length_set]; exact hlb)
            rw [h3] at hR9
            simpa using hR9
          · exact ((hw4.trans (hb5.mono (by omega))).trans hb7).trans hb9
        have hms : left'.length < gk := by have h3 := hpm.length_eq; have h4 := HL.out; simp at h3; omega
        clear hR9 hg9 hb9 hk9 hb7 hk7 hR7 hg7 he7 hf7 hg8 he8 HL HP HGo HRo HG HBe hgo4 hgr hpm hlb hla hB4 hb5 hmem hE h1 h2
        go_wp2
        go_region
        go_wp2
        go_roundg left'.length
        case measure => exact hms
        case rel => exact HREL.out
end Go.Proofs.YtikgdhmnnnicmaaDoor
