/- nest.Forest walked: every graph, every list of as many numbers. No condition. -/
import Derived.Test.YtikgdhmnnnicmaaDoorW
import Derived.Test.YtikgdhmnnnicmaaDoor4
import Derived.Test.YtikgdhmnnnicmaaDoorJ
import Derived.Deep.Onto
namespace Go.Proofs.YtikgdhmnnnicmaaDoor
open Go.RowKit Go.Shelf
def good (cs : List Int) : Prop := ∀ x ∈ cs, 0 ≤ x ∧ x < 16777216
def ForestPost (w : World) (cs : List Int) (out : List Node) (e : Ending) (w' : World) : Prop :=
  (good cs → ∃ v, e = .returned (.tuple #[v, .int .i64 0]) ∧ w'.ownsRow w.heap.size 27 4 v out.length (nodeCells out)) ∧ (¬ good cs → e = .returned (.tuple #[.slice none 0 0, .int .i64 191])) ∧ Below w.heap.size w w'
theorem FSt.made {W0 W : World} {n b2 b5 b8 b11 b13 b14 : Nat} (h : Blks W0 W [(b2, (.cells (madeCells #[.int .i64 0] n) 3)), (b5, (.cells (madeCells #[.int .i64 0] n) 3)), (b8, (.cells (madeCells #[.int .i64 0] n) 3)), (b11, (.cells (madeCells #[.slice none 0 0] n) 48)),
    (b13, (.cells #[.slice (some ⟨b2, 0, none⟩) n n, .slice (some ⟨b5, 0, none⟩) n n, .slice (some ⟨b8, 0, none⟩) n n, .slice (some ⟨b11, 0, none⟩) n n] 69)), (b14, (.cells #[.pointer (some ⟨b13, 0, none⟩)] 66))]) :
    FSt ⟨b13, b2, b5, b8, b11, W.heap.size⟩ n W ⟨List.replicate n 0, List.replicate n 0, List.replicate n 0, List.replicate n []⟩ (List.replicate n (.slice none 0 0)) := by
  obtain ⟨_, h2, h3⟩ := h
  have e1 : madeCells #[.int .i64 0] n = (ints (List.replicate n 0)).toArray := by
    apply Array.ext'
    rw [toList_madeCells_one]
    simp [ints]
  have e2 : madeCells #[.slice none 0 0] n = (List.replicate n (Value.slice none 0 0)).toArray := by
    apply Array.ext'
    rw [toList_madeCells_one]
  rw [e1, e2] at h2
  have g2 := (h2 _ (by simp : (b2, Obj.cells (ints (List.replicate n 0)).toArray 3) ∈ _)).1
  simp only [List.map_cons, List.map_nil, List.nodup_cons, List.mem_cons, not_or] at h3
  simp only [List.mem_cons, forall_eq_or_imp] at h2
  obtain ⟨q2, q5, q8, q11, q13, q14, _⟩ := h2
  obtain ⟨n2, n5, n8, n11, n13, _⟩ := h3
  refine ⟨q13.1, q2.1, q5.1, q8.1, ⟨q11.1, by simp, blk_lt q11.1, fun i v xs hi hx => ?_, fun i j vi vj k hi _ hk => ?_⟩, by simp, by simp, by simp, by simp, ⟨blk_lt q13.1, blk_lt q2.1, blk_lt q5.1, blk_lt q8.1, blk_lt q11.1⟩, ⟨n2.1, n2.2.1, n2.2.2.1, n2.2.2.2.1⟩, ⟨n5.1, n5.2.1, n5.2.2.1⟩, n8.1, n8.2.1, n11.1⟩
  · rw [List.getElem?_replicate] at hi hx
    split at hi
    · rename_i hin
      rw [if_pos hin] at hx
      cases hi
      cases hx
      exact World.ownsRow_nil _ _ _ _
    · cases hi
  · rw [List.getElem?_replicate] at hi
    split at hi
    · cases hi; cases hk
    · cases hi
attribute [local go_sem ↓] append_open
attribute [local go_sem] Oper.semAt_some
set_option maxHeartbeats 8000000 in
set_option maxRecDepth 100000 in
theorem Forest_any {w : World} {ok ok2 : Nat → Prop} {gv cv : Value} {n K : Nat} {adj : List (List Int)} {cs : List Int} {out : List Node} (hG : GraphIs w ok gv n adj) (hal : adj.length = n) (hadj : ∀ l ∈ adj, l.length ≤ 16777216 ∧ ∀ u ∈ l, 0 ≤ u ∧ u < n)
    (hc : Sl kint w ok2 cv cs) (hn : cs.length = n) (hn1 : n ≤ 16777216) (hf : good cs → forestF K adj cs = some out) : Calls Tryd.prog 16 #[gv, cv] w (ForestPost w cs out) := by
  subst hn
  obtain ⟨A, c, rfl, hc1, hm1⟩ := hc.slice
  obtain ⟨g0, hg0⟩ : ∃ g0, gv = .pointer (some ⟨g0, 0, none⟩) := by obtain ⟨g0, _, _, e, _⟩ := hG; exact ⟨g0, e⟩
  subst hg0
  refine (callsIn_wide (n := 6)).1 ?_
  refine callsIn_of_wp_marks Tryd.func16 rfl trivial ?_
  simp only [Tryd.ntmps16, List.size_toArray, List.length_cons, List.length_nil, Nat.reduceAdd, Nat.reduceSub, Array.replicate_succ, Array.replicate_zero, List.push_toArray, List.append_toArray, List.nil_append, List.cons_append]
  refine wpIn_wide.2 ?_
  have hb0 : Below w.heap.size w (w.alloc (.cells #[.pointer (some ⟨g0, 0, none⟩)] 41)) := (Below.refl _ w).alloc (Nat.le_refl _) _
  have hcon := N_any (hG.below hb0)
  have HG := Aside.mk hG
  have HC := Aside.mk hc
  have HF := Aside.mk hf
  have hmm := @run_makeMap Tryd.prog
  clear hG hc hf hb0
  go_wp2_with fail
  refine hcon.mono ?_
  clear hcon
  rintro e w1 ⟨rfl, hw1⟩
  cases hw1
  go_wp2
  obtain ⟨N0, hN0⟩ : ∃ N0, N0 = w.heap.size := ⟨_, rfl⟩
  have h3 : (((w.alloc (.cells #[.pointer (some ⟨g0, 0, none⟩)] 41)).alloc (.map #[] 0)).alloc (.cells #[.map (some (N0 + 1))] 65)).heap.size = N0 + 3 := by simp [hN0]
  have hB3 : Below N0 w (((w.alloc (.cells #[.pointer (some ⟨g0, 0, none⟩)] 41)).alloc (.map #[] 0)).alloc (.cells #[.map (some (N0 + 1))] 65)) := by rw [hN0]; exact (((Below.refl _ w).alloc (Nat.le_refl _) _).alloc (by simp) _).alloc (by simp; omega) _
  have hg3 : (((w.alloc (.cells #[.pointer (some ⟨g0, 0, none⟩)] 41)).alloc (.map #[] 0)).alloc (.cells #[.map (some (N0 + 1))] 65)).heap[N0]? = some (.cells #[.pointer (some ⟨g0, 0, none⟩)] 41 (0, 0)) := by
    rw [hN0]; exact (Below.heap_alloc _ _ _ (by simp; omega)).trans ((Below.heap_alloc _ _ _ (by simp)).trans (heap_alloc_new _ _))
  have ho3 : (((w.alloc (.cells #[.pointer (some ⟨g0, 0, none⟩)] 41)).alloc (.map #[] 0)).alloc (.cells #[.map (some (N0 + 1))] 65)).heap[N0 + 2]? = some (.cells #[.map (some (N0 + 1))] 65 (0, 0)) := by
    have := heap_alloc_new ((w.alloc (.cells #[.pointer (some ⟨g0, 0, none⟩)] 41)).alloc (.map #[] 0)) (.cells #[.map (some (N0 + 1))] 65)
    simp only [World.size_alloc] at this
    rw [hN0] at this ⊢
    exact this
  have hm3 : MapIs (Value.int .i64) (((w.alloc (.cells #[.pointer (some ⟨g0, 0, none⟩)] 41)).alloc (.map #[] 0)).alloc (.cells #[.map (some (N0 + 1))] 65)) (N0 + 1) [] := by
    have := MapIs.made (Value.int .i64) (w.alloc (.cells #[.pointer (some ⟨g0, 0, none⟩)] 41))
    rw [World.size_alloc, ← hN0] at this
    exact this.kept (Below.heap_alloc _ _ _ this.lt)
  rw [← hN0]
  generalize ((w.alloc (.cells #[.pointer (some ⟨g0, 0, none⟩)] 41)).alloc (.map #[] 0)).alloc (.cells #[.map (some (N0 + 1))] 65) = W3 at *
  have HW3 := Aside.mk (And.intro (OfIs.made (B := N0 + 3) hm3 (by omega)) (And.intro hg3 (And.intro ho3 (And.intro hB3 h3))))
  have HN0 := Aside.mk hN0
  clear hm3 hg3 ho3 hB3 h3 hN0 hmm
  go_loopg [23] cs.length (fun kq ix wr => ∃ (i : Nat) (m : List (Int × Value)), Aside (i + kq = cs.length) ∧ ix = .int .i64 i ∧ Aside (good (cs.take i)) ∧ Aside (OfIs wr (N0 + 3) (N0 + 1) m (cs.take i)) ∧
    Aside (wr.heap[N0]? = some (.cells #[.pointer (some ⟨g0, 0, none⟩)] 41 (0, 0))) ∧ Aside (wr.heap[N0 + 2]? = some (.cells #[.map (some (N0 + 1))] 65 (0, 0))) ∧ Aside (Below N0 w wr))
  case atStart => exact ⟨0, [], ⟨by omega⟩, rfl, ⟨by intro x hx; simp at hx⟩, ⟨HW3.out.1⟩, ⟨HW3.out.2.1⟩, ⟨HW3.out.2.2.1⟩, ⟨HW3.out.2.2.2.1⟩⟩
  case round =>
    clear HW3
    obtain ⟨i, m, HI, rfl, HGd, HO, HGb, HOb, HB⟩ := hrel
    by_cases hi : i < cs.length
    · have hBw : Below w.heap.size w wr := by have := HB.out; rw [HN0.out] at this; exact this
      obtain ⟨b, o, e, cv⟩ := (HC.out.below hBw).int i hi
      cases e
      have htk : cs.take (i + 1) = cs.take i ++ [cs[i]] := by rw [List.take_add_one, List.getElem?_eq_getElem hi]; rfl
      have hxm : cs[i] ∈ cs := List.getElem_mem hi
      generalize cs[i] = x at *
      by_cases hx : 0 ≤ x ∧ x < 16777216
      · have hd1 : decide (x < 0) = false := by simp; omega
        have hd2 : decide (16777216 ≤ x) = false := by simp; omega
        have hlt := blk_lt HOb.out
        obtain ⟨v0, v1, w1, w2, hlook, ⟨A0, n0, c0, rfl⟩, hrun, ⟨A1, n1, c1, rfl⟩, hlow, hput, hO2, hkeep, hbl⟩ := HO.out.add (by omega) (by simp; omega) x
        have hlen : (cs.take i).length = i := by simp; omega
        rw [hlen] at hrun
        have hl1 := hlook wr rfl
        have hl2 := hlook wr.drew rfl
        have hpl : wr.heap.size ≤ wr.heap.size := Nat.le_refl _
        have hl3 := hlook (wr.alloc (.cells #[.int .i64 (i : Int)] 3)) (Below.heap_alloc _ _ _ (by omega))
        have hl4 := hlook (wr.alloc (.cells #[.int .i64 (i : Int)] 3)).drew (Below.heap_alloc _ _ _ (by omega))
        have co1 : wr.cell? ⟨N0 + 2, 0, none⟩ = some (.map (some (N0 + 1))) := cell_blk HOb.out rfl
        have co2 : (wr.alloc (.cells #[.int .i64 (i : Int)] 3)).cell? ⟨N0 + 2, 0, none⟩ = some (.map (some (N0 + 1))) := cell_blk ((Below.heap_alloc _ _ _ (by omega)).trans HOb.out) rfl
        have co3 : w1.cell? ⟨N0 + 2, 0, none⟩ = some (.map (some (N0 + 1))) := cell_blk ((hlow _ (by omega)).trans HOb.out) rfl
        have HREL : Aside (∃ (i' : Nat) (m : List (Int × Value)), Aside (i' + (cs.length - (i + 1)) = cs.length) ∧ Value.int .i64 ((i : Int) + 1) = .int .i64 i' ∧ Aside (good (cs.take i')) ∧ Aside (OfIs w2 (N0 + 3) (N0 + 1) m (cs.take i')) ∧
            Aside (w2.heap[N0]? = some (.cells #[.pointer (some ⟨g0, 0, none⟩)] 41 (0, 0))) ∧ Aside (w2.heap[N0 + 2]? = some (.cells #[.map (some (N0 + 1))] 65 (0, 0))) ∧ Aside (Below N0 w w2)) :=
          ⟨i + 1, _, ⟨by omega⟩, by go_num, ⟨by rw [htk]; intro y hy; rcases List.mem_append.1 hy with hy | hy; exact HGd.out y hy; simp at hy; subst hy; exact hx⟩, ⟨by rw [htk]; exact hO2⟩, ⟨(hkeep _ (by omega) (by omega)).trans HGb.out⟩, ⟨(hkeep _ (by omega) (by omega)).trans HOb.out⟩, ⟨HB.out.trans (hbl.mono (by omega))⟩⟩
        have hms : cs.length - (i + 1) < gk := by have := HI.out; omega
        clear hlook hO2 hkeep hbl hlow HO HGb HOb HB HGd HI htk hxm hx hBw hlt hlen hpl
        go_wp2
        go_region
        go_wp2
        go_roundg (cs.length - (i + 1))
        case measure => exact hms
        case rel => exact HREL.out
      · have hbad : ¬ good cs := fun h => hx (h x hxm)
        have HP : Aside (ForestPost w cs out (.returned (.tuple #[.slice none 0 0, .int .i64 191])) wr) := ⟨⟨fun h => absurd h hbad, fun _ => rfl, hBw⟩⟩
        clear HO HGb HOb HB HGd HI htk hxm hBw hbad
        by_cases hx0 : x < 0
        · have hd1 : decide (x < 0) = true := decide_eq_true hx0
          clear hx hx0
          go_wp2
          exact ⟨_, by simp [results, Tryd.results16, go_sem], HP.out⟩
        · have hd1 : decide (x < 0) = false := decide_eq_false hx0
          have hd2 : decide (16777216 ≤ x) = true := by simp; omega
          clear hx hx0
          go_wp2
          exact ⟨_, by simp [results, Tryd.results16, go_sem], HP.out⟩
    · have hil : cs.length ≤ i := by omega
      have hgood : good cs := by have := HGd.out; rwa [List.take_of_length_le hil] at this
      have hOf := HO.out
      rw [List.take_of_length_le hil] at hOf
      have HOf := Aside.mk hOf
      have hdec : decide (i < cs.length) = false := by simp; omega
      have hdec2 : decide ((i : Int) < (cs.length : Int)) = false := by simp; omega
      have HGood := Aside.mk hgood
      have HBw : Aside (Below w.heap.size w wr) := ⟨by have := HB.out; rw [HN0.out] at this; exact this⟩
      have HNlt : Aside (N0 + 3 ≤ wr.heap.size) := ⟨blk_lt HOb.out⟩
      clear HO HGd HI hi hil hgood hOf HB
      have hmkI : ∀ W : World, (Instr.makeSlice 48 (.int .i64 (cs.length : Int)) (.int .i64 (cs.length : Int))).run Tryd.prog W = .ok (.slice (some ⟨W.heap.size, 0, none⟩) cs.length cs.length) (W.alloc (.cells (madeCells #[.int .i64 0] cs.length) 3)) := fun W =>
        run_make_row' 48 3 (.int .i64 0) 8 Tryd.underlying48 Tryd.info3 rfl .i64 .i64 cs.length (by omega) (by omega) W
      have hmkR : ∀ W : World, (Instr.makeSlice 67 (.int .i64 (cs.length : Int)) (.int .i64 (cs.length : Int))).run Tryd.prog W = .ok (.slice (some ⟨W.heap.size, 0, none⟩) cs.length cs.length) (W.alloc (.cells (madeCells #[.slice none 0 0] cs.length) 48)) := fun W =>
        run_make_row' 67 48 (.slice none 0 0) 24 Tryd.underlying67 Tryd.info23 rfl .i64 .i64 cs.length (by omega) (by omega) W
      go_wp2
      refine made4 (n := cs.length) hn1 ?_
      intro b2 b5 b8 b11 b13 b14 W4 hB4
      clear hmkI hmkR hdec hdec2
      have HF4 := Aside.mk (FSt.made hB4)
      have HX4 : Aside (W4.heap[b14]? = some (.cells #[.pointer (some ⟨b13, 0, none⟩)] 66 (0, 0)) ∧ wr.heap.size ≤ b14) := ⟨hB4.2.1 (b14, .cells #[.pointer (some ⟨b13, 0, none⟩)] 66 (0, 0)) (by simp)⟩
      have HB4 : Aside (Below wr.heap.size wr W4) := ⟨hB4.1⟩
      have HP4 : Aside (∀ q, q ∈ [b2, b5, b8, b11, b13] → wr.heap.size ≤ q ∧ q ≠ b14) := ⟨by
        obtain ⟨_, h2, h3⟩ := hB4
        simp only [List.map_cons, List.map_nil, List.nodup_cons, List.mem_cons, not_or] at h3
        simp only [List.mem_cons, forall_eq_or_imp] at h2
        intro q hq
        simp only [List.mem_cons, List.not_mem_nil, or_false] at hq
        obtain ⟨q2, q5, q8, q11, q13, q14, _⟩ := h2
        obtain ⟨n2, n5, n8, n11, n13, _⟩ := h3
        rcases hq with rfl | rfl | rfl | rfl | rfl
        · exact ⟨q2.2, n2.2.2.2.2.1⟩
        · exact ⟨q5.2, n5.2.2.2.1⟩
        · exact ⟨q8.2, n8.2.2.1⟩
        · exact ⟨q11.2, n11.2.1⟩
        · exact ⟨q13.2, n13.1⟩⟩
      clear hB4
      obtain ⟨B4, hB4⟩ : ∃ B, B = W4.heap.size := ⟨_, rfl⟩
      rw [← hB4] at HF4
      have HB4s := Aside.mk hB4
      obtain ⟨W0, rfl⟩ : ∃ W0 : World, W0 = wr := ⟨_, rfl⟩
      have c9 : W4.cell? ⟨b14, 0, none⟩ = some (.pointer (some ⟨b13, 0, none⟩)) := cell_blk HX4.out.1 rfl
      have c13 : W4.cell? ⟨b13, 0, none⟩ = some (.slice (some ⟨b2, 0, none⟩) cs.length cs.length) := cell_blk HF4.out.f rfl
      have HO4 : Aside (Only (fun q => q = b2) W4 W4) := ⟨Only.refl _ _⟩
      clear hB4
      go_wp2
      go_loopg [62] cs.length (fun kq ix wq => ∃ (i : Nat), Aside (i + kq = cs.length) ∧ ix = .int .i64 i ∧ Aside (FSt ⟨b13, b2, b5, b8, b11, B4⟩ cs.length wq ⟨List.replicate i (-1) ++ List.replicate (cs.length - i) 0, List.replicate cs.length 0, List.replicate cs.length 0, List.replicate cs.length []⟩ (List.replicate cs.length (.slice none 0 0))) ∧ Aside (Only (fun q => q = b2) W4 wq))
      case atStart => exact ⟨0, ⟨by omega⟩, rfl, ⟨by simpa using HF4.out⟩, HO4⟩
      case round =>
        clear HF4 HO4 c9 c13
        obtain ⟨i, HI, rfl, HF5, HO5⟩ := hrel
        have hx5 : wr.heap[b14]? = W4.heap[b14]? := HO5.out.block b14 (blk_lt HX4.out.1) fun e => (HP4.out b2 (by simp)).2 e.symm
        have c9 : wr.cell? ⟨b14, 0, none⟩ = some (.pointer (some ⟨b13, 0, none⟩)) := cell_blk (hx5.trans HX4.out.1) rfl
        have c13 : wr.cell? ⟨b13, 0, none⟩ = some (.slice (some ⟨b2, 0, none⟩) cs.length cs.length) := cell_blk HF5.out.f rfl
        by_cases hi : i < cs.length
        · obtain ⟨cu, fu⟩ := blk_int HF5.out.u i (by rw [HF5.out.nu]; exact hi)
          have hs := HF5.out.setUp i (-1)
          have hl : (List.replicate i (-1 : Int) ++ List.replicate (cs.length - i) 0).set i (-1) = List.replicate (i + 1) (-1) ++ List.replicate (cs.length - (i + 1)) 0 := by
            refine List.ext_getElem (by simp; omega) fun j h1 h2 => ?_
            simp only [List.getElem_set, List.getElem_append, List.length_replicate, List.getElem_replicate]
            repeat' split
            all_goals omega
          simp only at hs
          rw [hl] at hs
          have HS := Aside.mk hs
          have HO6 : Aside (Only (fun q => q = b2) W4 (wr.setCell ⟨b2, i, none⟩ (.int .i64 (-1)))) := ⟨HO5.out.set (a := ⟨b2, i, none⟩) rfl _⟩
          clear hs hl HF5 HO5 hx5
          simp only at cu
          generalize (List.replicate i (-1 : Int) ++ List.replicate (cs.length - i) 0).getD i 0 = y at cu
          go_wp2
          go_roundg (cs.length - (i + 1))
          case measure => have := HI.out; omega
          case rel => exact ⟨i + 1, ⟨by omega⟩, by go_num, HS, HO6⟩
        · have hil : cs.length = i := by have := HI.out; omega
          have hdec : decide (i < cs.length) = false := by simp; omega
          have hdec2 : decide ((i : Int) < (cs.length : Int)) = false := by simp; omega
          have hst := HF5.out
          rw [← hil, Nat.sub_self] at hst
          have HS : Aside (FSt ⟨b13, b2, b5, b8, b11, B4⟩ cs.length wr (startF cs.length) (List.replicate cs.length (.slice none 0 0))) := ⟨by simpa [startF] using hst⟩
          have HX5 := Aside.mk (hx5.trans HX4.out.1)
          clear hst HF5 HI hi hx5 hil
          have hbw0 : Below W0.heap.size W0 wr := HB4.out.trans (HO5.out.below (B := W0.heap.size) HB4.out.size fun q hq e => by subst e; have := (HP4.out q (by simp)).1; omega)
          have hlt0 := HNlt.out
          have HW5 : Aside (Below W0.heap.size W0 (wr.alloc (.cells #[.slice none 0 0] 22))) := ⟨hbw0.alloc hbw0.size _⟩
          have HF5 : Aside (FSt ⟨b13, b2, b5, b8, b11, B4⟩ cs.length (wr.alloc (.cells #[.slice none 0 0] 22)) (startF cs.length) (List.replicate cs.length (.slice none 0 0))) := ⟨HS.out.kept2 (fun q hq => Below.heap_alloc _ _ _ (by have h1 := HO5.out.size; have h2 := HB4s.out; simp only at hq; omega)) (fun q hq => Below.heap_alloc _ _ _ (HS.out.foot_lt (by have h1 := HO5.out.size; have h2 := HB4s.out; simp only; omega) hq))⟩
          have HX6 : Aside ((wr.alloc (.cells #[.slice none 0 0] 22)).heap[b14]? = some (.cells #[.pointer (some ⟨b13, 0, none⟩)] 66 (0, 0))) := ⟨(Below.heap_alloc _ _ _ (blk_lt HX5.out)).trans HX5.out⟩
          have HOX : Aside ((wr.alloc (.cells #[.slice none 0 0] 22)).heap[wr.heap.size]? = some (.cells #[.slice none 0 0] 22 (0, 0))) := ⟨heap_alloc_new _ _⟩
          have hsz5 : (wr.alloc (.cells #[.slice none 0 0] 22)).heap.size = wr.heap.size + 1 := World.size_alloc _ _
          have HSZ : Aside (W4.heap.size ≤ wr.heap.size) := ⟨HO5.out.size⟩
          go_upto_region 18 with (fail)
          generalize wr.alloc (.cells #[.slice none 0 0] 22) = W5 at *
          obtain ⟨ox, hox⟩ : ∃ ox, ox = wr.heap.size := ⟨_, rfl⟩
          rw [← hox] at hsz5 HOX HSZ ⊢
          have HSZ5 := Aside.mk hsz5
          have HOb5 : Aside (W5.heap[N0 + 2]? = some (.cells #[.map (some (N0 + 1))] 65 (0, 0))) := ⟨(HW5.out.block _ (by omega)).trans HOb.out⟩
          have HOf5 : Aside (OfIs W5 (N0 + 3) (N0 + 1) m cs) := ⟨HOf.out.below HW5.out⟩
          have co5 : W5.cell? ⟨N0 + 2, 0, none⟩ = some (.map (some (N0 + 1))) := cell_blk HOb5.out rfl
          clear hox hbw0 hsz5 HX5 HS HO5
          go_wp2_with fail
          refine (keysOf_any _ _).mono ?_
          rintro e w6 ⟨rfl, rfl⟩
          have hkeys := HOf5.out.keys
          have hml : m.length ≤ 16777216 := by
            have h1 := congrArg List.length hkeys
            have h2 := keys_length (cs := cs) (ks := [])
            simp at h1 h2
            omega
          have hwf : ∀ x ∈ m.map (·.1), (Lit.int .i64 x).wf = true := fun x hx => by
            rw [hkeys, keys_mem] at hx
            obtain ⟨h1, h2⟩ := HGood.out x (by simpa using hx)
            have e1 : IntKind.i64.min = -9223372036854775808 := rfl
            have e2 : IntKind.i64.max = 9223372036854775807 := rfl
            simp only [Lit.wf, e1, e2, Bool.and_eq_true, decide_eq_true_eq]
            omega
          have hb6 : Below W5.heap.size W5 (W5.alloc (.cells #[.map (some (N0 + 1))] 65)) := (Below.refl _ _).alloc (Nat.le_refl _) _
          have hcon := sortedKeys_any (kb := W5.heap.size) (HOf5.out.is.below hb6) hwf hml (cell_blk (heap_alloc_new W5 _) rfl) (by simp)
          rw [hkeys] at hcon
          have HB6 := Aside.mk hb6
          clear hkeys hml hwf hb6 co5
          go_wp2_with fail
          refine hcon.mono ?_
          clear hcon
          rintro e w7 ⟨lv, rfl, hlo, hb7⟩
          have hb57 : Below W5.heap.size W5 w7 := HB6.out.trans (hb7.mono (by simp))
          have hlo2 : w7.ownsRow W5.heap.size 3 1 lv (levelsOf cs).length (ints (levelsOf cs)) := hlo.mono (by simp)
          have HLO := Aside.mk (own_ints hlo2).sl
          have HB7 := Aside.mk hb57
          obtain ⟨A7, c7, rfl, hc7, hm7⟩ := HLO.out.slice
          clear hlo hb7 hb57 hlo2 HB6
          go_wp2_with fail
          refine (backward_any _ _ _ _).mono ?_
          rintro e w8 ⟨rfl, rfl⟩
          go_wp2_with fail
          have h8 : (w7.alloc (.cells #[.slice A7 (levelsOf cs).length c7] 48)).heap.size = w7.heap.size + 1 := World.size_alloc _ _
          have hb8 : Below W5.heap.size W5 (w7.alloc (.cells #[.slice A7 (levelsOf cs).length c7] 48)) := HB7.out.alloc HB7.out.size _
          have hc8 : (w7.alloc (.cells #[.slice A7 (levelsOf cs).length c7] 48)).cell? ⟨w7.heap.size, 0, none⟩ = some (.slice A7 (levelsOf cs).length c7) := cell_blk (heap_alloc_new w7 _) rfl
          have hl8 : Sl kint (w7.alloc (.cells #[.slice A7 (levelsOf cs).length c7] 48)) (fun q => W5.heap.size ≤ q ∧ q < w7.heap.size + 1) (.slice A7 (levelsOf cs).length c7) (levelsOf cs) :=
            (HLO.out.bound.mono fun q hq => ⟨hq.1, by have := hq.2; omega⟩).below ((Below.refl _ w7).alloc (Nat.le_refl _) _)
          generalize w7.alloc (.cells #[.slice A7 (levelsOf cs).length c7] 48) = W8 at *
          obtain ⟨bs, hbs⟩ : ∃ bs, bs = w7.heap.size := ⟨_, rfl⟩
          have h57 := HB7.out.size
          rw [← hbs] at h8 hc8 hl8 h57 ⊢
          clear HLO HB7 hbs
          have hord : W0.heap.size ≤ W4.heap.size := HB4.out.size
          have hsz := HSZ.out
          have hsz5 := HSZ5.out
          have hf : forestF K adj cs = some out := HF.out HGood.out
          unfold forestF at hf
          obtain ⟨fin, hfin, hfo⟩ := Option.map_eq_some_iff.1 hf
          have hB4 := HB4s.out
          have hrows : ∀ (j : Nat) (u : Value), (List.replicate cs.length (Value.slice none 0 0))[j]? = some u → u.ownBlock = none := fun j u hj => by
            rw [List.getElem?_replicate] at hj
            split at hj
            · cases hj; rfl
            · cases hj
          have hI0 : RInv ⟨b13, b2, b5, b8, b11, B4⟩ cs.length K adj cs W0 W5.heap.size (bs + 1) ox b14 fin (levelsOf cs).reverse 0 W8 := by
            refine ⟨_, _, _, .slice none 0 0, hfin, ⟨HF5.out.kept2 (fun q hq => hb8.block q (by simp only at hq; omega)) (fun q hq => hb8.block q (HF5.out.foot_lt (by simp only; omega) hq)), fun q hq => ?_, HW5.out.trans (hb8.mono (by omega)), by omega, World.ownsRow_nil _ _ _ _, fun q e => (by cases e), (hb8.block _ (by omega)).trans HOX.out, by simp, (hb8.block _ (blk_lt HX6.out)).trans HX6.out, fun q hq => ?_⟩⟩
            · have hlt := HF5.out.ltB
              simp only at hlt
              rcases hq with hq | hq | hq | hq | ⟨j, u, hj, hu⟩
              · have hq2 : q = b2 := hq
                rw [hq2]
                exact ⟨(HP4.out b2 (by simp)).1, by omega, .inl (by omega)⟩
              · have hq2 : q = b5 := hq
                rw [hq2]
                exact ⟨(HP4.out b5 (by simp)).1, by omega, .inl (by omega)⟩
              · have hq2 : q = b8 := hq
                rw [hq2]
                exact ⟨(HP4.out b8 (by simp)).1, by omega, .inl (by omega)⟩
              · have hq2 : q = b11 := hq
                rw [hq2]
                exact ⟨(HP4.out b11 (by simp)).1, by omega, .inl (by omega)⟩
              · rw [hrows j u hj] at hu; cases hu
            · rcases hq with hq | hq | hq | hq | ⟨j, u, hj, hu⟩
              · exact fun e => (HP4.out b2 (by simp)).2 ((show q = b2 from hq) ▸ e)
              · exact fun e => (HP4.out b5 (by simp)).2 ((show q = b5 from hq) ▸ e)
              · exact fun e => (HP4.out b8 (by simp)).2 ((show q = b8 from hq) ▸ e)
              · exact fun e => (HP4.out b11 (by simp)).2 ((show q = b11 from hq) ▸ e)
              · rw [hrows j u hj] at hu; cases hu
          have HFT : Aside (fin.2 = out) := ⟨hfo⟩
          clear hf hfin hfo hrows HF5 HOX HOf5 HOb5
          have HW8 : Aside (Below W5.heap.size W5 W8) := ⟨hb8⟩
          clear hb8
          refine (wpIn_wide (n := 6)).1 ?_
          refine range_known (F := Fence.wide) (n := 6) rfl (by omega) (gf := 40) (lb := #[.pointer (some ⟨bs, 0, none⟩)]) rfl trivial (enters_of Tryd.func40 (by kernel_rfl) rfl) (encs := fun x : Nat × Int => #[.int .i64 (x.1 : Int), .int .i64 x.2])
            (Kp := Stay fun q => W5.heap.size ≤ q ∧ q < bs + 1) (back (levelsOf cs) (levelsOf cs).length) (fun l J W hb hY h0 => backward_known (n := 6 - 1) trivial rfl (by omega) ⟨by omega, by omega⟩ hc8 hl8 l J W hb hY h0)
            (fun h k q hq hlt => ⟨((k q hq (h q hq hlt).2).1).trans (h q hq hlt).1, (k q hq (h q hq hlt).2).2⟩)
            (fun W l o o' hl _ _ q hq hlt => ⟨World.putObj_heap_other (by omega), by simpa using hlt⟩) (fun _ => rfl)
            (RInv ⟨b13, b2, b5, b8, b11, B4⟩ cs.length K adj cs W0 W5.heap.size (bs + 1) ox b14 fin (levelsOf cs).reverse) (by rw [h8]; exact RInv.own (by simp only; omega) (by omega) (by have := blk_lt HX4.out.1; omega) (by omega)) hI0 ?round ?done
          case round =>
            clear hI0 hc8
            intro l k x W K hx hK
            gi_wp2
            rintro W2 ⟨S, o, rows, ov, hr, h⟩ hsz2
            have hxk : (levelsOf cs).reverse[k]? = some x.2 := by rw [← back_vals, List.getElem?_map, hx]; rfl
            obtain ⟨hkl, hke⟩ := List.getElem?_eq_some_iff.1 hxk
            rw [List.drop_eq_getElem_cons hkl, hke] at hr
            simp only [levelsF, List.foldlM_cons] at hr
            obtain ⟨⟨S', o'⟩, h1, hr⟩ := Option.bind_eq_some_iff.1 hr
            have hle := levelF_le h1 h.le
            unfold levelF at h1
            obtain ⟨S1, ht, h1⟩ := Option.bind_eq_some_iff.1 h1
            obtain ⟨⟨ks, S2⟩, hp, h1⟩ := Option.bind_eq_some_iff.1 h1
            simp only at h1 ht hp hle
            by_cases hok : lvOk ks S2.least
            · rw [if_pos hok] at h1
              obtain ⟨⟨o2, tops'⟩, hroot, e⟩ := Option.map_eq_some_iff.1 h1
              cases e
              have hO2 : OfIs W2 (N0 + 3) (N0 + 1) m cs := HOf.out.kept (h.below.block _ HOf.out.is.lt) fun y q e => h.below.block q ((HOf.out.own y).lt q e).2
              have hlook := map_look (P := Tryd.prog) (key_int Tryd.underlying3) hO2.is (t := 65) Tryd.underlying65 (z := .slice none 0 0) (fun w => by kernel_rfl) x.2 false
              have hnf : ∀ q, q < W0.heap.size → ¬ foot ⟨b13, b2, b5, b8, b11, B4⟩ rows q := fun q hq hf => by have := (h.ft q hf).1; omega
              have hv0 : Sl kint W2 (fun q => ¬ foot ⟨b13, b2, b5, b8, b11, B4⟩ rows q) ((mget m x.2).getD (.slice none 0 0)) (grp cs x.2) :=
                ((own_ints (HOf.out.own x.2)).sl.bound.step fun q hq hlt => h.below.block q hlt).mono fun q hq => hnf q hq.2
              generalize (mget m x.2).getD (.slice none 0 0) = v0 at hlook hv0
              simp only [Bool.false_eq_true, if_false] at hlook
              have hG2 : GraphIs W2 (fun q => ¬ foot ⟨b13, b2, b5, b8, b11, B4⟩ rows q) (.pointer (some ⟨g0, 0, none⟩)) cs.length adj := by
                obtain ⟨gb, mv, tv, e, g1, g2, g3⟩ := HG.out
                have hbw := HBw.out.size
                refine ⟨gb, mv, tv, e, hnf gb (by have := blk_lt g2; omega), ?_, ?_⟩
                · exact ((h.below.block gb (by have := blk_lt g2; omega)).trans (HBw.out.block gb (blk_lt g2))).trans g2
                · exact (g3.bound.step fun q hq hlt => (h.below.block q (by omega)).trans (HBw.out.block q hlt)).mono fun q hq => hnf q (by omega)
              have hcon := level_any h.st (by simp only; omega) hG2 hal hadj hv0 (fun v hv => grp_mem hv) (by have := grp_length cs x.2; omega) h.own (fun q e => (h.ovn q e).2) ht hp hok.1 hok.2 (k := x.2) hroot
              have cg : W2.cell? ⟨N0, 0, none⟩ = some (.pointer (some ⟨g0, 0, none⟩)) := cell_blk ((h.below.block _ (by omega)).trans HGb.out) rfl
              have co : W2.cell? ⟨N0 + 2, 0, none⟩ = some (.map (some (N0 + 1))) := cell_blk ((h.below.block _ (by omega)).trans HOb.out) rfl
              have cf : W2.cell? ⟨b14, 0, none⟩ = some (.pointer (some ⟨b13, 0, none⟩)) := cell_blk h.fx rfl
              have cx : W2.cell? ⟨ox, 0, none⟩ = some ov := cell_blk h.box rfl
              obtain ⟨A0, c0, rfl, _, _⟩ := hv0.slice
              obtain ⟨A1, c1, rfl⟩ : ∃ A c, ov = .slice A o.length c := by
                rcases h.own.2 with ⟨rfl, h0⟩ | ⟨g, cap, cur, rfl, _⟩
                · exact ⟨none, 0, by rw [h0]⟩
                · exact ⟨_, _, rfl⟩
              have hlt14 := blk_lt HX4.out.1
              have hnext := fun e w1 => RSt.next (e := e) (w1 := w1) (S' := { S2 with tops := tops' }) (out' := o2) h (by omega) (by omega) (by omega) (by omega) (by simp only; omega) (by omega) (hle := hle)
              have HR := Aside.mk hr
              have HN := Aside.mk hnext
              clear hnext hr h hO2 hv0 hG2 hnf ht hp hok hroot h1 hle hxk hkl hke hx
              gi_wp2
              refine ⟨trivial, (CallsIn.inRound l (callsIn_wide.2 hcon)).mono ?_⟩
              clear hcon
              rintro e w3 hp3
              obtain ⟨rows', ov', rfl, ⟨A9, c9', rfl⟩, hbox3, hR3, hK3, hS3⟩ := HN.out e w3 hp3
              have cx3 : w3.cell? ⟨ox, 0, none⟩ = some (.slice A1 o.length c1) := cell_blk hbox3 rfl
              have fx3 : w3.frozen? ⟨ox, 0, none⟩ = false := frozen_of_row w3 ox 0 _ _ hbox3
              have HFIN : Aside (KeepsFrom W8.heap.size W2 (w3.setCell ⟨ox, 0, none⟩ (.slice A9 o2.length c9')) ∧ Stay (fun q => W5.heap.size ≤ q ∧ q < bs + 1) W2 (w3.setCell ⟨ox, 0, none⟩ (.slice A9 o2.length c9')) ∧ RInv ⟨b13, b2, b5, b8, b11, B4⟩ cs.length K adj cs W0 W5.heap.size (bs + 1) ox b14 fin (levelsOf cs).reverse (k + 1) (w3.setCell ⟨ox, 0, none⟩ (.slice A9 o2.length c9'))) :=
                ⟨by rw [h8]; exact hK3, fun q hq hlt => ⟨hS3 q hq, Nat.lt_of_lt_of_le hlt hK3.size⟩, _, _, _, _, HR.out, hR3⟩
              clear hp3 hbox3 hR3 hK3 hS3 HN HR cx
              gi_wp2
              exact HFIN.out
            · rw [if_neg hok] at h1; cases h1
          case done =>
            clear hI0 hc8
            rintro D W9 hD ⟨S, o, rows, ov, hr, h⟩ hKd
            rw [back_length, List.drop_of_length_le (by simp)] at hr
            simp only [levelsF, List.foldlM_nil] at hr
            cases hr
            have hfo : o = out := HFT.out
            subst hfo
            have cx : W9.cell? ⟨ox, 0, none⟩ = some ov := cell_blk h.box rfl
            obtain ⟨A1, c1, rfl⟩ : ∃ A c, ov = .slice A o.length c := by
              rcases h.own.2 with ⟨rfl, h0⟩ | ⟨g, cap, cur, rfl, _⟩
              · exact ⟨none, 0, by rw [h0]⟩
              · exact ⟨_, _, rfl⟩
            have hcon := clone_node h.own h.le
            have hb9 : Below w.heap.size w W9 := HBw.out.trans (h.below.mono HBw.out.size)
            have hDw : w.heap.size ≤ D := by have := HBw.out.size; have := HW5.out.size; have := HW8.out.size; omega
            have HB9 := Aside.mk hb9
            clear h hb9
            go_wp2_with fail
            refine hcon.mono ?_
            clear hcon
            rintro e w10 ⟨v, rfl, hv, hb10⟩
            have hDl := blk_lt hKd
            obtain ⟨A2, c2, rfl⟩ : ∃ A c, v = .slice A o.length c := by
              rcases hv.2 with ⟨rfl, h0⟩ | ⟨g, cap, cur, rfl, _⟩
              · exact ⟨none, 0, by rw [h0]⟩
              · exact ⟨_, _, rfl⟩
            have hKd2 : w10.heap[D]? = some (.deferred (some [])) := (hb10.block D hDl).trans hKd
            have hput : ∀ q, q ≠ D → (w10.putObj D (.deferred none)).heap[q]? = w10.heap[q]? := fun q hq => World.putObj_heap_other hq
            have h99 := HB9.out.size
            have hb := HB9.out.trans (hb10.mono h99)
            have hbp : Below w.heap.size w (w10.putObj D (.deferred none)) := ⟨hb.os, hb.tape, hb.output, by have := hb.size; simpa using this, fun q hq => (hput q (by omega)).trans (hb.block q hq)⟩
            have HP : Aside (ForestPost w cs o (.returned (.tuple #[.slice A2 o.length c2, .int .i64 0])) (w10.putObj D (.deferred none))) := ⟨⟨fun _ => ⟨_, rfl, ownsRow_move (hv.mono h99) fun q e => hput q (by have := (hv.lt q e).1; omega)⟩, fun hb => absurd HGood.out hb, hbp⟩⟩
            · clear hv hput hb10 HB9 hb hbp
              go_wp2
              refine ⟨by simp, .inl ⟨_, _, rfl, run_takeDeferred hKd2, ?_⟩⟩
              exact ⟨_, by simp [results, Tryd.results16, go_sem], HP.out⟩
end Go.Proofs.YtikgdhmnnnicmaaDoor
