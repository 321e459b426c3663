/- The law NestForest walked: true at every input. No condition. -/
import Derived.Test.YtikgdhmnnnicmaaMd
import Derived.Test.YtikgdhmnnnicmaaSf
import Derived.Test.Ytikgdhmnnnicmaa5
namespace Go.Proofs.Ytikgdhmnnnicmaa
open Go.RowKit
theorem ints_blk {w : World} {ib x : Nat} {s : List Int} (h : w.heap[ib]? = some (.cells (ints s).toArray 3 (0, 0))) (hx : x < s.length) : w.cell? ⟨ib, x, none⟩ = some (.int .i64 (s.getD x 0)) ∧ w.frozen? ⟨ib, x, none⟩ = false ∧
    ∀ y : Int, (w.setCell ⟨ib, x, none⟩ (.int .i64 y)).heap[ib]? = some (.cells (ints (s.set x y)).toArray 3 (0, 0)) := by
  refine ⟨cell_blk h ?_, by simp [World.frozen?, h], fun y => ?_⟩
  · simp [ints, hx]
  · simp [World.setCell, Array.getElem?_modify, h, ints, List.map_set]
theorem toList_made_ints (n : Nat) : madeCells #[.int .i64 0] n = (ints (List.replicate n 0)).toArray := by rw [ints, List.map_replicate, ← toList_madeCells_one]
set_option maxHeartbeats 8000000 in
set_option maxRecDepth 100000 in
theorem NestForest_any {w : World} {v1 v2 : Value} {ps : List Pair} {cs : List Int} {n : Int} (h1 : Sl kpair w (fun _ => True) v1 ps) (h2 : Sl kint w (fun _ => True) v2 cs) : Calls Try.prog 5 #[.int .i64 n, v1, v2] w (LawPost w) := by
  obtain ⟨A1, c1, rfl, hc1, hm1⟩ := h1.slice
  obtain ⟨A2, c2, rfl, hc2, hm2⟩ := h2.slice
  have H1 := Aside.mk h1.bound
  have H2 := Aside.mk h2.bound
  clear h1 h2
  go_enter Try.func5, Try.ntmps5
  go_wp2_with fail
  refine (first_any w).mono ?_
  rintro e w1 ⟨rfl, B1⟩
  have HB1 := Aside.mk B1
  have hmade := made_any n (H1.out.below B1)
  clear B1
  go_wp2_with fail
  refine hmade.mono ?_
  clear hmade
  rintro e w2 ⟨hy, hno, B2⟩
  have HB2 := Aside.mk (bthen HB1.out HB1.out.size B2)
  by_cases hs : 0 ≤ n ∧ n ≤ 300 ∧ ps.length ≤ 20000
  · obtain ⟨N, gb, qs, tv, rfl, hq, hql, rfl, hG, ht⟩ := hy hs
    have hN : N ≤ 300 := by omega
    have HG := Aside.mk hG
    have HQ := Aside.mk (And.intro hq hql)
    clear hy hno B2 HB1 hs hG ht hq hql
    go_wp2_with fail
    refine (may_any (N : Int) (H2.out.below HB2.out)).mono ?_
    rintro e w3 ⟨b, rfl, hb, rfl⟩
    cases b with
    | false =>
      clear hb
      go_wp2
      go_ret
      exact ⟨rfl, HB2.out⟩
    | true =>
      obtain ⟨hgd, hlen⟩ := hb.1 rfl
      have hlen : cs.length = N := by omega
      have hf := Forest_all HG.out (H2.out.below HB2.out) (by omega) HQ.out.1 (by have := HQ.out.2; omega)
      have HNF := Aside.mk (nest_NF HQ.out.1 (by omega) hlen)
      have HFine := Aside.mk (And.intro hgd hlen)
      clear hb hgd hlen
      go_wp2_with fail
      refine hf.mono ?_
      clear hf
      rintro e w3 ⟨hyes, _, B3⟩
      obtain ⟨v3, rfl, h3⟩ := hyes HFine.out
      have HB3 := Aside.mk (bthen HB2.out HB2.out.size B3)
      have hsl := (own_nodes h3).sl
      generalize nestS N qs cs = l at *
      obtain ⟨A3, c3, rfl, hc3, hm3⟩ := hsl.slice
      have HL : Aside (∀ W, Below w3.heap.size w3 W → Sl knode W (fun _ => True) (.slice A3 l.length c3) l) := ⟨fun W hW => (hsl.below hW).mono fun _ _ => trivial⟩
      have hl : l.length ≤ N := HNF.out.len
      clear hyes B3 h3 hsl HFine HG HB2
      go_wp2_with fail
      refine (num_any 0 w3).mono ?_
      rintro e w4 ⟨rfl, rfl⟩
      have hmk := run_make_row' (P := Try.prog) 23 3 (.int .i64 0) 8 Try.underlying23 Try.info3 rfl .i64 .i64 l.length (by omega) (by omega)
      have d57 : decide (N < l.length) = false := decide_eq_false (by omega)
      have d58 : decide ((N : Int) < (l.length : Int)) = false := decide_eq_false (by omega)
      go_upto_region 11 with (fail)
      have hib : (w3.alloc (.cells (madeCells #[.int .i64 0] l.length) 3)).heap[w3.heap.size]? = some (.cells (ints (insN l 0)).toArray 3 (0, 0)) := by
        rw [heap_alloc_new, toList_made_ints]
        rfl
      have hbb := (Below.refl w3.heap.size w3).alloc (Nat.le_refl _) (.cells (madeCells #[.int .i64 0] l.length) 3)
      obtain ⟨ib, hibe⟩ : ∃ ib, ib = w3.heap.size := ⟨_, rfl⟩
      rw [← hibe] at hib hbb ⊢
      generalize w3.alloc (.cells (madeCells #[.int .i64 0] l.length) 3) = w4 at *
      have HIB := Aside.mk hib
      have HBB := Aside.mk hbb
      have HIE := Aside.mk hibe
      clear hib hbb hibe hmk
      go_upto_region 12 with (fail)
      go_loopg [13, 15] l.length (fun kq v13 v15 wr => ∃ (i : Nat), Aside (i + kq = l.length) ∧ v15 = .int .i64 i ∧ v13 = .int .i64 (rootsN l i) ∧ Aside (Below ib w3 wr) ∧ Aside (wr.heap[ib]? = some (.cells (ints (insN l i)).toArray 3 (0, 0))))
      case atStart => exact ⟨0, ⟨by omega⟩, rfl, rfl, HBB, HIB⟩
      case round =>
        clear HIB HBB
        obtain ⟨i, HI, rfl, rfl, HBB, HIB⟩ := hrel
        by_cases hi : i < l.length
        · have hx : l[i]? = some l[i] := List.getElem?_eq_getElem hi
          obtain ⟨e1, e2, e3, e4, e5, e6⟩ := HNF.out.el i l[i] hx
          have hr1 := HNF.out.roots i (by omega)
          have hr2 := HNF.out.roots (i + 1) (by omega)
          have HRS := Aside.mk (rootsN_succ hi)
          have HIS := Aside.mk (insN_succ hi)
          have hb3 : Below w3.heap.size w3 wr := by rw [← HIE.out]; exact HBB.out
          obtain ⟨b, o, e, k0, k1, k2, k3⟩ := (HL.out wr hb3).node i hi
          cases e
          have hprev : i = 0 ∨ ∃ (j : Nat) (y : Node), i = j + 1 ∧ l[j]? = some y ∧ Ahead y l[i] := by
            rcases Nat.eq_zero_or_pos i with h | h
            · exact .inl h
            · obtain ⟨j, rfl⟩ : ∃ j, i = j + 1 := ⟨i - 1, by omega⟩
              have hj : l[j]? = some l[j] := List.getElem?_eq_getElem (by omega)
              exact .inr ⟨j, l[j], rfl, hj, HNF.out.next j l[j] l[j + 1] hj hx⟩
          have hpar : l[i].Parent = -1 ∨ ∃ (j : Nat) (y : Node), l[i].Parent = (j : Int) ∧ i < j ∧ l[j]? = some y ∧ y.K < l[i].K ∧ y.Least ≤ l[i].Least := by
            by_cases q : 0 ≤ l[i].Parent
            · exact .inr (e6 q)
            · exact .inl (by omega)
          have hins : ∀ (j : Nat) y, l[i].Parent = (j : Int) → l[j]? = some y → (0 ≤ (insN l i).getD j 0 ∧ (insN l i).getD j 0 < y.Size) ∧ y.Size ≤ N := fun j y _ hy => ⟨HNF.out.ins i (by omega) j y hy, (HNF.out.el j y hy).2.1⟩
          clear hx e6
          generalize rootsN l i = ri at *
          obtain ⟨ri1, hri1⟩ : ∃ r, r = rootsN l (i + 1) := ⟨_, rfl⟩
          rw [← hri1] at hr2 HRS
          have HRI := Aside.mk hri1
          clear hri1
          generalize l[i] = X at *
          obtain ⟨xk, xl, xs, xp⟩ := X
          simp only at e1 e2 e3 e4 e5 k0 k1 k2 k3
          have HPrev := Aside.mk hprev
          have HPar := Aside.mk hpar
          have HIns := Aside.mk hins
          clear hprev hpar hins
          go_upto_region 15 with (fail)
          have q0 : (wr.alloc (.cells #[.int .i64 xk, .int .i64 xl, .int .i64 xs, .int .i64 xp] 42)).cell? ⟨wr.heap.size, 0, none⟩ = some (.int .i64 xk) := cell_blk (heap_alloc_new _ _) rfl
          have q1 : (wr.alloc (.cells #[.int .i64 xk, .int .i64 xl, .int .i64 xs, .int .i64 xp] 42)).cell? ⟨wr.heap.size, 1, none⟩ = some (.int .i64 xl) := cell_blk (heap_alloc_new _ _) rfl
          have q2 : (wr.alloc (.cells #[.int .i64 xk, .int .i64 xl, .int .i64 xs, .int .i64 xp] 42)).cell? ⟨wr.heap.size, 2, none⟩ = some (.int .i64 xs) := cell_blk (heap_alloc_new _ _) rfl
          have q3 : (wr.alloc (.cells #[.int .i64 xk, .int .i64 xl, .int .i64 xs, .int .i64 xp] 42)).cell? ⟨wr.heap.size, 3, none⟩ = some (.int .i64 xp) := cell_blk (heap_alloc_new _ _) rfl
          have hbA := (Below.refl wr.heap.size wr).alloc (Nat.le_refl _) (.cells #[.int .i64 xk, .int .i64 xl, .int .i64 xs, .int .i64 xp] 42)
          have hsz : ib ≤ wr.heap.size := by have := HBB.out.size; have := HIE.out; omega
          have HB1 := Aside.mk (HBB.out.trans (hbA.mono hsz))
          have HI1 := Aside.mk (bblk hbA HIB.out)
          obtain ⟨xb, hxb⟩ : ∃ xb, xb = wr.heap.size := ⟨_, rfl⟩
          rw [← hxb] at q0 q1 q2 q3 ⊢
          generalize wr.alloc (.cells #[.int .i64 xk, .int .i64 xl, .int .i64 xs, .int .i64 xp] 42) = W1 at *
          have hb1 : Below w3.heap.size w3 W1 := by rw [← HIE.out]; exact HB1.out
          have HL1 := Aside.mk (HL.out W1 hb1)
          have f1 : decide (xs < 1) = false := decide_eq_false (by omega)
          have f2 : decide (xl < 0) = false := decide_eq_false (by omega)
          have f3 : decide ((N : Int) ≤ xl) = false := decide_eq_false (by omega)
          have HIN : Aside (l.length - (i + 1) < gk) := ⟨by have := HI.out; omega⟩
          clear k0 k1 k2 k3 HBB HIB hbA hb3 hsz hxb hb1
          go_cut [121] (fun v121 wx => v121 = .bool false ∧ Aside (Below ib w3 wx) ∧ Aside (wx.heap[ib]? = some (.cells (ints (insN l i)).toArray 3 (0, 0))) ∧ wx.cell? ⟨xb, 2, none⟩ = some (.int .i64 xs) ∧ wx.cell? ⟨xb, 0, none⟩ = some (.int .i64 xk) ∧ wx.cell? ⟨xb, 1, none⟩ = some (.int .i64 xl) ∧ wx.cell? ⟨xb, 3, none⟩ = some (.int .i64 xp))
          case first =>
            rcases HPrev.out with hi0 | ⟨j, y, hij0, hy, hay⟩
            · have f0 : decide (0 < i) = false := decide_eq_false (by omega)
              have f00 : decide ((0 : Int) < (i : Int)) = false := decide_eq_false (by omega)
              clear hi0
              go_quiet (fail)
              go_wp2
              go_meet
              case rel => exact ⟨rfl, ⟨bdrew HB1.out _⟩, ⟨HI1.out⟩, by simpa using q2, by simpa using q0, by simpa using q1, by simpa using q3⟩
            · have hjl : j < l.length := by omega
              have hye : l[j] = y := by rw [List.getElem?_eq_getElem hjl] at hy; exact Option.some.inj hy
              obtain ⟨b', o', e, p0, p1, p2, p3⟩ := HL1.out.node j hjl
              cases e
              rw [hye] at p0 p1
              obtain ⟨yk, yl, ys, yp⟩ := y
              simp only at p0 p1
              have f0 : decide (0 < i) = true := decide_eq_true (by omega)
              have f00 : decide ((0 : Int) < (i : Int)) = true := decide_eq_true (by omega)
              have hij : (i : Int) - 1 = (j : Int) := by omega
              clear hij0
              rcases hay with hlt | ⟨heq, hll⟩
              · simp only at hlt
                have f4 : decide (yk < xk) = false := decide_eq_false (by omega)
                have f5 : (yk == xk) = false := by simp; omega
                clear hlt hy hye p2 p3
                go_quiet (fail)
                go_wp2
                go_meet
                case rel => exact ⟨rfl, ⟨bdrew HB1.out _⟩, ⟨HI1.out⟩, by simpa using q2, by simpa using q0, by simpa using q1, by simpa using q3⟩
              · simp only at heq hll
                have f4 : decide (yk < xk) = false := decide_eq_false (by omega)
                have f5 : (yk == xk) = true := by simp; omega
                have f6 : decide (xl ≤ yl) = false := decide_eq_false (by omega)
                clear heq hll hy hye p2 p3
                go_quiet (fail)
                go_wp2
                go_meet
                case rel => exact ⟨rfl, ⟨bdrew HB1.out _⟩, ⟨HI1.out⟩, by simpa using q2, by simpa using q0, by simpa using q1, by simpa using q3⟩
          case rest =>
            obtain ⟨rfl, HB5, HI5, q2', q0', q1', q3'⟩ := hcut
            have HL5 := Aside.mk (HL.out wc (by rw [← HIE.out]; exact HB5.out))
            clear q0 q1 q2 q3 HB1 HI1 HL1 HPrev f1 f2 f3
            obtain ⟨w5, rfl⟩ : ∃ w5, w5 = wc := ⟨_, rfl⟩
            rcases HPar.out with hm | ⟨j, y, hj, hij, hy, hyk, hyl⟩
            · simp only at hm
              subst hm
              have hrs := HRS.out
              rw [if_pos (by show (-1 : Int) < 0; decide)] at hrs
              simp only at hrs
              have HRS2 := Aside.mk hrs
              have hub : ri + xs ≤ 300 := by omega
              have HIS2 : Aside (insN l (i + 1) = insN l i) := ⟨by rw [HIS.out, if_pos (by show (-1 : Int) < 0; decide)]⟩
              clear HPar HIns hrs HRS HIS
              go_wp2
              go_roundg (l.length - (i + 1))
              case measure => exact HIN.out
              case rel => exact ⟨i + 1, ⟨by omega⟩, by go_num, by rw [← HRI.out, HRS2.out], HB5, ⟨by rw [HIS2.out]; exact HI5.out⟩⟩
            · simp only at hj hyk hyl
              subst hj
              have hjl : j < l.length := (List.getElem?_eq_some_iff.1 hy).1
              have hye : l[j] = y := (List.getElem?_eq_some_iff.1 hy).2
              obtain ⟨b', o', e, p0, p1, p2, p3⟩ := HL5.out.node j hjl
              cases e
              rw [hye] at p0 p1
              obtain ⟨⟨hv0, hv1⟩, hv2⟩ := HIns.out j y rfl hy
              obtain ⟨ci, fi, hst⟩ := ints_blk HI5.out (x := j) (by rw [insN_length]; exact hjl)
              obtain ⟨yk, yl, ys, yp⟩ := y
              simp only at p0 p1 hyk hyl hv1 hv2
              have hrs := HRS.out
              rw [if_neg (by show ¬ ((j : Int) < 0); omega)] at hrs
              have HRS2 := Aside.mk hrs
              have HIS2 : Aside (insN l (i + 1) = (insN l i).set j ((insN l i).getD j 0 + xs)) := ⟨by rw [HIS.out, if_neg (by show ¬ ((j : Int) < 0); omega)]; rfl⟩
              have HST := Aside.mk hst
              generalize (insN l i).getD j 0 = vj at *
              have g0 : decide ((j : Int) < 0) = false := decide_eq_false (by omega)
              have g1 : decide ((j : Int) ≤ (i : Int)) = false := decide_eq_false (by omega)
              have g1' : decide (j ≤ i) = false := decide_eq_false (by omega)
              have g2 : decide ((l.length : Int) ≤ (j : Int)) = false := decide_eq_false (by omega)
              have g2' : decide (l.length ≤ j) = false := decide_eq_false (by omega)
              have g3 : decide (xk ≤ yk) = false := decide_eq_false (by omega)
              have g4 : decide (xl < yl) = false := decide_eq_false (by omega)
              clear HPar HIns hrs HRS HIS hst hy hye hyk hyl p2 p3
              go_upto_region 21 with (fail)
              go_quiet (fail)
              go_upto_region 23 with (fail)
              go_region
              go_wp2
              go_roundg (l.length - (i + 1))
              case measure => exact HIN.out
              case rel => exact ⟨i + 1, ⟨by omega⟩, by go_num, by rw [← HRI.out, HRS2.out], ⟨(bdrew1 (bdrew HB5.out _)).setCell (Nat.le_refl _) _⟩, ⟨by rw [HIS2.out]; exact HST.out _⟩⟩
        · have hin : i = l.length := by have := HI.out; omega
          subst hin
          rw [HNF.out.all]
          clear hi
          go_upto_region 25 with (fail)
          go_loopg [17] l.length (fun kq v17 wr => ∃ (i : Nat), Aside (i + kq = l.length) ∧ v17 = .int .i64 i ∧ Aside (Below ib w3 wr) ∧ Aside (wr.heap[ib]? = some (.cells (ints (insN l l.length)).toArray 3 (0, 0))))
          case atStart => exact ⟨0, ⟨by omega⟩, rfl, HBB, HIB⟩
          case round =>
            clear HIB HBB
            obtain ⟨i, HI, rfl, HBB, HIB⟩ := hrel
            by_cases hi : i < l.length
            · have hx : l[i]? = some l[i] := List.getElem?_eq_getElem hi
              have hins := HNF.out.ins l.length (Nat.le_refl _) i l[i] hx
              obtain ⟨b, o, e, k0, k1, k2, k3⟩ := (HL.out wr (by rw [← HIE.out]; exact HBB.out)).node i hi
              cases e
              obtain ⟨ci, _, _⟩ := ints_blk HIB.out (x := i) (by rw [insN_length]; exact hi)
              have HX := Aside.mk hx
              have HIN : Aside (l.length - (i + 1) < gk) := ⟨by have := HI.out; omega⟩
              have hii : i ≤ 300 := by omega
              have hlv : (insN l l.length).getD i 0 = (insN l l.length).getD i 0 := rfl
              generalize (insN l l.length).getD i 0 = vi at *
              generalize l[i] = X at *
              obtain ⟨xk, xl, xs, xp⟩ := X
              simp only at k1 k2 hins
              have f1 : decide (xs ≤ vi) = false := decide_eq_false (by omega)
              clear k0 k3 hx hins hlv
              go_upto_region 27 with (fail)
              go_quiet (fail)
              go_upto_region 30 with (fail)
              go_loopg [18] i (fun kq v18 wr => ∃ (a : Nat), Aside (a + kq = i) ∧ v18 = .int .i64 a ∧ Aside (Below ib w3 wr) ∧ Aside (wr.heap[ib]? = some (.cells (ints (insN l l.length)).toArray 3 (0, 0))))
              case atStart => exact ⟨0, ⟨by omega⟩, rfl, ⟨bdrew HBB.out _⟩, ⟨HIB.out⟩⟩
              case round =>
                clear HIB HBB ci f1 k1 k2
                obtain ⟨a, HA, rfl, HBB, HIB⟩ := hrel
                by_cases ha : a < i
                · have hal : a < l.length := by omega
                  have hy : l[a]? = some l[a] := List.getElem?_eq_getElem hal
                  have hl3 := HL.out wr (by rw [← HIE.out]; exact HBB.out)
                  obtain ⟨b', o', e, k0, k1, k2, k3⟩ := hl3.node i hi
                  cases e
                  rw [(List.getElem?_eq_some_iff.1 HX.out).2] at k1
                  obtain ⟨b'', o'', e, p0, p1, p2, p3⟩ := hl3.node a hal
                  cases e
                  have hup := HNF.out.up i a _ l[a] HX.out hy ha
                  have HSL := Aside.mk hl3
                  have HAN : Aside (i - (a + 1) < gk) := ⟨by have := HA.out; omega⟩
                  generalize l[a] = Y at *
                  obtain ⟨yk, yl, ys, yp⟩ := Y
                  simp only at k1 p1 hup
                  clear k0 k2 k3 p0 p2 p3 hy hl3
                  by_cases hq : yl = xl
                  · have f2 : (yl == xl) = true := by simp [hq]
                    have HUP := Aside.mk (hup hq)
                    clear hup hq
                    go_upto_region 32 with (fail)
                    go_quiet (fail)
                    have HB9 : Aside (Below ib w3 (wr.drewN nq)) := ⟨bdrew HBB.out _⟩
                    have HI9 : Aside ((wr.drewN nq).heap[ib]? = some (.cells (ints (insN l l.length)).toArray 3 (0, 0))) := ⟨HIB.out⟩
                    have hup := Up_any (k := (a : Int)) (HL.out (wr.drewN nq) (by rw [← HIE.out]; exact HB9.out)) (show l.length ≤ 16777216 by omega)
                    generalize wr.drewN nq = w7 at *
                    clear HBB HIB HSL k1 p1
                    go_wp2_with fail
                    refine hup.mono ?_
                    clear hup
                    rintro e w8 ⟨v8, rfl, h8, B8⟩
                    have hs8 := (own_ints h8).sl
                    generalize upN l (l.length + 1) (-1) (a : Int) = us at *
                    obtain ⟨A8, c8, rfl, hc8, hm8⟩ := hs8.slice
                    have hsz : ib ≤ w7.heap.size := by have := HB9.out.size; have := HIE.out; omega
                    have HBX : Aside (Below ib w3 w8) := ⟨HB9.out.trans (B8.mono hsz)⟩
                    have HIX : Aside (w8.heap[ib]? = some (.cells (ints (insN l l.length)).toArray 3 (0, 0))) := ⟨bblk B8 HI9.out⟩
                    have HS8 := Aside.mk hs8
                    clear h8 B8 hs8 HB9 HI9 hsz
                    go_upto_region 36 with (fail)
                    go_loopg [20, 21] us.length (fun kq v20 v21 wr => ∃ (j : Nat), Aside (j + kq = us.length) ∧ v21 = .int .i64 j ∧ v20 = .bool ((us.take j).any fun z => z == (i : Int)) ∧ w8 = wr)
                    case atStart => exact ⟨0, ⟨by omega⟩, rfl, by simp, rfl⟩
                    case round =>
                      obtain ⟨j, HJ, rfl, rfl, rfl⟩ := hrel
                      by_cases hj : j < us.length
                      · obtain ⟨bj, oj, e, cj⟩ := HS8.out.int j hj
                        cases e
                        have HAny := Aside.mk (show (us.take (j + 1)).any (fun z => z == (i : Int)) = ((us.take j).any (fun z => z == (i : Int)) || (us[j] == (i : Int))) by rw [List.take_add_one, List.getElem?_eq_getElem hj, Option.toList_some, List.any_append]; simp)
                        have HJN : Aside (us.length - (j + 1) < gk) := ⟨by have := HJ.out; omega⟩
                        generalize us[j] = z at *
                        generalize (us.take j).any (fun z => z == (i : Int)) = b0 at *
                        cases b0 with
                        | true =>
                          go_wp2
                          go_roundg (us.length - (j + 1))
                          case measure => exact HJN.out
                          case rel => exact ⟨j + 1, ⟨by omega⟩, by go_num, by rw [HAny.out]; rfl, rfl⟩
                        | false =>
                          by_cases hz : z = (i : Int)
                          · have hz1 : (z == (i : Int)) = true := by simp [hz]
                            clear hz
                            go_wp2
                            go_roundg (us.length - (j + 1))
                            case measure => exact HJN.out
                            case rel => exact ⟨j + 1, ⟨by omega⟩, by go_num, by rw [HAny.out, hz1]; rfl, rfl⟩
                          · have hz1 : (z == (i : Int)) = false := by simp [hz]
                            clear hz
                            go_wp2
                            go_roundg (us.length - (j + 1))
                            case measure => exact HJN.out
                            case rel => exact ⟨j + 1, ⟨by omega⟩, by go_num, by rw [HAny.out, hz1]; rfl, rfl⟩
                      · have hjt : us.take j = us := List.take_of_length_le (by omega)
                        have hany : us.any (fun z => z == (i : Int)) = true := List.any_eq_true.2 ⟨_, HUP.out, by simp⟩
                        rw [hjt, hany]
                        replace hj : us.length ≤ j := by omega
                        clear hjt hany
                        go_wp2
                        go_roundg (i - (a + 1))
                        case measure => exact HAN.out
                        case rel => exact ⟨a + 1, ⟨by omega⟩, by go_num, HBX, HIX⟩
                  · have f2 : (yl == xl) = false := by simp [hq]
                    clear hup hq
                    go_upto_region 32 with (fail)
                    go_quiet (fail)
                    go_wp2
                    go_roundg (i - (a + 1))
                    case measure => exact HAN.out
                    case rel => exact ⟨a + 1, ⟨by omega⟩, by go_num, ⟨bdrew HBB.out _⟩, ⟨HIB.out⟩⟩
                · have hae : a = i := by have := HA.out; omega
                  replace ha : i ≤ a := by omega
                  go_wp2
                  go_roundg (l.length - (i + 1))
                  case measure => exact HIN.out
                  case rel => exact ⟨i + 1, ⟨by omega⟩, by go_num, HBB, HIB⟩
            · have hb3 : Below w3.heap.size w3 wr := by rw [← HIE.out]; exact HBB.out
              have HP : Aside (LawPost w (.returned (.bool true)) wr) := ⟨rfl, bthen HB3.out HB3.out.size hb3⟩
              replace hi : l.length ≤ i := by omega
              clear HBB HIB hb3
              go_wp2
              go_ret
              exact HP.out
  · have he := hno hs
    subst he
    clear hy hno hs B2 HB1
    go_wp2_with fail
    refine (may_any n (H2.out.below HB2.out)).mono ?_
    rintro e w3 ⟨b, rfl, hb, rfl⟩
    clear hb
    cases b <;> (go_wp2; go_ret; exact ⟨rfl, HB2.out⟩)
end Go.Proofs.Ytikgdhmnnnicmaa
