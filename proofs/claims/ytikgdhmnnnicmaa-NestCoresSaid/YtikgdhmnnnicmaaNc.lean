/- The law NestCores walked: true at every input. No condition. -/
import Derived.Test.YtikgdhmnnnicmaaPa
import Derived.Test.YtikgdhmnnnicmaaCo
namespace Go.Proofs.Ytikgdhmnnnicmaa
open Go.RowKit
theorem cntN_succ {n : Nat} {adj : List (List Int)} {c : List Int} {l : List Node} {i v : Nat} : cntN n adj c l (i + 1) v = if bitN n adj c l i v = true then cntN n adj c l i v + 1 else cntN n adj c l i v := by
  unfold cntN
  rw [List.range_succ, List.filter_append, List.length_append]
  simp only [List.filter_cons, List.filter_nil]
  split <;> simp_all
theorem atN_length {n : Nat} {adj : List (List Int)} {c : List Int} {l : List Node} {i u : Nat} : (atN n adj c l i u).length = n := by simp [atN]
theorem atN_get {n : Nat} {adj : List (List Int)} {c : List Int} {l : List Node} {i u v : Nat} (hv : v < n) : (atN n adj c l i u).getD v 0 = if v < u then (cntN n adj c l (i + 1) v : Int) else (cntN n adj c l i v : Int) := by
  unfold atN
  rw [List.getD_eq_getElem?_getD, List.getElem?_map, List.getElem?_range hv]
  rfl
theorem atN_set {n : Nat} {adj : List (List Int)} {c : List Int} {l : List Node} {i v : Nat} : (atN n adj c l i v).set v (cntN n adj c l (i + 1) v : Int) = atN n adj c l i (v + 1) := by
  refine List.ext_getElem (by simp [atN]) fun j h1 h2 => ?_
  by_cases e : v = j
  · subst e
    rw [List.getElem_set_self]
    simp [atN]
  · rw [List.getElem_set_ne e]
    have : (j < v + 1) = (j < v) := by simp; omega
    simp [atN, this]
theorem atN_no {n : Nat} {adj : List (List Int)} {c : List Int} {l : List Node} {i v : Nat} (hb : bitN n adj c l i v = false) : atN n adj c l i (v + 1) = atN n adj c l i v := by
  unfold atN
  refine List.map_congr_left fun j _ => ?_
  by_cases e : j = v
  · subst e
    rw [if_pos (Nat.lt_succ_self j), if_neg (Nat.lt_irrefl j), cntN_succ, if_neg (by rw [hb]; simp)]
  · have : (j < v + 1) = (j < v) := by simp; omega
    simp only [this]
theorem atN_next {n : Nat} {adj : List (List Int)} {c : List Int} {l : List Node} {i : Nat} : atN n adj c l i n = atN n adj c l (i + 1) 0 := by
  unfold atN
  refine List.map_congr_left fun j hj => ?_
  rw [if_pos (List.mem_range.1 hj), if_neg (Nat.not_lt_zero _)]
theorem atN_zero {n : Nat} {adj : List (List Int)} {c : List Int} {l : List Node} : atN n adj c l 0 0 = List.replicate n 0 := by
  refine List.ext_getElem (by simp [atN]) fun j h1 h2 => ?_
  simp [atN, cntN]
theorem szN_succ {parts : List Int} {least : Int} {u : Nat} : szN parts least (u + 1) = if parts.getD u 0 = least then szN parts least u + 1 else szN parts least u := by
  unfold szN
  rw [List.range_succ, List.filter_append, List.length_append]
  simp only [List.filter_cons, List.filter_nil]
  split <;> simp_all
theorem nearN_succ {parts : List Int} {least : Int} {row : List Int} {j : Nat} (hj : j < row.length) : nearN parts least row (j + 1) = if parts.getD row[j].toNat 0 = least then nearN parts least row j + 1 else nearN parts least row j := by
  unfold nearN
  rw [List.take_add_one, List.getElem?_eq_getElem hj, Option.toList_some, List.filter_append, List.length_append]
  simp only [List.filter_cons, List.filter_nil]
  split <;> simp_all
theorem szN_le {parts : List Int} {least : Int} {u : Nat} : szN parts least u ≤ u := by
  unfold szN
  exact Nat.le_trans (List.length_filter_le _ _) (by simp)
theorem nearN_le {parts : List Int} {least : Int} {row : List Int} {j : Nat} : nearN parts least row j ≤ j := by
  unfold nearN
  exact Nat.le_trans (List.length_filter_le _ _) (by simp; omega)
theorem toS_row_le {n : Nat} {ps : List Pair} (ha : among n ps) (v : Nat) : ((toS n (marksP n ps)).getD v []).length ≤ n := by
  have had := (toS_ok ha).2
  unfold toS
  rw [getD_map_range]
  split
  · rename_i hv
    rw [List.length_map]
    refine nodup_le n (List.nodup_range.sublist List.filter_sublist) fun u hu => ?_
    obtain ⟨h1, h2⟩ := List.mem_filter.1 hu
    have hm : (u : Int) ∈ (toS n (marksP n ps)).getD v [] := by
      unfold toS
      rw [getD_map_range, if_pos hv]
      exact List.mem_map.2 ⟨u, hu, rfl⟩
    have := had.row v _ hm
    omega
  · simp
theorem cntN_le {n : Nat} {adj : List (List Int)} {c : List Int} {l : List Node} {i v : Nat} : cntN n adj c l i v ≤ i := by
  unfold cntN
  exact Nat.le_trans (List.length_filter_le _ _) (by simp)
theorem only_below {w w1 w2 : World} {ab : Nat} (h : Below ab w w1) (ho : Only (· = ab) w1 w2) (hs : ab ≤ w.heap.size) : Below ab w w2 :=
  ⟨ho.os.trans h.os, ho.tape.trans h.tape, ho.output.trans h.output, Nat.le_trans h.size ho.size, fun k hk => (ho.block k (Nat.lt_of_lt_of_le hk (Nat.le_trans hs h.size)) (by omega)).trans (h.block k hk)⟩
theorem only_drewN {S : Nat → Prop} {w w1 : World} (h : Only S w w1) (n : Nat) : Only S w (w1.drewN n) := ⟨h.os, h.tape, h.output, h.size, h.block⟩
set_option maxHeartbeats 8000000 in
set_option maxRecDepth 100000 in
theorem NestCores_any {w : World} {v1 : Value} {ps : List Pair} {n : Int} (h1 : Sl kpair w (fun _ => True) v1 ps) : Calls Try.prog 7 #[.int .i64 n, v1] w (LawPost w) := by
  obtain ⟨A1, c1, rfl, hc1, hm1⟩ := h1.slice
  have H1 := Aside.mk h1.bound
  clear h1
  go_enter Try.func7, Try.ntmps7
  go_wp2_with fail
  refine (first_any w).mono ?_
  rintro e w1 ⟨rfl, B1⟩
  have HB1 := Aside.mk B1
  have hmade := made_any n (H1.out.below B1)
  clear B1
  go_wp2_with fail
  refine hmade.mono ?_
  clear hmade
  rintro e w2 ⟨hy, hno, B2⟩
  have HB2 := Aside.mk (bthen HB1.out HB1.out.size B2)
  by_cases hs : 0 ≤ n ∧ n ≤ 300 ∧ ps.length ≤ 20000
  · obtain ⟨N, gb, qs, tv, rfl, hq, hql, rfl, hG, ht⟩ := hy hs
    have hN : N ≤ 300 := by omega
    have HG := Aside.mk hG
    have HQ := Aside.mk (And.intro hq hql)
    obtain ⟨hto1, hto2⟩ := toS_ok hq
    obtain ⟨c, hcF, hcl, hcr, hcs⟩ := cores_ok hto2 (toS_row_le hq)
    have hNC := nest_NC hq (by omega) hto2 hto1 hcl hcs
    have HNC := Aside.mk hNC
    have hcor := Cores_any ht hto2.len (by omega) hto2.ok hcF
    have HTO := Aside.mk hto2
    have HGood : Aside (good c ∧ c.length = N) := ⟨fun x hx => by
      obtain ⟨u, hu, e⟩ := List.getElem_of_mem hx
      have h := hcr u (by omega)
      rw [List.getD_eq_getElem?_getD, List.getElem?_eq_getElem hu] at h
      have h : 0 ≤ c[u] ∧ c[u] < (N : Int) + 2 := h
      rw [e] at h
      omega, hcl⟩
    have HTR : Aside (∀ v, ((toS N (marksP N qs)).getD v []).length ≤ N) := ⟨toS_row_le hq⟩
    have HTv := Aside.mk ht
    generalize toS N (marksP N qs) = tl at *
    clear hy hno B2 HB1 hs hG ht hq hql hto1 hto2 hcF hcl hcr hcs hNC
    obtain ⟨AT, cT, rfl, hcT, hmT⟩ := HTv.out.slice
    go_wp2_with fail
    refine hcor.mono ?_
    clear hcor
    rintro e w3 ⟨v3, rfl, h3, B3⟩
    have hs3 := (own_ints h3).sl
    obtain ⟨A3, c3, rfl, hc3, hm3⟩ := hs3.slice
    have hf := Forest_all (HG.out.below B3) hs3 (by omega) HQ.out.1 (by have := HQ.out.2; omega)
    have HB3 := Aside.mk (bthen HB2.out HB2.out.size B3)
    have HG3 := Aside.mk (HG.out.below B3)
    have HT3 := Aside.mk (HTv.out.below B3)
    have HC3 := Aside.mk hs3
    clear h3 B3 hs3 HG HTv HB2
    go_wp2_with fail
    refine hf.mono ?_
    clear hf
    rintro e w4 ⟨hyes, _, B4⟩
    obtain ⟨v4, rfl, h4⟩ := hyes HGood.out
    have hs4 := (own_nodes h4).sl
    have HB4 := Aside.mk (bthen HB3.out HB3.out.size B4)
    have HG4 := Aside.mk (HG3.out.below B4)
    have HT4 := Aside.mk (HT3.out.below B4)
    have HC4 := Aside.mk (HC3.out.below B4)
    generalize nestS N qs c = l at *
    obtain ⟨A4, c4, rfl, hc4, hm4⟩ := hs4.slice
    have HL4 := Aside.mk hs4
    have hll : l.length ≤ N := HNC.out.len
    clear hyes B4 h4 hs4 HB3 HG3 HT3 HC3
    go_wp2_with fail
    refine (num_any 0 w4).mono ?_
    rintro e w5 ⟨rfl, rfl⟩
    have hmk := run_make_row' (P := Try.prog) 23 3 (.int .i64 0) 8 Try.underlying23 Try.info3 rfl .i64 .i64 N (by omega) (by omega)
    go_upto_region 10 with (fail)
    have hib : (w4.alloc (.cells (madeCells #[.int .i64 0] N) 3)).heap[w4.heap.size]? = some (.cells (ints (atN N (adjOf N qs) c l 0 0)).toArray 3 (0, 0)) := by
      rw [heap_alloc_new, toList_made_ints, atN_zero]
    have hbb := (Below.refl w4.heap.size w4).alloc (Nat.le_refl _) (.cells (madeCells #[.int .i64 0] N) 3)
    obtain ⟨ab, habe⟩ : ∃ ab, ab = w4.heap.size := ⟨_, rfl⟩
    rw [← habe] at hib hbb ⊢
    generalize w4.alloc (.cells (madeCells #[.int .i64 0] N) 3) = w5 at *
    have HIB := Aside.mk hib
    have HBB := Aside.mk hbb
    have HAE := Aside.mk habe
    have HLo : Aside (∀ W, Below ab w4 W → Below w4.heap.size w4 W) := ⟨fun W hW => by rw [← HAE.out]; exact hW⟩
    clear hib hbb habe hmk
    go_upto_region 11 with (fail)
    go_loopg [12] l.length (fun kq v12 wr => ∃ (i : Nat), Aside (i + kq = l.length) ∧ v12 = .int .i64 i ∧ Aside (Below ab w4 wr) ∧ Aside (wr.heap[ab]? = some (.cells (ints (atN N (adjOf N qs) c l i 0)).toArray 3 (0, 0))))
    case atStart => exact ⟨0, ⟨by omega⟩, rfl, HBB, HIB⟩
    case round =>
      clear HIB HBB
      obtain ⟨i, HI, rfl, HBB, HIB⟩ := hrel
      by_cases hi : i < l.length
      · have hx : l[i]? = some l[i] := List.getElem?_eq_getElem hi
        obtain ⟨e1, e2, e3, e4, e5, e6⟩ := HNC.out.el i l[i] hx
        obtain ⟨b, o, e, k0, k1, k2, k3⟩ := (HL4.out.below (HLo.out wr HBB.out)).node i hi
        cases e
        have hgd : l.getD i ⟨0, 0, 0, 0⟩ = l[i] := by rw [List.getD_eq_getElem?_getD, hx]; rfl
        have HNODE : Aside (∀ W, Below ab w4 W → W.cell? ⟨b, o + i * 4, none⟩ = some (.int .i64 l[i].K) ∧ W.cell? ⟨b, o + i * 4 + 1, none⟩ = some (.int .i64 l[i].Least) ∧ W.cell? ⟨b, o + i * 4 + 2, none⟩ = some (.int .i64 l[i].Size)) := ⟨fun W hW => by
          obtain ⟨b', o', e, q0, q1, q2, _⟩ := (HL4.out.below (HLo.out W hW)).node i hi
          cases e
          exact ⟨q0, q1, q2⟩⟩
        have hbit : ∀ v, bitN N (adjOf N qs) c l i v = (decide ((partsOf N (adjOf N qs) c l[i].K).getD v 0 = l[i].Least) && decide (c.getD v 0 = l[i].K)) := fun v => by
          unfold bitN
          rw [hgd]
        generalize l[i] = X at *
        obtain ⟨xk, xl, xs, xp⟩ := X
        simp only at e1 e2 e3 e4 e5 e6 k0 k1 k2 hbit HNODE
        have f1 : decide (xl < 0) = false := decide_eq_false (by omega)
        have f2 : decide ((N : Int) ≤ xl) = false := decide_eq_false (by omega)
        have HPP := Aside.mk e3
        generalize partsOf N (adjOf N qs) c xk = parts at *
        have HPL := Aside.mk e4
        have HSZ := Aside.mk e5
        have HNear := Aside.mk e6
        have HBit := Aside.mk hbit
        have hkeep := keep_any xk (HC4.out.below (HLo.out wr HBB.out)) (by have := HGood.out.2; omega)
        have HIN : Aside (l.length - (i + 1) < gk) := ⟨by have := HI.out; omega⟩
        have hib16 : i ≤ 300 := by omega
        clear hx e1 e2 e3 e4 e5 e6 k3 hgd hbit
        go_wp2_with fail
        refine hkeep.mono ?_
        clear hkeep
        rintro e w6 ⟨v6, rfl, h6, B6⟩
        have hsz1 : ab + 1 ≤ wr.heap.size := blk_lt HIB.out
        have HB6 := Aside.mk (HBB.out.trans (B6.mono (by omega)))
        have HI6 := Aside.mk (bblk B6 HIB.out)
        have hpa := Parts_any (HG4.out.below (HLo.out w6 HB6.out)) (own_bools h6).sl (adjOf_adj HQ.out.1).len (by omega) (adjOf_adj HQ.out.1).ok HPP.out
        have hsz2 : ab + 1 ≤ w6.heap.size := blk_lt HI6.out
        clear h6 B6 HBB HIB k0 k1 k2 hsz1
        go_wp2_with fail
        refine hpa.mono ?_
        clear hpa
        rintro e w7 ⟨v7, rfl, h7, B7⟩
        have hs7 := (own_ints h7).sl
        obtain ⟨A7, c7, rfl, hc7, hm7⟩ := hs7.slice
        have HB7 := Aside.mk (HB6.out.trans (B7.mono (by omega)))
        have HI7 := Aside.mk (bblk B7 HI6.out)
        have HOB : Aside (∀ W, Only (· = ab) w7 W → Below ab w4 W) := ⟨fun W hW => only_below HB7.out hW (by have := HAE.out; omega)⟩
        have HPW : Aside (∀ W, Only (· = ab) w7 W → Sl kint W (fun _ => True) (.slice A7 parts.length c7) parts) := ⟨fun W hW => (hs7.step fun q h1 h2 => hW.block q h2 (by show ¬ q = ab; omega)).mono fun _ _ => trivial⟩
        obtain ⟨d1, d2, d3, d4⟩ := natEq (HPL.out)
        clear h7 B7 hs7 HB6 HI6 hsz2
        have HZ0 : Aside (szN parts xl 0 = 0) := ⟨rfl⟩
        have HOn : Aside (Only (· = ab) w7 w7) := ⟨Only.refl _ _⟩
        go_upto_region 20 with (fail)
        go_loopg [14, 15] N (fun kq v14 v15 wr => ∃ (v : Nat), Aside (v + kq = N) ∧ v15 = .int .i64 v ∧ v14 = .int .i64 (szN parts xl v) ∧ Aside (Only (· = ab) w7 wr) ∧ Aside (wr.heap[ab]? = some (.cells (ints (atN N (adjOf N qs) c l i v)).toArray 3 (0, 0))))
        case atStart => exact ⟨0, ⟨by omega⟩, rfl, by rw [HZ0.out]; rfl, HOn, HI7⟩
        case round =>
          clear HZ0 HOn HI7
          obtain ⟨v, HV, rfl, rfl, HO, HA⟩ := hrel
          by_cases hv : v < N
          · have hvp : v < parts.length := by rw [HPL.out]; exact hv
            have hvc : v < c.length := by rw [HGood.out.2]; exact hv
            obtain ⟨bp, op, e, cp⟩ := (HPW.out wr HO.out).int v hvp
            cases e
            have hpg : parts[v] = parts.getD v 0 := by rw [List.getD_eq_getElem?_getD, List.getElem?_eq_getElem hvp]; rfl
            obtain ⟨q0, q1, q2⟩ := HNODE.out wr (HOB.out wr HO.out)
            have HSs := Aside.mk (szN_succ (parts := parts) (least := xl) (u := v))
            have hszl := szN_le (parts := parts) (least := xl) (u := v)
            have HVN : Aside (N - (v + 1) < gk) := ⟨by have := HV.out; omega⟩
            have hb1 := HBit.out v
            have HNe := Aside.mk (HNear.out v hv)
            rw [← hpg] at HSs hb1 HNe
            generalize szN parts xl v = sv at *
            generalize parts[v] = x at *
            clear hpg
            by_cases hq : x = xl
            · have f3 : (x != xl) = false := by simp [hq]
              have HS2 : Aside (szN parts xl (v + 1) = sv + 1) := ⟨by rw [HSs.out, if_pos hq]⟩
              have HN2 := Aside.mk (HNe.out hq)
              obtain ⟨bc, oc, e, cc⟩ := (HC4.out.below (HLo.out wr (HOB.out wr HO.out))).int v hvc
              cases e
              have hcg : c.getD v 0 = c[v] := by rw [List.getD_eq_getElem?_getD, List.getElem?_eq_getElem hvc]; rfl
              rw [hcg, decide_eq_true hq, Bool.true_and] at hb1
              have HB1v := Aside.mk hb1
              generalize c[v] = cv at *
              clear hq HSs HNe hb1 hcg
              go_upto_region 22 with (fail)
              go_quiet (fail)
              go_upto_region 24 with (fail)
              go_quiet (fail)
              go_upto_if 106 with (fail)
              go_cut [] (fun wx => Aside (Only (· = ab) w7 wx) ∧ Aside (wx.heap[ab]? = some (.cells (ints (atN N (adjOf N qs) c l i (v + 1))).toArray 3 (0, 0))))
              case first =>
                by_cases q2 : cv = xk
                · have f4 : (cv == xk) = true := by simp [q2]
                  obtain ⟨ca, fa, hst⟩ := ints_blk HA.out (x := v) (by rw [atN_length]; exact hv)
                  rw [atN_get hv, if_neg (Nat.lt_irrefl v)] at ca
                  have hcl := cntN_le (n := N) (adj := adjOf N qs) (c := c) (l := l) (i := i) (v := v)
                  have HST : Aside ((wr.setCell ⟨ab, v, none⟩ (.int .i64 ((cntN N (adjOf N qs) c l i v : Int) + 1))).heap[ab]? = some (.cells (ints (atN N (adjOf N qs) c l i (v + 1))).toArray 3 (0, 0))) := ⟨by
                    have h := hst ((cntN N (adjOf N qs) c l i v : Int) + 1)
                    have e : ((cntN N (adjOf N qs) c l i v : Int) + 1) = (cntN N (adjOf N qs) c l (i + 1) v : Int) := by rw [cntN_succ, if_pos (by rw [HB1v.out]; simp [q2])]; rfl
                    rw [e] at h ⊢
                    rw [atN_set] at h
                    exact h⟩
                  generalize cntN N (adjOf N qs) c l i v = cn at *
                  clear q2 hst
                  go_wp2
                  go_meet
                  case rel => exact ⟨⟨(only_drewN HO.out _).set (a := ⟨ab, v, none⟩) rfl _⟩, ⟨HST.out⟩⟩
                · have f4 : (cv == xk) = false := by simp [q2]
                  have HA2 : Aside (atN N (adjOf N qs) c l i (v + 1) = atN N (adjOf N qs) c l i v) := ⟨atN_no (by rw [HB1v.out]; simp [q2])⟩
                  clear q2
                  go_wp2
                  go_meet
                  case rel => exact ⟨⟨only_drewN (only_drewN HO.out _) _⟩, ⟨by rw [HA2.out]; exact HA.out⟩⟩
              case rest =>
                obtain ⟨HO2, HA2⟩ := hcut
                have hvt : v < tl.length := by rw [HTO.out.len]; exact hv
                obtain ⟨bt, ot, rv, e, crow0, hrow⟩ := HT4.out.row v hvt
                cases e
                obtain ⟨Ar, cr, rfl, hcr, hmr⟩ := hrow.slice
                have HROW : Aside (∀ W, Only (· = ab) w7 W → W.cell? ⟨bt, ot + v, none⟩ = some (.slice Ar tl[v].length cr) ∧ Sl kint W (fun _ => True) (.slice Ar tl[v].length cr) tl[v]) := ⟨fun W hW => ⟨bcell (HLo.out W (HOB.out W hW)) crow0, (hrow.below (HLo.out W (HOB.out W hW))).mono fun _ _ => trivial⟩⟩
                have hgd : tl.getD v [] = tl[v] := by rw [List.getD_eq_getElem?_getD, List.getElem?_eq_getElem hvt]; rfl
                have HNr : Aside (xk ≤ nearN parts xl tl[v] tl[v].length) := ⟨by rw [← hgd]; exact HN2.out⟩
                have HRr : Aside (∀ u ∈ tl[v], 0 ≤ u ∧ u < N) := ⟨fun u hu => by rw [← hgd] at hu; exact HTO.out.row v u hu⟩
                have hrl : tl[v].length ≤ 300 := by have := HTR.out v; rw [hgd] at this; omega
                generalize tl[v] = row at *
                clear crow0 hrow hgd cp q0 q1 q2 cc f3 hcr
                have HZ1 : Aside (nearN parts xl row 0 = 0) := ⟨by simp [nearN]⟩
                go_upto_region 28 with (fail)
                go_loopg [16, 17] row.length (fun kq v16 v17 wr => ∃ (j : Nat), Aside (j + kq = row.length) ∧ v17 = .int .i64 j ∧ v16 = .int .i64 (nearN parts xl row j) ∧ Aside (Only (· = ab) w7 wr) ∧ Aside (wr.heap[ab]? = some (.cells (ints (atN N (adjOf N qs) c l i (v + 1))).toArray 3 (0, 0))))
                case atStart => exact ⟨0, ⟨by omega⟩, rfl, by rw [HZ1.out]; rfl, HO2, HA2⟩
                case round =>
                  clear HZ1 HO2 HA2 HO HA
                  obtain ⟨j, HJ, rfl, rfl, HO, HA⟩ := hrel
                  obtain ⟨crow, hrow⟩ := HROW.out wr HO.out
                  obtain ⟨q0, q1, q2⟩ := HNODE.out wr (HOB.out wr HO.out)
                  by_cases hj : j < row.length
                  · obtain ⟨br, or_, e, crj⟩ := hrow.int j hj
                    cases e
                    have hur := HRr.out row[j] (List.getElem_mem hj)
                    have HNs := Aside.mk (nearN_succ (parts := parts) (least := xl) hj)
                    have hnl := nearN_le (parts := parts) (least := xl) (row := row) (j := j)
                    have HJN : Aside (row.length - (j + 1) < gk) := ⟨by have := HJ.out; omega⟩
                    generalize nearN parts xl row j = nv at *
                    generalize row[j] = U at *
                    obtain ⟨u, rfl⟩ := Int.eq_ofNat_of_zero_le hur.1
                    have hup : u < parts.length := by rw [HPL.out]; omega
                    obtain ⟨bp', op', e, cpu⟩ := (HPW.out wr HO.out).int u hup
                    cases e
                    have hpg : parts.getD u 0 = parts[u] := by rw [List.getD_eq_getElem?_getD, List.getElem?_eq_getElem hup]; rfl
                    have hns := HNs.out
                    rw [Int.toNat_natCast, hpg] at hns
                    generalize parts[u] = y at *
                    clear hur HNs hpg hrow
                    by_cases q3 : y = xl
                    · have f5 : (y == xl) = true := by simp [q3]
                      have HN5 : Aside (nearN parts xl row (j + 1) = nv + 1) := ⟨by rw [hns, if_pos q3]⟩
                      clear q3 hns
                      go_upto_region 30 with (fail)
                      go_quiet (fail)
                      go_wp2
                      go_roundg (row.length - (j + 1))
                      case measure => exact HJN.out
                      case rel => exact ⟨j + 1, ⟨by omega⟩, by go_num, by rw [HN5.out] <;> go_num, ⟨only_drewN HO.out _⟩, ⟨HA.out⟩⟩
                    · have f5 : (y == xl) = false := by simp [q3]
                      have HN5 : Aside (nearN parts xl row (j + 1) = nv) := ⟨by rw [hns, if_neg q3]⟩
                      clear q3 hns
                      go_upto_region 30 with (fail)
                      go_quiet (fail)
                      go_wp2
                      go_roundg (row.length - (j + 1))
                      case measure => exact HJN.out
                      case rel => exact ⟨j + 1, ⟨by omega⟩, by go_num, by rw [HN5.out], ⟨only_drewN HO.out _⟩, ⟨HA.out⟩⟩
                  · have hje : j = row.length := by have := HJ.out; omega
                    subst hje
                    have hnr := HNr.out
                    generalize nearN parts xl row row.length = nv at *
                    have f6 : decide ((nv : Int) < xk) = false := decide_eq_false (by omega)
                    clear hj hnr
                    go_wp2
                    go_roundg (N - (v + 1))
                    case measure => exact HVN.out
                    case rel => exact ⟨v + 1, ⟨by omega⟩, by go_num, by rw [HS2.out] <;> go_num, HO, HA⟩
            · have f3 : (x != xl) = true := by simp [hq]
              have HS2 : Aside (szN parts xl (v + 1) = sv) := ⟨by rw [HSs.out, if_neg hq]⟩
              have HA2 : Aside (atN N (adjOf N qs) c l i (v + 1) = atN N (adjOf N qs) c l i v) := ⟨atN_no (by rw [hb1, decide_eq_false hq]; rfl)⟩
              clear hq HSs HNe hb1
              go_upto_region 22 with (fail)
              go_quiet (fail)
              go_wp2
              go_roundg (N - (v + 1))
              case measure => exact HVN.out
              case rel => exact ⟨v + 1, ⟨by omega⟩, by go_num, by rw [HS2.out], ⟨only_drewN HO.out _⟩, ⟨by rw [HA2.out]; exact HA.out⟩⟩
          · have hve : v = N := by have := HV.out; omega
            subst hve
            obtain ⟨q0, q1, q2⟩ := HNODE.out wr (HOB.out wr HO.out)
            have hsz := HSZ.out
            generalize szN parts xl v = sv at *
            subst hsz
            have HA2 : Aside (wr.heap[ab]? = some (.cells (ints (atN v (adjOf v qs) c l (i + 1) 0)).toArray 3 (0, 0))) := ⟨by rw [← atN_next]; exact HA.out⟩
            have f4 : ((sv : Int) != (sv : Int)) = false := by simp
            have HBo : Aside (Below ab w4 wr) := ⟨HOB.out wr HO.out⟩
            clear hv HA q0 q1
            go_wp2
            go_roundg (l.length - (i + 1))
            case measure => exact HIN.out
            case rel => exact ⟨i + 1, ⟨by omega⟩, by go_num, HBo, HA2⟩
      · have hin : i = l.length := by have := HI.out; omega
        subst hin
        clear hi
        go_upto_region 37 with (fail)
        go_loopg [18] N (fun kq v18 wr => ∃ (v : Nat), Aside (v + kq = N) ∧ v18 = .int .i64 v ∧ Aside (Below ab w4 wr) ∧ Aside (wr.heap[ab]? = some (.cells (ints (atN N (adjOf N qs) c l l.length 0)).toArray 3 (0, 0))))
        case atStart => exact ⟨0, ⟨by omega⟩, rfl, HBB, HIB⟩
        case round =>
          clear HIB HBB
          obtain ⟨v, HV, rfl, HBB, HIB⟩ := hrel
          by_cases hv : v < N
          · obtain ⟨ca, _, _⟩ := ints_blk HIB.out (x := v) (by rw [atN_length]; exact hv)
            rw [atN_get hv, if_neg (Nat.not_lt_zero _), HNC.out.one v hv] at ca
            have HVN : Aside (N - (v + 1) < gk) := ⟨by have := HV.out; omega⟩
            go_wp2
            go_roundg (N - (v + 1))
            case measure => exact HVN.out
            case rel => exact ⟨v + 1, ⟨by omega⟩, by go_num, HBB, HIB⟩
          · have HP : Aside (LawPost w (.returned (.bool true)) wr) := ⟨rfl, bthen HB4.out HB4.out.size (HLo.out wr HBB.out)⟩
            replace hv : N ≤ v := by omega
            clear HBB HIB
            go_wp2
            go_ret
            exact HP.out
  · have he := hno hs
    subst he
    clear hy hno hs B2 HB1
    go_wp2
    go_ret
    exact ⟨rfl, HB2.out⟩
end Go.Proofs.Ytikgdhmnnnicmaa
