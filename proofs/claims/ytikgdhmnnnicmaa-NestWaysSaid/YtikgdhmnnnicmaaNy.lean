/- The law NestWays walked: true at every input. No condition. -/
import Derived.Test.YtikgdhmnnnicmaaPa
import Derived.Test.YtikgdhmnnnicmaaNw
namespace Go.Proofs.Ytikgdhmnnnicmaa
open Go.RowKit
theorem manyN_succ {parts : List Int} {i : Nat} : manyN parts (i + 1) = if parts.getD i 0 = (i : Int) then manyN parts i + 1 else manyN parts i := by
  unfold manyN
  rw [List.range_succ, List.filter_append, List.length_append]
  simp only [List.filter_cons, List.filter_nil]
  split <;> simp_all
theorem sizeN_succ {parts : List Int} {v i : Nat} : sizeN parts v (i + 1) = if parts.getD i 0 = (v : Int) then sizeN parts v i + 1 else sizeN parts v i := by
  unfold sizeN
  rw [List.range_succ, List.filter_append, List.length_append]
  simp only [List.filter_cons, List.filter_nil]
  split <;> simp_all
theorem lowN_succ {parts cs : List Int} {v i : Nat} : lowN parts cs v (i + 1) = if parts.getD i 0 = (v : Int) then min (lowN parts cs v i) (cs.getD i (-1)) else lowN parts cs v i := by
  unfold lowN
  rw [List.range_succ, List.foldl_append]
  rfl
theorem foundN_succ {l : List Node} {lvl : List Int} {v s : Nat} {low : Int} {i : Nat} (hi : i < lvl.length) : foundN l lvl v s low (i + 1) = if isIt l v s low lvl[i] = true then foundN l lvl v s low i + 1 else foundN l lvl v s low i := by
  unfold foundN
  rw [List.take_add_one, List.getElem?_eq_getElem hi, Option.toList_some, List.filter_append, List.length_append]
  simp only [List.filter_cons, List.filter_nil]
  split <;> simp_all
theorem manyN_le {parts : List Int} {i : Nat} : manyN parts i ≤ i := by
  unfold manyN
  exact Nat.le_trans (List.length_filter_le _ _) (by simp)
theorem sizeN_le {parts : List Int} {v i : Nat} : sizeN parts v i ≤ i := by
  unfold sizeN
  exact Nat.le_trans (List.length_filter_le _ _) (by simp)
theorem foundN_le {l : List Node} {lvl : List Int} {v s : Nat} {low : Int} {i : Nat} : foundN l lvl v s low i ≤ i := by
  unfold foundN
  exact Nat.le_trans (List.length_filter_le _ _) (by simp; omega)
set_option maxHeartbeats 8000000 in
set_option maxRecDepth 100000 in
theorem NestWays_any {w : World} {v1 v2 : Value} {ps : List Pair} {cs : List Int} {n k : Int} (h1 : Sl kpair w (fun _ => True) v1 ps) (h2 : Sl kint w (fun _ => True) v2 cs) : Calls Try.prog 6 #[.int .i64 n, v1, v2, .int .i64 k] w (LawPost w) := by
  obtain ⟨A1, c1, rfl, hc1, hm1⟩ := h1.slice
  obtain ⟨A2, c2, rfl, hc2, hm2⟩ := h2.slice
  have H1 := Aside.mk h1.bound
  have H2 := Aside.mk h2.bound
  clear h1 h2
  go_enter Try.func6, Try.ntmps6
  go_wp2_with fail
  refine (first_any w).mono ?_
  rintro e w1 ⟨rfl, B1⟩
  have HB1 := Aside.mk B1
  have hmade := made_any n (H1.out.below B1)
  clear B1
  go_wp2_with fail
  refine hmade.mono ?_
  clear hmade
  rintro e w2 ⟨hy, hno, B2⟩
  have HB2 := Aside.mk (bthen HB1.out HB1.out.size B2)
  by_cases hs : 0 ≤ n ∧ n ≤ 300 ∧ ps.length ≤ 20000
  · obtain ⟨N, gb, qs, tv, rfl, hq, hql, rfl, hG, ht⟩ := hy hs
    have hN : N ≤ 300 := by omega
    have HG := Aside.mk hG
    have HQ := Aside.mk (And.intro hq hql)
    clear hy hno B2 HB1 hs hG ht hq hql
    go_wp2_with fail
    refine (may_any (N : Int) (H2.out.below HB2.out)).mono ?_
    rintro e w3 ⟨b, rfl, hb, rfl⟩
    cases b with
    | false =>
      clear hb
      go_wp2
      go_ret
      exact ⟨rfl, HB2.out⟩
    | true =>
      by_cases hk0 : k < 0
      · have d0 : decide (k < 0) = true := decide_eq_true hk0
        clear hb hk0
        go_wp2
        go_ret
        exact ⟨rfl, HB2.out⟩
      · have d0 : decide (k < 0) = false := decide_eq_false hk0
        obtain ⟨hgd, hlen⟩ := hb.1 rfl
        have hlen : cs.length = N := by omega
        have hf := Forest_all HG.out (H2.out.below HB2.out) (by omega) HQ.out.1 (by have := HQ.out.2; omega)
        have HFine := Aside.mk (And.intro hgd hlen)
        obtain ⟨parts, hparts, hpo⟩ := parts_ok (k := k) (adjOf_adj HQ.out.1) hlen (show N ≤ 16777216 by omega)
        have HNW := Aside.mk (nest_NW hlen hpo)
        have HPO := Aside.mk hpo
        have HPA := Aside.mk hparts
        have HKL : Aside (N ≤ 16777216 ∧ cs.length ≤ 16777216) := ⟨by omega⟩
        clear hb hgd hlen hk0 hpo hparts
        go_wp2_with fail
        refine hf.mono ?_
        clear hf
        rintro e w3 ⟨hyes, _, B3⟩
        obtain ⟨v3, rfl, h3⟩ := hyes HFine.out
        have HB3 := Aside.mk (bthen HB2.out HB2.out.size B3)
        have hsl := (own_nodes h3).sl
        have HG3 := Aside.mk (HG.out.below B3)
        have hll := (forests_ok (K := N) HQ.out.1 HKL.out.1 (Nat.le_refl _) HFine.out.2).2.2
        generalize nestS N qs cs = l at *
        obtain ⟨A3, c3, rfl, hc3, hm3⟩ := hsl.slice
        have HL3 := Aside.mk hsl
        have hlev := Level_any (k := k) hsl (show l.length ≤ 16777216 by omega)
        clear hyes B3 h3 hsl HG
        go_wp2_with fail
        refine hlev.mono ?_
        clear hlev
        rintro e w4 ⟨v4, rfl, h4, B4⟩
        have hs4 := (own_ints h4).sl
        generalize topsOf l k l.length = lvl at *
        obtain ⟨A4, c4, rfl, hc4, hm4⟩ := hs4.slice
        have HB4 := Aside.mk (bthen HB3.out HB3.out.size B4)
        have HL4 := Aside.mk (HL3.out.below B4)
        have HV4 := Aside.mk hs4
        have HG4 := Aside.mk (HG3.out.below B4)
        clear B4 h4 hs4 HB3 HL3 HG3 HB2
        go_wp2_with fail
        refine (keep_any k (H2.out.below HB4.out) HKL.out.2).mono ?_
        rintro e w5 ⟨v5, rfl, h5, B5⟩
        have HB5 := Aside.mk (bthen HB4.out HB4.out.size B5)
        have HL5 := Aside.mk (HL4.out.below B5)
        have HV5 := Aside.mk (HV4.out.below B5)
        have hpa := Parts_any (HG4.out.below B5) (own_bools h5).sl (adjOf_adj HQ.out.1).len HKL.out.1 (adjOf_adj HQ.out.1).ok HPA.out
        clear B5 h5 HB4 HL4 HV4 HG4
        go_wp2_with fail
        refine hpa.mono ?_
        clear hpa
        rintro e w6 ⟨v6, rfl, h6, B6⟩
        have hs6 := (own_ints h6).sl
        obtain ⟨A6, c6, rfl, hc6, hm6⟩ := hs6.slice
        have HB6 := Aside.mk (bthen HB5.out HB5.out.size B6)
        have HL6 := Aside.mk (HL5.out.below B6)
        have HV6 := Aside.mk (HV5.out.below B6)
        have HC6 := Aside.mk (H2.out.below HB6.out)
        have HP6 := Aside.mk hs6
        obtain ⟨e1, e2, e3, e4⟩ := natEq (show parts.length = N from HPO.out.1)
        have HPL : Aside (parts.length = N) := ⟨HPO.out.1⟩
        have HCL : Aside (cs.length = N) := ⟨HFine.out.2⟩
        clear B6 h6 hs6 HB5 HL5 HV5 HFine HPA
        go_wp2_with fail
        refine (num_any 0 w6).mono ?_
        rintro e w7 ⟨rfl, rfl⟩
        go_upto_region 13 with (fail)
        have HM0 : Aside (manyN parts 0 = 0) := ⟨rfl⟩
        go_loopg [17, 18] N (fun kq v17 v18 wr => ∃ (v : Nat), Aside (v + kq = N) ∧ v18 = .int .i64 v ∧ v17 = .int .i64 (manyN parts v) ∧ w6 = wr)
        case atStart => exact ⟨0, ⟨by omega⟩, rfl, by rw [HM0.out]; rfl, rfl⟩
        case round =>
          clear HM0
          obtain ⟨v, HV, rfl, rfl, rfl⟩ := hrel
          by_cases hv : v < N
          · have hvp : v < parts.length := by rw [HPL.out]; exact hv
            have hvc : v < cs.length := by rw [HCL.out]; exact hv
            obtain ⟨bp, op, e, cp⟩ := HP6.out.int v hvp
            cases e
            have hpg : parts[v]'(by rw [HPL.out]; exact hv) = parts.getD v 0 := by rw [List.getD_eq_getElem?_getD, List.getElem?_eq_getElem (by rw [HPL.out]; exact hv)]; rfl
            rw [hpg] at cp
            have HM := Aside.mk (manyN_succ (parts := parts) (i := v))
            have HOne := Aside.mk (HNW.out.one v hv)
            have hml := manyN_le (parts := parts) (i := v)
            have HVN : Aside (N - (v + 1) < gk) := ⟨by have := HV.out; omega⟩
            generalize manyN parts v = mv at *
            obtain ⟨x, hx⟩ : ∃ x, x = parts.getD v 0 := ⟨_, rfl⟩
            rw [← hx] at cp HM HOne
            clear hpg hx
            by_cases hq : x = (v : Int)
            · have f1 : (x != (v : Int)) = false := by simp [hq]
              have f2 : (x == (v : Int)) = true := by simp [hq]
              have HM2 : Aside (manyN parts (v + 1) = mv + 1) := ⟨by rw [HM.out, if_pos hq]⟩
              have HOn := Aside.mk (HOne.out hq)
              obtain ⟨bc, oc, e, cc⟩ := HC6.out.int v hvc
              cases e
              have HC0 : Aside (cs[v] = lowN parts cs v 0) := ⟨by
                show cs[v] = cs.getD v (-1)
                rw [List.getD_eq_getElem?_getD, List.getElem?_eq_getElem hvc]; rfl⟩
              have HS0 : Aside (sizeN parts v 0 = 0) := ⟨rfl⟩
              generalize cs[v] = cv at *
              clear hq HM HOne
              go_upto_region 20 with (fail)
              go_loopg [19, 20, 21] N (fun kq v19 v20 v21 wr => ∃ (u : Nat), Aside (u + kq = N) ∧ v21 = .int .i64 u ∧ v19 = .int .i64 (sizeN parts v u) ∧ v20 = .int .i64 (lowN parts cs v u) ∧ w6 = wr)
              case atStart => exact ⟨0, ⟨by omega⟩, rfl, by rw [HS0.out]; rfl, by rw [HC0.out], rfl⟩
              case round =>
                clear HC0 HS0 cp f1 f2 cc
                obtain ⟨u, HU, rfl, rfl, rfl, rfl⟩ := hrel
                by_cases hu : u < N
                · have hup : u < parts.length := by rw [HPL.out]; exact hu
                  have huc : u < cs.length := by rw [HCL.out]; exact hu
                  obtain ⟨bp', op', e, cp⟩ := HP6.out.int u hup
                  cases e
                  obtain ⟨bc', oc', e, cc⟩ := HC6.out.int u huc
                  cases e
                  have hpg : parts[u] = parts.getD u 0 := by rw [List.getD_eq_getElem?_getD, List.getElem?_eq_getElem hup]; rfl
                  have hcg : cs[u] = cs.getD u (-1) := by rw [List.getD_eq_getElem?_getD, List.getElem?_eq_getElem huc]; rfl
                  have HSs := Aside.mk (sizeN_succ (parts := parts) (v := v) (i := u))
                  have HLs := Aside.mk (lowN_succ (parts := parts) (cs := cs) (v := v) (i := u))
                  rw [← hpg, ← hcg] at HLs
                  rw [← hpg] at HSs
                  have hsl := sizeN_le (parts := parts) (v := v) (i := u)
                  have HUN : Aside (N - (u + 1) < gk) := ⟨by have := HU.out; omega⟩
                  generalize sizeN parts v u = sv at *
                  generalize lowN parts cs v u = lw at *
                  generalize parts[u] = x' at *
                  generalize cs[u] = cu at *
                  clear hpg hcg
                  by_cases hq : x' = (v : Int)
                  · have f3 : (x' == (v : Int)) = true := by simp [hq]
                    have HS2 : Aside (sizeN parts v (u + 1) = sv + 1) := ⟨by rw [HSs.out, if_pos hq]⟩
                    have HL2 : Aside (lowN parts cs v (u + 1) = min lw cu) := ⟨by rw [HLs.out, if_pos hq]⟩
                    clear hq HSs HLs
                    go_wp2
                    all_goals
                      go_roundg (N - (u + 1))
                      case measure => exact HUN.out
                      case rel => exact ⟨u + 1, ⟨by omega⟩, by go_num, by first | (rw [HS2.out]; done) | (rw [HS2.out]; go_num), by rw [HL2.out] <;> (congr 1 <;> omega), rfl⟩
                  · have f3 : (x' == (v : Int)) = false := by simp [hq]
                    have HS2 : Aside (sizeN parts v (u + 1) = sv) := ⟨by rw [HSs.out, if_neg hq]⟩
                    have HL2 : Aside (lowN parts cs v (u + 1) = lw) := ⟨by rw [HLs.out, if_neg hq]⟩
                    clear hq HSs HLs
                    go_wp2
                    go_roundg (N - (u + 1))
                    case measure => exact HUN.out
                    case rel => exact ⟨u + 1, ⟨by omega⟩, by go_num, by rw [HS2.out], by rw [HL2.out], rfl⟩
                · have hue : u = N := by have := HU.out; omega
                  have hd92 : decide (u < N) = false := decide_eq_false hu
                  subst hue
                  have hszb := sizeN_le (parts := parts) (v := v) (i := u)
                  generalize sizeN parts v u = sv at *
                  generalize lowN parts cs v u = lw at *
                  have HF0 : Aside (foundN l lvl v sv lw 0 = 0) := ⟨by simp [foundN]⟩
                  go_upto_region 27 with (fail)
                  go_loopg [22, 23] lvl.length (fun kq v22 v23 wr => ∃ (i : Nat), Aside (i + kq = lvl.length) ∧ v23 = .int .i64 i ∧ v22 = .int .i64 (foundN l lvl v sv lw i) ∧ w6 = wr)
                  case atStart => exact ⟨0, ⟨by omega⟩, rfl, by rw [HF0.out]; rfl, rfl⟩
                  case round =>
                    clear HF0 hd92
                    obtain ⟨i, HI, rfl, rfl, rfl⟩ := hrel
                    by_cases hi : i < lvl.length
                    · obtain ⟨bv, ov, e, cvx⟩ := HV6.out.int i hi
                      cases e
                      have hin := HNW.out.inn lvl[i] (List.getElem_mem hi)
                      have HFs := Aside.mk (foundN_succ (l := l) (v := v) (s := sv) (low := lw) hi)
                      have hfl := foundN_le (l := l) (lvl := lvl) (v := v) (s := sv) (low := lw) (i := i)
                      have HIN : Aside (lvl.length - (i + 1) < gk) := ⟨by have := HI.out; omega⟩
                      generalize foundN l lvl v sv lw i = fv at *
                      generalize lvl[i] = z at *
                      obtain ⟨a, rfl⟩ := Int.eq_ofNat_of_zero_le hin.1
                      have hal : a < l.length := by omega
                      obtain ⟨bn, on, e, k0, k1, k2, k3⟩ := HL6.out.node a hal
                      cases e
                      have hgd : l.getD ((a : Nat) : Int).toNat ⟨0, 0, 0, 0⟩ = l[a] := by rw [Int.toNat_natCast, List.getD_eq_getElem?_getD, List.getElem?_eq_getElem hal]; rfl
                      have hfs := HFs.out
                      unfold isIt at hfs
                      rw [hgd] at hfs
                      generalize l[a] = X at *
                      obtain ⟨xk, xl, xs, xp⟩ := X
                      simp only at k0 k1 k2 hfs
                      have HFs2 := Aside.mk hfs
                      clear hgd hfs HFs hin k3
                      by_cases q1 : xl = (v : Int)
                      · have f1 : (xl == (v : Int)) = true := by simp [q1]
                        by_cases q2 : xs = (sv : Int)
                        · have f2 : (xs == (sv : Int)) = true := by simp [q2]
                          by_cases q3 : xk = lw
                          · have f3 : (xk == lw) = true := by simp [q3]
                            have HF2 : Aside (foundN l lvl v sv lw (i + 1) = fv + 1) := ⟨by rw [HFs2.out, if_pos (by simp [q1, q2, q3])]⟩
                            clear q1 q2 q3 HFs2
                            go_wp2
                            go_roundg (lvl.length - (i + 1))
                            case measure => exact HIN.out
                            case rel => exact ⟨i + 1, ⟨by omega⟩, by go_num, by rw [HF2.out] <;> go_num, rfl⟩
                          · have f3 : (xk == lw) = false := by simp [q3]
                            have HF2 : Aside (foundN l lvl v sv lw (i + 1) = fv) := ⟨by rw [HFs2.out, if_neg (by simp [q3])]⟩
                            clear q1 q2 q3 HFs2
                            go_wp2
                            go_roundg (lvl.length - (i + 1))
                            case measure => exact HIN.out
                            case rel => exact ⟨i + 1, ⟨by omega⟩, by go_num, by rw [HF2.out], rfl⟩
                        · have f2 : (xs == (sv : Int)) = false := by simp [q2]
                          have HF2 : Aside (foundN l lvl v sv lw (i + 1) = fv) := ⟨by rw [HFs2.out, if_neg (by simp [q2])]⟩
                          clear q1 q2 HFs2
                          go_wp2
                          go_roundg (lvl.length - (i + 1))
                          case measure => exact HIN.out
                          case rel => exact ⟨i + 1, ⟨by omega⟩, by go_num, by rw [HF2.out], rfl⟩
                      · have f1 : (xl == (v : Int)) = false := by simp [q1]
                        have HF2 : Aside (foundN l lvl v sv lw (i + 1) = fv) := ⟨by rw [HFs2.out, if_neg (by simp [q1])]⟩
                        clear q1 HFs2
                        go_wp2
                        go_roundg (lvl.length - (i + 1))
                        case measure => exact HIN.out
                        case rel => exact ⟨i + 1, ⟨by omega⟩, by go_num, by rw [HF2.out], rfl⟩
                    · have hie : i = lvl.length := by have := HI.out; omega
                      subst hie
                      rw [HOn.out]
                      clear hi
                      go_wp2
                      go_roundg (u - (v + 1))
                      case measure => exact HVN.out
                      case rel => exact ⟨v + 1, ⟨by omega⟩, by go_num, by rw [HM2.out] <;> go_num, rfl⟩
            · have f1 : (x != (v : Int)) = true := by simp [hq]
              have f2 : (x == (v : Int)) = false := by simp [hq]
              have HM2 : Aside (manyN parts (v + 1) = mv) := ⟨by rw [HM.out, if_neg hq]⟩
              clear hq HM HOne
              go_wp2
              go_roundg (N - (v + 1))
              case measure => exact HVN.out
              case rel => exact ⟨v + 1, ⟨by omega⟩, by go_num, by rw [HM2.out], rfl⟩
          · have hve : v = N := by have := HV.out; omega
            subst hve
            have hmany := HNW.out.many
            rw [hmany]
            have f1 : ((lvl.length : Int) == (lvl.length : Int)) = true := by simp
            clear hv hmany
            go_wp2
            go_ret
            exact ⟨rfl, HB6.out⟩
  · have he := hno hs
    subst he
    clear hy hno hs B2 HB1
    go_wp2_with fail
    refine (may_any n (H2.out.below HB2.out)).mono ?_
    rintro e w3 ⟨b, rfl, hb, rfl⟩
    clear hb
    cases b <;> (go_wp2; go_ret; exact ⟨rfl, HB2.out⟩)
end Go.Proofs.Ytikgdhmnnnicmaa
