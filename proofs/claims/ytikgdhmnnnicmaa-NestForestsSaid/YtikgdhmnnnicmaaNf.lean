/- The law NestForests walked: true at every input. No condition. -/
import Derived.Test.YtikgdhmnnnicmaaMd
import Derived.Test.YtikgdhmnnnicmaaRf
import Derived.Test.Ytikgdhmnnnicmaa5
namespace Go.Proofs.Ytikgdhmnnnicmaa
open Go.RowKit
theorem GraphIs.low {w w' : World} {ok : Nat → Prop} {gv : Value} {n : Nat} {adj : List (List Int)} (h : GraphIs w ok gv n adj) (hb : Below w.heap.size w w') : GraphIs w' (fun _ => True) gv n adj := (h.below hb).mono fun _ _ => trivial
set_option maxHeartbeats 8000000 in
set_option maxRecDepth 100000 in
theorem NestForests_any {w : World} {v1 v2 : Value} {ps : List Pair} {cs : List Int} {n x y : Int} (h1 : Sl kpair w (fun _ => True) v1 ps) (h2 : Sl kint w (fun _ => True) v2 cs) : Calls Try.prog 3 #[.int .i64 n, v1, v2, .int .i64 x, .int .i64 y] w (LawPost w) := by
  obtain ⟨A1, c1, rfl, hc1, hm1⟩ := h1.slice
  obtain ⟨A2, c2, rfl, hc2, hm2⟩ := h2.slice
  have H1 := Aside.mk h1.bound
  have H2 := Aside.mk h2.bound
  clear h1 h2
  go_enter Try.func3, Try.ntmps3
  go_wp2_with fail
  refine (first_any w).mono ?_
  rintro e w1 ⟨rfl, B1⟩
  have HB1 := Aside.mk B1
  have hmade := made_any n (H1.out.below B1)
  clear B1
  go_wp2_with fail
  refine hmade.mono ?_
  clear hmade
  rintro e w2 ⟨hy, hno, B2⟩
  have HB2 := Aside.mk (bthen HB1.out HB1.out.size B2)
  by_cases hs : 0 ≤ n ∧ n ≤ 300 ∧ ps.length ≤ 20000
  · obtain ⟨N, gb, qs, tv, rfl, hq, hql, rfl, hG, ht⟩ := hy hs
    have HN : Aside (N ≤ 300) := ⟨by omega⟩
    have HG : Aside (∀ W, Below w2.heap.size w2 W → GraphIs W (fun _ => True) (.pointer (some ⟨gb, 0, none⟩)) N (adjOf N qs)) := ⟨fun W hW => hG.low hW⟩
    have HT : Aside (∀ W, Below w2.heap.size w2 W → Sl (kslice kint) W (fun _ => True) tv (toS N (marksP N qs))) := ⟨fun W hW => (ht.below hW).mono fun _ _ => trivial⟩
    have HQ := Aside.mk (And.intro hq hql)
    clear hy hno B2 HB1 hs hG ht hq hql
    by_cases hk : cs.length ≤ 16384
    · have d1 : decide (16384 < (cs.length : Int)) = false := decide_eq_false (by omega)
      have hints := Ints_any (H2.out.below HB2.out) (show cs.length ≤ 16777216 by omega)
      go_wp2_with fail
      refine hints.mono ?_
      clear hints
      rintro e w3 ⟨v3, rfl, h3, B3⟩
      have HR := Aside.mk h3
      have HZ := Aside.mk B3.size
      have HB3 := Aside.mk B3
      clear h3 B3
      go_wp2_with (at_builtin; go_must (refine app_one w2.heap.size rfl _ _ 23 3 (.int .i64 0) 1 8 rfl Try.underlying23 Try.info3 rfl (by decide) (by decide) v3 cs.length _ [.int .i64 (-77)] rfl rfl rfl (by simp [Value.oneCell']) HR.out HZ.out (by omega) ?_; intro v4 w4 hown hg hat; obtain ⟨g, c3, rfl, hc3, hm3⟩ : ∃ g c3, v4 = .slice (some ⟨g, 0, none⟩) (cs.length + 1) c3 ∧ cs.length + 1 ≤ c3 ∧ c3 ≤ 9223372036854775807 := (by
        rcases hown.2 with ⟨_, hn⟩ | ⟨g, cap, cur, rfl, _, _, h1, h2, _⟩
        · omega
        · exact ⟨g, cap, rfl, h1, by simpa only [maxLen] using h2⟩); have HB4 := Aside.mk (HB3.out.grown hg HB3.out.size fun q e => (HR.out.lt q e).1); have HR4 := Aside.mk hown; clear hown hg hat HR HZ HB3))
      have HL : Aside (cs.length = cs.length) := ⟨rfl⟩
      obtain ⟨k, hk0⟩ : ∃ k, k = cs.length := ⟨_, rfl⟩
      have HK0 := Aside.mk hk0
      rw [← hk0] at hk hc3 HR4 ⊢
      clear hk0 HL
      go_loopg [16] 2 (fun kq v16 wr => ∃ (r : Nat) (ds : List Int), Aside (r + kq = 2) ∧ v16 = .int .i64 r ∧ Aside (ds.length = k) ∧ Aside (wr.ownsRow w2.heap.size 3 1 (.slice (some ⟨g, 0, none⟩) (k + 1) c3) (k + 1) (ints ds ++ [.int .i64 (-77)])) ∧ Aside (Below w2.heap.size w2 wr))
      case atStart => exact ⟨0, cs, ⟨by omega⟩, rfl, ⟨HK0.out.symm⟩, HR4, HB4⟩
      case round =>
        clear HR4 HB4
        obtain ⟨r, ds, HI, rfl, HD, HR, HB⟩ := hrel
        by_cases hr : r < 2
        · have hown : wr.ownsRow w2.heap.size 3 1 (.slice (some ⟨g, 0, none⟩) (k + 1) c3) (ds ++ [-77]).length (ints (ds ++ [-77])) := by rw [ints_snoc', List.length_append, HD.out]; exact HR.out
          have hsl := (own_ints hown).sl
          have hlen : (ds ++ [(-77 : Int)]).length = k + 1 := by rw [List.length_append, HD.out]; rfl
          have htk : (ds ++ [(-77 : Int)]).take k = ds := by rw [← HD.out]; exact List.take_left
          have HSL := Aside.mk hsl
          have HTK := Aside.mk htk
          have HLEN := Aside.mk hlen
          have hints := Ints_any hsl (by rw [hlen]; omega)
          have hkk : k ≤ 16777216 := by omega
          clear hown hsl htk hlen
          go_wp2_with fail
          refine hints.mono ?_
          clear hints
          rintro e w5 ⟨v5, rfl, h5, B5⟩
          rw [HLEN.out] at h5
          obtain ⟨A5, c5, rfl, hA5, hc5, hm5⟩ : ∃ A c, v5 = .slice A (k + 1) c ∧ (∃ b, A = some ⟨b, 0, none⟩) ∧ k + 1 ≤ c ∧ c ≤ 9223372036854775807 := by
            rcases h5.2 with ⟨_, hn⟩ | ⟨g, cap, cur, rfl, _, _, q1, q2, _⟩
            · omega
            · exact ⟨_, cap, rfl, ⟨g, rfl⟩, q1, by simpa only [maxLen] using q2⟩
          obtain ⟨b5, rfl⟩ := hA5
          have HW5 := Aside.mk (own_ints (xs := ds ++ [-77]) (by rw [HLEN.out]; exact h5)).sl
          have HS5 := Aside.mk (HSL.out.below B5)
          have HB5 := Aside.mk (bthen HB.out HB.out.size B5)
          have HR5 := Aside.mk (ownsRow_move HR.out fun q e => B5.block q (HR.out.lt q e).2)
          clear B5 h5 HB HR HSL
          go_wp2_with fail
          have hcut := HS5.out.cutK (n' := k) (c' := k + 1) (by omega) (by omega) (by omega)
          rw [HTK.out] at hcut
          have hf := Forest_all (HG.out w5 HB5.out) hcut (by have := HN.out; omega) HQ.out.1 (by have := HQ.out.2; omega)
          clear hcut
          refine hf.mono ?_
          clear hf
          rintro e w6 ⟨hyes, hnot, B6⟩
          have HW6 := Aside.mk (HW5.out.below B6)
          have HS6 := Aside.mk (HS5.out.below B6)
          have HB6 := Aside.mk (bthen HB5.out HB5.out.size B6)
          have HR6 := Aside.mk (ownsRow_move HR5.out fun q e => B6.block q (HR5.out.lt q e).2)
          clear HW5 HS5 HB5 HR5
          by_cases hfine : good ds ∧ ds.length = N
          · obtain ⟨v6, rfl, h6⟩ := hyes hfine
            have hfo := (forests_ok (K := N) HQ.out.1 (by have := HN.out; omega) (Nat.le_refl _) hfine.2).2
            have HFO := Aside.mk (And.intro hfo hfine)
            have HA6 := Aside.mk (own_nodes h6).sl
            clear hyes hnot B6 h6 hfo hfine
            go_wp2_with fail
            refine (SameInts_any HS6.out HW6.out).mono ?_
            rintro e w7 ⟨rfl, S7⟩
            rw [eqB_yes rfl]
            have B7 := S7.below w6.heap.size
            have HW7 := Aside.mk (HW6.out.below B7)
            have HA7 := Aside.mk (HA6.out.below B7)
            have HB7 := Aside.mk (bthen HB6.out HB6.out.size B7)
            have HR7 := Aside.mk (ownsRow_move HR6.out fun q e => B7.block q (HR6.out.lt q e).2)
            clear S7 B7 HW6 HS6 HA6 HB6 HR6
            go_wp2_with fail
            have hcut := HW7.out.cutK (n' := k) (c' := c5) (by omega) (by omega) (by omega)
            rw [HTK.out] at hcut
            have HC7 := Aside.mk hcut
            clear hcut
            refine (may_any (N : Int) HC7.out).mono ?_
            rintro e w8 ⟨b, rfl, hb, rfl⟩
            have hbt : b = true := hb.2 ⟨HFO.out.2.1, by rw [HFO.out.2.2]⟩
            subst hbt
            clear hb
            have href := refForest_any (HT.out w7 HB7.out) HC7.out (by simp [toS]) HFO.out.2.2 (by have := HN.out; omega) (toS_ok HQ.out.1).2.ok HFO.out.2.1 HFO.out.1.1
            go_wp2_with fail
            refine href.mono ?_
            clear href
            rintro e w8 ⟨v8, rfl, h8, B8⟩
            have hsame := SameNodes_any (HA7.out.below B8) (own_nodes h8).sl
            have HB8 := Aside.mk (bthen HB7.out HB7.out.size B8)
            have HR8 := Aside.mk (ownsRow_move HR7.out fun q e => B8.block q (HR7.out.lt q e).2)
            clear B8 h8 HB7 HR7 HA7 HW7 HC7
            go_wp2_with fail
            refine hsame.mono ?_
            clear hsame
            rintro e w9 ⟨rfl, S9⟩
            rw [eqB_yes rfl]
            have B9 := S9.below w8.heap.size
            have HB9 := Aside.mk (bthen HB8.out HB8.out.size B9)
            have HR9 := Aside.mk (ownsRow_move HR8.out fun q e => B9.block q (HR8.out.lt q e).2)
            clear S9 B9 HB8 HR8 HFO
            go_wp2_with fail
            refine (num_any 0 w9).mono ?_
            rintro e w10 ⟨rfl, rfl⟩
            go_upto_region 20 with (fail)
            by_cases hk1 : 0 < k
            · obtain ⟨hm0, hm1⟩ := mod_in2 x k hk1 hkk
              obtain ⟨j, hj⟩ := Int.eq_ofNat_of_zero_le hm0
              have hjk : j < k := by omega
              have d5 : (k : Int) ≠ 0 := by omega
              have d6 : ¬ k = 0 := by omega
              obtain ⟨hst, _⟩ := HR9.out.stored j (.int .i64 y)
              have fz := HR9.out.frozenAt j
              have cz := HR9.out.cellAt j (by omega)
              rw [List.getElem?_eq_getElem (by rw [List.length_append, ints_length, HD.out]; simp; omega)] at cz
              generalize (ints ds ++ [Value.int .i64 (-77)])[j]'(by rw [List.length_append, ints_length, HD.out]; simp; omega) = z at *
              have HSt : Aside ((w9.setCell ⟨g, j, none⟩ (.int .i64 y)).ownsRow w2.heap.size 3 1 (.slice (some ⟨g, 0, none⟩) (k + 1) c3) (k + 1) (ints (ds.set j y) ++ [.int .i64 (-77)])) := ⟨by
                have e : ints (ds.set j y) ++ [Value.int .i64 (-77)] = (ints ds ++ [Value.int .i64 (-77)]).set j (.int .i64 y) := by
                  rw [List.set_append_left _ _ (by rw [ints_length, HD.out]; exact hjk)]
                  simp [ints, List.map_set]
                rw [e]; exact hst⟩
              have HBt : Aside (Below w2.heap.size w2 (w9.setCell ⟨g, j, none⟩ (.int .i64 y))) := ⟨HB9.out.setCell (HR9.out.lt g rfl).1 _⟩
              have HRr : Aside (2 - (r + 1) < gk) := ⟨by have := HI.out; omega⟩
              clear hst hm0 hm1 HR9 HB9
              go_wp2
              go_roundg (2 - (r + 1))
              case measure => exact HRr.out
              case rel => exact ⟨r + 1, ds.set j y, ⟨by omega⟩, by go_num, ⟨by rw [List.length_set]; exact HD.out⟩, HSt, HBt⟩
            · have hk2 : k = 0 := by omega
              have HRr : Aside (2 - (r + 1) < gk) := ⟨by have := HI.out; omega⟩
              have d7 : decide (0 < k) = false := decide_eq_false hk1
              go_wp2
              go_roundg (2 - (r + 1))
              case measure => exact HRr.out
              case rel => exact ⟨r + 1, ds, ⟨by omega⟩, by go_num, HD, HR9, HB9⟩
          · have he := hnot hfine
            subst he
            have HNF : Aside (¬ (good ds ∧ ds.length = N)) := ⟨hfine⟩
            clear hyes hnot B6 hfine
            go_wp2_with fail
            refine (SameInts_any HS6.out HW6.out).mono ?_
            rintro e w7 ⟨rfl, S7⟩
            rw [eqB_yes rfl]
            have B7 := S7.below w6.heap.size
            have HW7 := Aside.mk (HW6.out.below B7)
            have HB7 := Aside.mk (bthen HB6.out HB6.out.size B7)
            have HR7 := Aside.mk (ownsRow_move HR6.out fun q e => B7.block q (HR6.out.lt q e).2)
            clear S7 B7 HW6 HS6 HB6 HR6
            go_wp2_with fail
            have hcut := HW7.out.cutK (n' := k) (c' := c5) (by omega) (by omega) (by omega)
            rw [HTK.out] at hcut
            refine (may_any (N : Int) hcut).mono ?_
            rintro e w8 ⟨b, rfl, hb, rfl⟩
            have hbf : b = false := by
              cases b with
              | false => rfl
              | true => exact absurd ⟨(hb.1 rfl).1, by have := (hb.1 rfl).2; omega⟩ HNF.out
            subst hbf
            clear hb hcut HW7
            go_wp2_with fail
            refine (num_any 191 w7).mono ?_
            rintro e w10 ⟨rfl, rfl⟩
            go_upto_region 20 with (fail)
            by_cases hk1 : 0 < k
            · obtain ⟨hm0, hm1⟩ := mod_in2 x k hk1 hkk
              obtain ⟨j, hj⟩ := Int.eq_ofNat_of_zero_le hm0
              have hjk : j < k := by omega
              have d5 : (k : Int) ≠ 0 := by omega
              have d6 : ¬ k = 0 := by omega
              obtain ⟨hst, _⟩ := HR7.out.stored j (.int .i64 y)
              have fz := HR7.out.frozenAt j
              have cz := HR7.out.cellAt j (by omega)
              rw [List.getElem?_eq_getElem (by rw [List.length_append, ints_length, HD.out]; simp; omega)] at cz
              generalize (ints ds ++ [Value.int .i64 (-77)])[j]'(by rw [List.length_append, ints_length, HD.out]; simp; omega) = z at *
              have HSt : Aside ((w7.setCell ⟨g, j, none⟩ (.int .i64 y)).ownsRow w2.heap.size 3 1 (.slice (some ⟨g, 0, none⟩) (k + 1) c3) (k + 1) (ints (ds.set j y) ++ [.int .i64 (-77)])) := ⟨by
                have e : ints (ds.set j y) ++ [Value.int .i64 (-77)] = (ints ds ++ [Value.int .i64 (-77)]).set j (.int .i64 y) := by
                  rw [List.set_append_left _ _ (by rw [ints_length, HD.out]; exact hjk)]
                  simp [ints, List.map_set]
                rw [e]; exact hst⟩
              have HBt : Aside (Below w2.heap.size w2 (w7.setCell ⟨g, j, none⟩ (.int .i64 y))) := ⟨HB7.out.setCell (HR7.out.lt g rfl).1 _⟩
              have HRr : Aside (2 - (r + 1) < gk) := ⟨by have := HI.out; omega⟩
              clear hst hm0 hm1 HR7 HB7
              go_wp2
              go_roundg (2 - (r + 1))
              case measure => exact HRr.out
              case rel => exact ⟨r + 1, ds.set j y, ⟨by omega⟩, by go_num, ⟨by rw [List.length_set]; exact HD.out⟩, HSt, HBt⟩
            · have hk2 : k = 0 := by omega
              have HRr : Aside (2 - (r + 1) < gk) := ⟨by have := HI.out; omega⟩
              have d7 : decide (0 < k) = false := decide_eq_false hk1
              go_wp2
              go_roundg (2 - (r + 1))
              case measure => exact HRr.out
              case rel => exact ⟨r + 1, ds, ⟨by omega⟩, by go_num, HD, HR7, HB7⟩
        · have hr2 : r = 2 := by have := HI.out; omega
          subst hr2
          have HP : Aside (LawPost w (.returned (.bool true)) wr) := ⟨rfl, bthen HB2.out HB2.out.size HB.out⟩
          clear HR HB hr
          go_wp2
          go_ret
          exact HP.out
    · have d1 : decide (16384 < (cs.length : Int)) = true := decide_eq_true (by omega)
      go_wp2
      go_ret
      exact ⟨rfl, HB2.out⟩
  · have he := hno hs
    subst he
    clear hy hno hs B2 HB1
    go_wp2
    go_ret
    exact ⟨rfl, HB2.out⟩
end Go.Proofs.Ytikgdhmnnnicmaa
