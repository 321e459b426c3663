/- The law OrderEncodes: true, whatever the generation, the list and the turn. Condition: the tables that the text lays. -/
import Derived.Test.YtjncnppbaldmiaaGreatDoorOn
import Derived.Test.YtjncnppbaldmiaaGreatDoorOs
import Derived.Test.YtjncnppbaldmiaaGreatDoorOt
import Derived.Test.YtjncnppbaldmiaaGreatDoorLa
namespace Go.Proofs.YtjncnppbaldmiaaGreatDoor
open Go.RowKit Go.Shelf
theorem num_any {w : World} (x : Int) : Calls Tryz.prog 13 #[.int .i64 x] w fun e w' => e = .returned (.int .i64 x) ∧ w' = w := by
  go_enter Tryz.func13, Tryz.ntmps13
  go_wp2
  go_ret
  exact ⟨rfl, rfl⟩
theorem idx_ok (i : Int) {n : Nat} (h : 0 < n) (hn : n ≤ 1099511627776) : ∃ j : Nat, j < n ∧ (wrap64 (i.tmod n + n)).tmod n = (j : Int) := by
  have h0 : (0 : Int) < (n : Int) := by omega
  have h1 := Int.tmod_lt_of_pos i h0
  have h2 : -(n : Int) < i.tmod n := Int.lt_tmod_of_pos i h0
  have e : wrap64 (i.tmod n + n) = i.tmod n + n := by unfold wrap64; omega
  rw [e, Int.tmod_eq_emod_of_nonneg (by omega)]
  have h3 := Int.emod_nonneg (i.tmod n + n) (show (n : Int) ≠ 0 by omega)
  have h4 := Int.emod_lt_of_pos (i.tmod n + n) h0
  exact ⟨((i.tmod n + n) % n).toNat, by omega, by omega⟩
theorem encO_sl {w w' : World} {gen : Int} {l : List Int} {e : Ending} (h : EncO w gen l e w') : ∃ hv dv, e = .returned (.tuple #[hv, dv, .int .i64 (encO gen l).2.2]) ∧ Sl kbyte w' (w.heap.size ≤ ·) hv (encO gen l).1 ∧ Sl (kslice kbyte) w' (w.heap.size ≤ ·) dv (encO gen l).2.1 ∧ Below w.heap.size w w' := by
  obtain ⟨h1, h2, h3⟩ := h
  unfold encO
  cases hm : ordB gen l with
  | true =>
    obtain ⟨hv, dv, vs, rfl, a, b⟩ := h1 hm
    exact ⟨hv, dv, rfl, (own_u8s a).sl, b.sl, h3⟩
  | false =>
    refine ⟨_, _, h2 hm, (own_u8s (xs := []) (World.ownsRow_nil w' w.heap.size 5 1)).sl, (BL.nil w' w.heap.size).sl, h3⟩
theorem Sl.front {α : Type} {K : Kind α} {w : World} {ok : Nat → Prop} {A : Option Addr} {n c : Nat} {xs ys : List α} (h : Sl K w ok (.slice A n c) (xs ++ ys)) : Sl K w ok (.slice A xs.length c) xs := by
  obtain ⟨A', c', e, h1, h2, h3⟩ := h
  cases e
  rw [List.length_append] at h1 h3
  refine ⟨A, c, rfl, by omega, h2, fun h0 => ?_⟩
  obtain ⟨b, o, e, hb, hl, hx⟩ := h3 (by omega)
  exact ⟨b, o, e, hb, hl, fun i x hi => hx i x (by rw [List.getElem?_append_left (List.getElem?_eq_some_iff.1 hi).1]; exact hi)⟩
theorem own_pos {w : World} {B s n : Nat} {e : TypeId} {v : Value} {xs : List Value} (h : w.ownsRow B e s v n xs) (h0 : 0 < n) : ∃ g cap, v = .slice (some ⟨g, 0, none⟩) n cap ∧ n ≤ cap ∧ cap ≤ 9223372036854775807 := by
  rcases h.2 with ⟨_, e⟩ | ⟨g, cap, cur, rfl, _, _, h1, h2, _⟩
  · omega
  · exact ⟨g, cap, rfl, h1, by simpa only [maxLen] using h2⟩
/-- Numbers with a mark behind them, in a block of their own. -/
structure LI (w0 : World) (g cap : Nat) (l : List Int) (mk : Int) (w : World) : Prop where
  bel : Below w0.heap.size w0 w
  own : w.ownsRow w0.heap.size 3 1 (.slice (some ⟨g, 0, none⟩) (l.length + 1) cap) (l.length + 1) (ints (l ++ [mk]))
theorem LI.below {w0 : World} {g cap : Nat} {l : List Int} {mk : Int} {w w' : World} (h : LI w0 g cap l mk w) (hb : Below w.heap.size w w') : LI w0 g cap l mk w' :=
  ⟨bthen h.bel h.bel.size hb, ownsRow_move h.own fun q e => hb.block q (h.own.lt q e).2⟩
theorem LI.whole {w0 : World} {g cap : Nat} {l : List Int} {mk : Int} {w : World} (h : LI w0 g cap l mk w) : Sl kint w (w0.heap.size ≤ ·) (.slice (some ⟨g, 0, none⟩) (l.length + 1) cap) (l ++ [mk]) := by
  have e : l.length + 1 = (l ++ [mk]).length := by simp
  have h' := h.own
  rw [e] at h' ⊢
  exact (own_ints h').sl
theorem LI.sl {w0 : World} {g cap : Nat} {l : List Int} {mk : Int} {w : World} (h : LI w0 g cap l mk w) : Sl kint w (w0.heap.size ≤ ·) (.slice (some ⟨g, 0, none⟩) l.length cap) l := h.whole.front
theorem LI.at {w0 : World} {g cap : Nat} {l : List Int} {mk : Int} {w : World} (h : LI w0 g cap l mk w) : w.cell? ⟨g, l.length, none⟩ = some (.int .i64 mk) := by
  obtain ⟨b, o, e, k⟩ := h.whole.int l.length (by simp)
  cases e
  simpa using k
theorem LI.set {w0 : World} {g cap k : Nat} {l : List Int} {mk : Int} {w : World} (h : LI w0 g cap l mk w) (hk : k < l.length) (y : Int) :
    w.cell? ⟨g, k, none⟩ = some (.int .i64 l[k]) ∧ w.frozen? ⟨g, k, none⟩ = false ∧ LI w0 g cap (l.set k y) mk (w.setCell ⟨g, k, none⟩ (.int .i64 y)) := by
  refine ⟨?_, ?_, ⟨h.bel.setCell (p := ⟨g, k, none⟩) (h.own.lt g rfl).1 _, ?_⟩⟩
  · obtain ⟨b, o, e, q⟩ := h.whole.int k (by simp; omega)
    cases e
    rw [List.getElem_append_left hk] at q
    simpa using q
  · rcases h.own.2 with ⟨e, _⟩ | ⟨g', cap', cur, e, h1, h2, h3, h4, h5, h6⟩
    · cases e
    · cases e
      exact frozen_of_row w g k _ _ h2
  · rw [List.length_set]
    have hs2 : l.set k y ++ [mk] = (l ++ [mk]).set k y := by rw [List.set_append_left _ _ hk]
    rw [hs2]
    refine ⟨by simp [ints_length], ?_⟩
    rcases h.own.2 with ⟨e, _⟩ | ⟨g', cap', cur, e, h1, h2, h3, h4, h5, h6⟩
    · cases e
    · cases e
      refine .inr ⟨g, cap, cur.setIfInBounds k (.int .i64 y), rfl, h1, ?_, h3, h4, by simpa using h5, ?_⟩
      · simp [World.setCell, Array.getElem?_modify, h2]
      · rw [Array.toList_setIfInBounds, List.take_set, h6]
        simp [ints, List.map_set]
theorem bdrewO {w : World} (q : Nat) : Below w.heap.size w (w.drewN q) := bdrew (Below.refl _ _) q
set_option maxHeartbeats 8000000 in
set_option maxRecDepth 100000 in
theorem OrderEncodes_any {w : World} {ok : Nat → Prop} {v : Value} {l : List Int} {gen i by_ : Int} (T : Tabs w) (hP : Pow w) (hs : Sl kint w ok v l) (hg : gen ≤ 9223372036854775807) :
    Calls Tryz.prog 3 #[.int .i64 gen, v, .int .i64 i, .int .i64 by_] w fun e w' => e = .returned (.bool true) ∧ Below w.heap.size w w' := by
  obtain ⟨A, c, rfl, hcc, hm⟩ := hs.slice
  have hfirst := first_any T
  have HS := Aside.mk hs
  have HPw := Aside.mk hP
  have HG := Aside.mk hg
  clear hs T hP hg
  go_enter Tryz.func3, Tryz.ntmps3
  go_wp2_with fail
  refine hfirst.mono ?_
  rintro e w1 ⟨rfl, B1⟩
  have HB1 := Aside.mk B1
  clear B1 hfirst
  by_cases h5 : 5000 < l.length
  · have hd : decide ((5000 : Int) < (l.length : Int)) = true := decide_eq_true (by omega)
    go_wp2
    go_ret
    exact ⟨rfl, HB1.out⟩
  · have hd : decide ((5000 : Int) < (l.length : Int)) = false := decide_eq_false (by omega)
    have hl : l.length ≤ 5000 := by omega
    have HLn := Aside.mk hl
    have hcall := Ints_any (HS.out.below HB1.out) (by omega)
    clear h5 hl
    go_wp2_with fail
    refine hcall.mono ?_
    clear hcall hd
    rintro e w2 ⟨v2, rfl, ho2, B2⟩
    have HO2 := Aside.mk ho2
    have HB2 := Aside.mk B2
    have HB12 := Aside.mk (bthen HB1.out HB1.out.size B2)
    clear ho2 B2
    obtain ⟨A2, m2, c2, rfl⟩ := own_slice HO2.out
    have HW1 : Aside (w1.heap.size ≤ w2.heap.size) := ⟨HB2.out.size⟩
    go_wp2_with (at_builtin; go_must (refine app_one w1.heap.size rfl _ _ 22 3 (.int .i64 0) 1 8 rfl Tryz.underlying22 Tryz.infoInt rfl (by decide) (by decide) (.slice A2 m2 c2) l.length _ [.int .i64 201] rfl rfl rfl (by simp [Value.oneCell']) HO2.out HW1.out (by have := HLn.out; omega) ?_; intro v1 w3 hown hg3 hat; obtain ⟨g, cap, rfl, hc1, hc2⟩ := own_pos hown (by omega); have HI0 : Aside (LI w1 g cap l 201 w3) := ⟨⟨HB2.out.grown hg3 HB2.out.size (fun q e => (HO2.out.lt q e).1), by rw [ints_snoc]; exact hown⟩⟩; clear hown hg3 hat))
    generalize w1.heap.size = lo1 at *
    have HC : Aside (l.length + 1 ≤ cap) := ⟨hc1⟩
    go_loopg [12] 2 (fun kq v12 wr => ∃ (r : Nat) (lr : List Int), Aside (r + kq = 2) ∧ v12 = .int .i64 r ∧ Aside (lr.length = l.length ∧ LI w1 g cap lr 201 wr))
    case atStart => exact ⟨0, l, ⟨by omega⟩, rfl, ⟨⟨rfl, HI0.out⟩⟩⟩
    case round =>
      clear HI0
      obtain ⟨r, lr, HR, rfl, HE⟩ := hrel
      obtain ⟨w4, hw4⟩ : ∃ w4, w4 = wr := ⟨_, rfl⟩
      subst hw4
      by_cases hr : r < 2
      · have HM : Aside (2 - (r + 1) < gk ∧ r + 1 + (2 - (r + 1)) = 2) := ⟨by have := HR.out; omega⟩
        have hr' : (r : Int) < 2 := by omega
        have HE1 := Aside.mk HE.out.2
        have HL2 := Aside.mk HE.out.1
        have hsl := HE.out.2.sl
        rw [HL2.out] at hsl
        have hcall := Ints_any hsl (by have := HLn.out; have := HL2.out; omega)
        clear HE hsl
        go_wp2_with fail
        refine hcall.mono ?_
        clear hcall
        rintro e w5 ⟨vn, rfl, hn, B5⟩
        have HE5 := Aside.mk (HE1.out.below B5)
        have HN5 := Aside.mk (own_ints hn).sl
        obtain ⟨An, mn, cn, rfl⟩ := own_slice hn
        have hnl := hn.1
        clear hn B5 HE1
        have hsl := HE5.out.sl
        rw [HL2.out] at hsl
        have hcall := encode_any (gen := gen) hsl (by have := HLn.out; have := HL2.out; omega)
        clear hsl hnl
        go_wp2_with fail
        refine hcall.mono ?_
        clear hcall
        intro e w7 hp
        obtain ⟨ha, da, rfl, hsa, hda, B7⟩ := encO_sl hp
        have HE7 := Aside.mk (HE5.out.below B7)
        have HN7 := Aside.mk (HN5.out.below B7)
        have HSa := Aside.mk hsa
        have HDa := Aside.mk hda
        clear hp hsa hda B7 HE5 HN5
        have hcall := refEncode_any (gen := gen) HN7.out (by have := HLn.out; have := HL2.out; omega)
        obtain ⟨en, hen⟩ : ∃ en, en = (encO gen lr).2.2 := ⟨_, rfl⟩
        rw [← hen]
        have HEn := Aside.mk hen
        clear hen
        go_wp2_with fail
        refine hcall.mono ?_
        clear hcall
        intro e w8 hp
        obtain ⟨hb, db, rfl, hsb, hdb, B8⟩ := encO_sl hp
        rw [← HEn.out]
        have HE8 := Aside.mk (HE7.out.below B8)
        have HN8 := Aside.mk (HN7.out.below B8)
        have HSa8 := Aside.mk (HSa.out.below B8)
        have HDa8 := Aside.mk (HDa.out.below B8)
        have HDb8 := Aside.mk hdb
        have hcall := SameBytes_any HSa8.out hsb
        rw [eqB_yes rfl] at hcall
        clear hsb hdb B8 hp HE7 HN7 HSa HDa HSa8 HEn
        go_wp2_with fail
        refine hcall.mono ?_
        clear hcall
        rintro e w9 ⟨rfl, hw9⟩
        subst hw9
        have hcall := SameByteLists_any HDa8.out HDb8.out
        rw [eqB_yes rfl] at hcall
        clear HDa8 HDb8
        go_wp2_with fail
        refine hcall.mono ?_
        clear hcall
        rintro e w10 ⟨rfl, ⟨⟨q10, rfl⟩⟩⟩
        have HE10 := Aside.mk (HE8.out.below (bdrewO q10))
        have HN10 := Aside.mk (HN8.out.below (bdrewO q10))
        clear HE8 HN8
        generalize w9.drewN q10 = w11 at *
        have hsl := HE10.out.sl
        rw [HL2.out] at hsl
        have hcall := SameInts_any hsl HN10.out
        rw [eqB_yes rfl] at hcall
        clear hsl HN10
        go_wp2_with fail
        refine hcall.mono ?_
        clear hcall
        rintro e w12 ⟨rfl, ⟨⟨q12, rfl⟩⟩⟩
        have HE12 := Aside.mk (HE10.out.below (bdrewO q12))
        clear HE10
        generalize w11.drewN q12 = w13 at *
        have k0 := HE12.out.at
        rw [HL2.out] at k0
        have hnum := num_any (w := w13) en
        have hne : (en != en) = false := by simp
        go_wp2_with fail
        refine hnum.mono ?_
        clear hnum k0
        rintro e w14 ⟨rfl, hw14⟩
        subst hw14
        by_cases h0 : 0 < l.length
        · obtain ⟨j, hj, hidx⟩ := idx_ok i h0 (by have := HLn.out; omega)
          have hd0 : decide ((0 : Int) < (l.length : Int)) = true := decide_eq_true (by omega)
          have hn0 : l ≠ [] := fun e => by rw [e] at hj; simp at hj
          obtain ⟨q1, q2, q3⟩ := HE12.out.set (k := j) (by rw [HL2.out]; exact hj) (wrap64 (lr[j]'(by rw [HL2.out]; exact hj) + by_))
          have HQ := Aside.mk q3
          have hjn : (j : Int) < (l.length : Int) := by omega
          have hj0 : (0 : Int) ≤ (j : Int) := by omega
          have hjc : j < cap := by have := HC.out; omega
          have hlt := HE12.out.own.lt g rfl
          have hl5 := HLn.out
          clear q3 HE12
          go_wp2_with fail
          go_roundg (2 - (r + 1))
          case measure => exact HM.out.1
          case rel => exact ⟨r + 1, _, ⟨HM.out.2⟩, by go_num, ⟨⟨by rw [List.length_set]; exact HL2.out, HQ.out⟩⟩⟩
        · have hd0 : decide ((0 : Int) < (l.length : Int)) = false := decide_eq_false (by omega)
          have hd1 : decide (0 < l.length) = false := decide_eq_false h0
          clear h0
          go_wp2_with fail
          go_roundg (2 - (r + 1))
          case measure => exact HM.out.1
          case rel => exact ⟨r + 1, _, ⟨HM.out.2⟩, by go_num, ⟨⟨HL2.out, HE12.out⟩⟩⟩
      · have hr2 : ¬ ((r : Int) < 2) := by omega
        have HB4 := Aside.mk (bthen HB1.out HB1.out.size HE.out.2.bel)
        clear HE hr
        by_cases hg0 : gen < 0
        · have hd : decide (gen < (0 : Int)) = true := decide_eq_true hg0
          go_wp2
          go_ret
          exact ⟨rfl, HB4.out⟩
        · have hd : decide (gen < (0 : Int)) = false := decide_eq_false hg0
          have hc1 := name_any gen (by omega) HG.out w4 (HPw.out.below HB4.out)
          have HC2 : Aside (∀ w5, Below w4.heap.size w4 w5 → Calls Tryz.prog 15 #[.int .i64 gen] w5 fun e w' => e = .returned (.string (nameS gen)) ∧ Below w5.heap.size w5 w') := ⟨fun w5 h => refName_any gen (by omega) HG.out w5 ((HPw.out.below HB4.out).below h)⟩
          generalize nameS gen = nm at *
          clear hg0
          go_wp2_with fail
          refine hc1.mono ?_
          clear hc1
          rintro e w5 ⟨rfl, B5⟩
          have hc2 := HC2.out w5 B5
          have HB5 := Aside.mk (bthen HB4.out HB4.out.size B5)
          clear B5 HC2
          go_wp2_with fail
          refine hc2.mono ?_
          clear hc2
          rintro e w6 ⟨rfl, B6⟩
          have HB6 := Aside.mk (bthen HB5.out HB5.out.size B6)
          clear B6
          go_wp2_with fail
          go_ret
          exact ⟨by simp, HB6.out⟩
end Go.Proofs.YtjncnppbaldmiaaGreatDoor
