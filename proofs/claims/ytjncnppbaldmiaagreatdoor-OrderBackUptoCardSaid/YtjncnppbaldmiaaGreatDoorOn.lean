/- The document's Encode of an order walked. No condition. -/
import Derived.Test.YtjncnppbaldmiaaGreatDoorOm
namespace Go.Proofs.YtjncnppbaldmiaaGreatDoor
open Go.RowKit Go.Shelf
theorem ordB_len {gen : Int} {l : List Int} (h0 : ¬ gen < 1) (h1 : ¬ 2147483647 < gen) (hl : l.length ≤ 16777216) : ordB gen l = permB l := by
  rw [ordB_mid h0 h1, decide_eq_true hl, Bool.and_true]
set_option maxHeartbeats 4000000 in
set_option maxRecDepth 100000 in
theorem refEncode_any {w : World} {ok : Nat → Prop} {v : Value} {gen : Int} {l : List Int} (hs : Sl kint w ok v l) (hl : l.length ≤ 16777216) : Calls Tryz.prog 9 #[.int .i64 gen, v] w (EncO w gen l) := by
  have hcall := refIs_any hs hl
  obtain ⟨A, c, rfl, hcc, hm⟩ := hs.slice
  have H3 := Aside.mk hs
  have HLl := Aside.mk hl
  have hd2 : decide ((16777216 : Int) < (l.length : Int)) = false := decide_eq_false (by omega)
  clear hs
  by_cases h0 : gen < 1
  · have HP := Aside.mk (encO_no (w := w) (ordB_low (l := l) h0) (Below.refl _ _))
    have hd : decide (gen < (1 : Int)) = true := decide_eq_true h0
    clear hcall hl hd2
    go_enter Tryz.func9, Tryz.ntmps9
    go_wp2
    exact bodyPost_ret (by simp [results, Tryz.results9, go_sem]) rfl HP.out
  · have hd : decide (gen < (1 : Int)) = false := decide_eq_false h0
    by_cases h1 : 2147483647 < gen
    · have HP := Aside.mk (encO_no (w := w) (ordB_high (l := l) h1) (Below.refl _ _))
      have hd1 : decide ((2147483647 : Int) < gen) = true := decide_eq_true h1
      clear hcall hl hd2
      go_enter Tryz.func9, Tryz.ntmps9
      go_wp2
      exact bodyPost_ret (by simp [results, Tryz.results9, go_sem]) rfl HP.out
    · have hd1 : decide ((2147483647 : Int) < gen) = false := decide_eq_false h1
      have HMid := Aside.mk (ordB_len (l := l) h0 h1 hl)
      obtain ⟨ob, hob⟩ : ∃ ob, ob = permB l := ⟨_, rfl⟩
      rw [← hob] at hcall HMid
      clear hob
      have HGen := Aside.mk (And.intro h0 h1)
      clear h0 h1 hl
      go_enter Tryz.func9, Tryz.ntmps9
      go_wp2_with fail
      refine hcall.mono ?_
      clear hcall
      rintro e w1 ⟨rfl, B1⟩
      have HB1 := Aside.mk B1
      clear B1 hd hd1 hd2
      cases ob with
      | false =>
        have HP := Aside.mk (encO_no HMid.out HB1.out)
        go_wp2
        exact bodyPost_ret (by simp [results, Tryz.results9, go_sem]) rfl HP.out
      | true =>
        have HK := Aside.mk (ordB_parts HMid.out)
        obtain ⟨lo, hlo⟩ : ∃ lo, lo = w1.heap.size := ⟨_, rfl⟩
        have HLo := Aside.mk hlo
        have HQ0 : Aside (EQ lo w1 w1 (.slice none 0 0) [] (.slice none 0 0) (rowsD l 0) (curD l 0)) := ⟨by rw [rowsD_zero, curD_zero, hlo]; exact EQ.init w1⟩
        clear hlo
        go_wp2_with fail
        go_loopg [8, 9, 10] l.length (fun kq v8 v9 v10 wr => ∃ (i : Nat) (vs : List Value), Aside (i + kq = l.length) ∧ v10 = .int .i64 i ∧ Aside (EQ lo w1 wr v8 vs v9 (rowsD l i) (curD l i)))
        case atStart => exact ⟨0, [], ⟨by omega⟩, rfl, HQ0⟩
        case round =>
          clear HQ0
          obtain ⟨i, vs, HI, rfl, HQ⟩ := hrel
          obtain ⟨A9, n9, c9, rfl⟩ := own_slice HQ.out.bl.own
          obtain ⟨Ax, mx, cx, rfl⟩ := own_slice HQ.out.own
          obtain ⟨w3, hw3⟩ : ∃ w3, w3 = wr := ⟨_, rfl⟩
          subst hw3
          have HBw : Aside (∀ W, Below lo w1 W → Below w.heap.size w W) := ⟨fun W hW => by
            have hW' : Below w1.heap.size w1 W := by rw [← HLo.out]; exact hW
            exact bthen HB1.out HB1.out.size hW'⟩
          by_cases hi : i < l.length
          · have HM : Aside (l.length - (i + 1) < gk ∧ i + 1 + (l.length - (i + 1)) = l.length) := ⟨by have := HI.out; omega⟩
            obtain ⟨bd, od, e, pd⟩ := (H3.out.below (HBw.out _ HQ.out.bel)).int i hi
            cases e
            have hd := permB_nums HK.out.2.1 l[i] (List.getElem_mem hi)
            have hlm := HLl.out
            have hln : (curD l i).length ≤ 2000 := by
              have h := rowD_le (c := (l.take i).drop (200 * kD l.length i)) (fun d hd => by
                have := permB_nums HK.out.2.1 d (List.mem_of_mem_take (List.mem_of_mem_drop hd))
                omega)
              have e1 : kD l.length i = i / 200 := by unfold kD; rw [if_pos hi]
              rw [List.length_drop, List.length_take, e1] at h
              unfold curD segD
              rw [e1]
              omega
            have HSF := Aside.mk (stepD_flush l hi)
            have HSK := Aside.mk (stepD_keep l hi)
            generalize l[i] = d at *
            obtain ⟨y, rfl⟩ := Int.eq_ofNat_of_zero_le hd.1
            have hy : y < 9223372036854775808 := by have := hd.2; omega
            have HVI : Aside (vI (y : Int) = vform y) := ⟨by simp [vI]⟩
            have hcon := refPut_any y hy (own_u8s HQ.out.own).sl (by omega)
            have hi1 : (i : Int) < (l.length : Int) := by omega
            have hi0 : (0 : Int) ≤ (i : Int) := by omega
            clear hd hln
            go_wp2_with fail
            refine hcon.mono ?_
            clear hcon pd
            rintro e w6 ⟨vy, rfl, ho, hb⟩
            have HQ5 : Aside (EQ lo w1 w6 (.slice A9 n9 c9) vs vy (rowsD l i) (curD l i ++ vI (y : Int))) := ⟨by rw [HVI.out]; exact HQ.out.fresh ho hb⟩
            obtain ⟨Ay, my, cy, rfl⟩ := own_slice HQ5.out.own
            clear ho hb HQ HVI
            have HRl : Aside ((rowsD l i).length ≤ 33554432) := ⟨by
              unfold rowsD kD
              simp only [List.length_map, List.length_range]
              split <;> omega⟩
            have HNx : Aside (∀ (v1 : Value) (w9 : World), (i % 200 = 199 ∨ i = l.length - 1) → w9.ownsRow lo 25 1 v1 ((rowsD l i).length + 1) (vs ++ [.slice Ay my cy]) → w6.grownBy w9 (Value.ownBlock (.slice A9 n9 c9)) → (v1.ownBlock = Value.ownBlock (.slice A9 n9 c9) ∨ v1.ownBlock = some (w6.heap.size + 1)) → EQ lo w1 w9 v1 (vs ++ [.slice Ay my cy]) (.slice none 0 0) (rowsD l (i + 1)) (curD l (i + 1))) := ⟨fun v1 w9 hf hown hg hat => by
              obtain ⟨e1, e2⟩ := HSF.out hf
              rw [e1, e2]
              exact HQ5.out.flush hown hg hat⟩
            have HOd := Aside.mk HQ5.out.bl.own
            have HOs := Aside.mk HQ5.out.size
            by_cases h49 : i % 200 = 199
            · have e50 : ((i : Int) % 200 == 199) = true := by simp; omega
              have HF : Aside (i % 200 = 199 ∨ i = l.length - 1) := ⟨.inl h49⟩
              clear h49
              generalize (rowsD l i).length = rl at *
              go_wp2_with (at_builtin; go_must (refine app_one lo rfl _ _ 26 25 (.slice none 0 0) 1 24 rfl Tryz.underlying26 Tryz.infoBytes rfl (by decide) (by decide) (.slice A9 n9 c9) rl vs [.slice Ay my cy] rfl rfl rfl (by simp [Value.oneCell']) HOd.out HOs.out (by have := HRl.out; omega) ?_; intro v1 w9 hown hg hat; have HQ9 := Aside.mk (HNx.out v1 w9 HF.out hown hg hat); clear hown hg hat))
              go_roundg (l.length - (i + 1))
              case measure => exact HM.out.1
              case rel => exact ⟨i + 1, _, ⟨HM.out.2⟩, by go_num, HQ9⟩
            · have e50 : ((i : Int) % 200 == 199) = false := by simp; omega
              by_cases hie : i = l.length - 1
              · have eN : ((i : Int) == (l.length : Int) - 1) = true := by simp; omega
                have HF : Aside (i % 200 = 199 ∨ i = l.length - 1) := ⟨.inr hie⟩
                have hn1 : 1 ≤ l.length := by omega
                clear hie h49
                generalize (rowsD l i).length = rl at *
                go_wp2_with (at_builtin; go_must (refine app_one lo rfl _ _ 26 25 (.slice none 0 0) 1 24 rfl Tryz.underlying26 Tryz.infoBytes rfl (by decide) (by decide) (.slice A9 n9 c9) rl vs [.slice Ay my cy] rfl rfl rfl (by simp [Value.oneCell']) HOd.out HOs.out (by have := HRl.out; omega) ?_; intro v1 w9 hown hg hat; have HQ9 := Aside.mk (HNx.out v1 w9 HF.out hown hg hat); clear hown hg hat))
                go_roundg (l.length - (i + 1))
                case measure => exact HM.out.1
                case rel => exact ⟨i + 1, _, ⟨HM.out.2⟩, by go_num, HQ9⟩
              · have eN : ((i : Int) == (l.length : Int) - 1) = false := by simp; omega
                have hn1 : 1 ≤ l.length := by omega
                have HQ9 : Aside (EQ lo w1 w6 (.slice A9 n9 c9) vs (.slice Ay my cy) (rowsD l (i + 1)) (curD l (i + 1))) := ⟨by
                  obtain ⟨e1, e2⟩ := HSK.out (by intro h; rcases h with h | h; exact h49 h; exact hie h)
                  rw [e1, e2]
                  exact HQ5.out⟩
                clear hie h49
                go_wp2_with fail
                go_roundg (l.length - (i + 1))
                case measure => exact HM.out.1
                case rel => exact ⟨i + 1, _, ⟨HM.out.2⟩, by go_num, HQ9⟩
          · have hie : i = l.length := by have := HI.out; omega
            subst hie
            have HQe : Aside (EQ lo w1 w3 (.slice A9 n9 c9) vs (.slice Ax mx cx) (dataD l) (curD l l.length)) := ⟨by have h := HQ.out; rw [rowsD_end] at h; exact h⟩
            clear HQ hi
            have hi := Nat.lt_irrefl l.length
            have HB0 : Aside (Below w3.heap.size w3 w3) := ⟨Below.refl _ _⟩
            go_wp2_with fail
            refine (refFour_any (bs := []) w3.heap.size (Nat.le_refl _) (World.ownsRow_nil _ _ _ _) (x := gen) (by have := HGen.out; omega) (by have := HGen.out; omega) (by simp)).mono ?_
            rintro e w4 ⟨v4, rfl, ho, hg, -⟩
            have HB2 := Aside.mk (HB0.out.grown hg HB0.out.size fun q e => by cases e)
            have HR2 := Aside.mk ho
            obtain ⟨A2, m2, c2, rfl⟩ := own_slice HR2.out
            clear ho hg
            go_wp2_with fail
            refine (refFour_any (bs := [] ++ be4 gen) w3.heap.size HB2.out.size HR2.out (x := (l.length : Int)) (by omega) (by have := HLl.out; omega) (by simp [be4_length])).mono ?_
            rintro e w5 ⟨v5, rfl, ho, hg, -⟩
            have HB3 := Aside.mk (HB2.out.grown hg HB2.out.size fun q e => (HR2.out.lt q e).1)
            have hhe : [] ++ be4 gen ++ be4 (l.length : Int) = headO gen l := by unfold headO; simp [fours]
            rw [hhe] at ho
            have HR3 := Aside.mk ho
            obtain ⟨A3, m3, c3, rfl⟩ := own_slice HR3.out
            clear ho hg HR2 hhe HB2
            have HP : Aside (EncO w gen l (.returned (.tuple #[.slice A3 m3 c3, .slice A9 n9 c9, .int .i64 0])) w5) := ⟨by
              have h := HQe.out
              have hsz := h.size
              have hb1 := HB1.out.size
              have hL := HLo.out
              refine ⟨fun _ => ⟨_, _, vs, rfl, own_low HR3.out (by omega), (h.bl.below HB3.out).low (by omega)⟩, fun e => absurd (HMid.out.symm.trans e) (by decide), bthen (HBw.out _ h.bel) (by omega) HB3.out⟩⟩
            go_wp2_with fail
            exact bodyPost_ret (by simp [results, Tryz.results9, go_sem]) rfl HP.out
end Go.Proofs.YtjncnppbaldmiaaGreatDoor
