/- The document's Decode of an order walked. No condition. -/
import Derived.Test.YtjncnppbaldmiaaGreatDoorOd
import Derived.Test.YtjncnppbaldmiaaGreatDoorOn
import Derived.Test.YtjncnppbaldmiaaGreatDoorRr
namespace Go.Proofs.YtjncnppbaldmiaaGreatDoor
open Go.RowKit Go.Shelf
theorem take_take_app {α : Type} (A F : List α) (K : Nat) : (A.take K ++ F).take K = (A ++ F).take K := by
  rcases Nat.lt_or_ge A.length K with h | h
  · rw [List.take_of_length_le (by omega : A.length ≤ K)]
  · rw [List.take_append_of_le_length (by rw [List.length_take]; omega), List.take_append_of_le_length h, List.take_take, Nat.min_self]
section
variable {w0 W W' w9 : World} {v v1 bv : Value} {R lo p : Nat} {bs : List UInt8} {err : Int}
theorem Rr.grown (h : Rr lo W R bv bs p err) (hg : W.grownBy w9 v.ownBlock) (h1 : v.ownBlock ≠ some R) (h2 : ∀ q, bv.ownBlock = some q → v.ownBlock ≠ some q) : Rr lo w9 R bv bs p err :=
  ⟨(hg.block R (blk_lt h.box) fun e => h1 e.symm).trans h.box, ownsRow_move h.own fun q e => hg.block q (h.own.lt q e).2 fun e2 => h2 q e e2.symm, h.ne, h.lo, h.le⟩
end
set_option maxHeartbeats 4000000 in
set_option maxRecDepth 100000 in
theorem refInt_o {w : World} {lo R p : Nat} {bv : Value} {bs : List UInt8} (h : Rr lo w R bv bs p 0) (hlt : p < bs.length) :
    Calls Tryz.prog 76 #[.pointer (some ⟨R, 0, none⟩)] w fun e w' => ∃ (xv : Int) (p' : Nat) (err' : Int), e = .returned (.int .i64 xv) ∧ Rr lo w' R bv bs p' err' ∧ remG 0 p bs = xv :: remG err' p' bs ∧ leftG err' p' bs < leftG 0 p bs ∧
      w'.heap.size = w.heap.size ∧ (∀ q, q ≠ R → w'.heap[q]? = w.heap[q]?) ∧ w'.os = w.os ∧ w'.tape = w.tape ∧ w'.output = w.output := by
  obtain ⟨k0, k1, k2⟩ := three h.box
  have hcall := refNumber_any h
  have HR := Aside.mk h
  have hbf1 := (store_at HR.out.box 1 (show 1 < 3 by decide)).2.1
  have hbf2 := (store_at HR.out.box 2 (show 2 < 3 by decide)).2.1
  clear h
  go_enter Tryz.func76, Tryz.ntmps76
  go_wp2_with fail
  refine hcall.mono ?_
  clear hcall
  rintro e w2 ⟨rfl, hy, hn⟩
  cases hv : vread (bs.drop p) with
  | none =>
    obtain ⟨c, hc, rfl⟩ := hn hv
    have HT := Aside.mk (HR.out.turn p c HR.out.le)
    have HD : Aside (remG 0 p bs = 0 :: remG c p bs ∧ leftG c p bs < leftG 0 p bs) := ⟨by
      unfold remG leftG
      rw [if_pos rfl, if_neg hc, if_pos rfl, if_neg hc, frG_no (fun e => by have := congrArg List.length e; simp at this; omega) hv]
      exact ⟨rfl, by omega⟩⟩
    clear hy hn hv
    go_wp2_with fail
    go_ret
    exact ⟨0, p, c, rfl, HT.out.1, HD.out.1, HD.out.2, HT.out.2⟩
  | some xn =>
    obtain ⟨x, n⟩ := xn
    have e1 := hy _ _ hv
    subst e1
    have hn2 := vread_le hv
    rw [List.length_drop] at hn2
    have HT := Aside.mk (HR.out.turn (p + n) 0 (by omega))
    have HD : Aside (remG 0 p bs = (x : Int) :: remG 0 (p + n) bs ∧ leftG 0 (p + n) bs < leftG 0 p bs) := ⟨by
      unfold remG leftG
      rw [if_pos rfl, if_pos rfl, if_pos rfl, if_pos rfl, frG_step hv, List.drop_drop]
      exact ⟨rfl, by omega⟩⟩
    clear hy hn hv
    go_wp2_with fail
    go_ret
    exact ⟨x, p + n, 0, rfl, HT.out.1, HD.out.1, HD.out.2, HT.out.2⟩
set_option maxHeartbeats 8000000 in
set_option maxRecDepth 100000 in
theorem refDecode_any {w : World} {ok : Nat → Prop} {hv dv : Value} {gen n : Int} {head : List UInt8} {data : List (List UInt8)} (hh : Sl kbyte w ok hv head) (hd : Sl (kslice kbyte) w ok dv data) (hs : sumL data ≤ 1073741824) (hn : n ≤ 16777215) :
    Calls Tryz.prog 36 #[.int .i64 gen, .int .i64 n, hv, dv] w (DecO w (decO gen n head data)) := by
  obtain ⟨Ah, ch, rfl, hch, hmh⟩ := hh.slice
  obtain ⟨Ad, cd, rfl, hcd, hmd⟩ := hd.slice
  have HH := Aside.mk hh
  have HD := Aside.mk hd
  have HS := Aside.mk hs
  have HNn := Aside.mk hn
  obtain ⟨K, hk⟩ : ∃ K : Nat, n < 0 ∧ K = 0 ∨ 0 ≤ n ∧ (K : Int) = n + 1 := by
    by_cases h : n < 0
    · exact ⟨0, .inl ⟨h, rfl⟩⟩
    · exact ⟨(n + 1).toNat, .inr ⟨by omega, by omega⟩⟩
  have HK0 := Aside.mk hk
  have HL0 : Aside (LD w (.slice none 0 0) ((allG (data.take 0)).take K) w) := ⟨by simpa [allG] using LD.nil w⟩
  clear hk
  clear hh hd hs hn
  go_enter Tryz.func36, Tryz.ntmps36
  go_wp2_with fail
  go_loopg [10, 11] data.length (fun kq v10 v11 wr => ∃ (i : Nat), Aside (i + kq = data.length) ∧ v11 = .int .i64 i ∧ Aside (LD w v10 ((allG (data.take i)).take K) wr))
  case atStart => exact ⟨0, ⟨by omega⟩, rfl, HL0⟩
  case round =>
    clear HL0
    obtain ⟨i, HI, rfl, HL⟩ := hrel
    obtain ⟨wo, hwo⟩ : ∃ wo, wo = wr := ⟨_, rfl⟩
    subst hwo
    by_cases hi : i < data.length
    · obtain ⟨b, o, q1, e, h1, s1⟩ := (HD.out.below HL.out.bel).row i hi
      cases e
      have hM : Aside (data.length - (i + 1) < gk ∧ i + 1 + (data.length - (i + 1)) = data.length) := ⟨by have := HI.out; omega⟩
      have HT := Aside.mk (allG_take hi)
      have HLe := Aside.mk (allG_le data (i + 1))
      have hbl : data[i].length ≤ 1099511627776 := by
        have h1 := sumL_take hi
        have h2 := sumL_le data (i + 1)
        have := HS.out
        omega
      obtain ⟨A3, c3, rfl, _⟩ := s1.slice
      have hcall := refNew_reader s1 hbl
      generalize data[i] = bs at *
      have hi1 : (i : Int) < (data.length : Int) := by omega
      have hi0 : (0 : Int) ≤ (i : Int) := by omega
      go_wp2_with fail
      refine hcall.mono ?_
      clear hcall s1 h1
      rintro e w2 ⟨R, bv, rfl, hR, B2⟩
      have HRl : Aside (w.heap.size ≤ R) := ⟨by have := hR.lo; have := HL.out.bel.size; omega⟩
      have HN0 : Aside (ApartR u10 bv R) := ⟨⟨fun e => by have := (HL.out.own.lt R e).2; have := hR.lo; omega, fun q e e2 => by have := (HL.out.own.lt q e2).2; have := (hR.own.lt q e).1; omega⟩⟩
      have HR0 := Aside.mk hR
      have HLs0 := Aside.mk (HL.out.below B2)
      have HF0 : Aside (((allG (data.take i)).take K ++ remG 0 0 bs).take K = (allG (data.take i) ++ frG bs).take K ∧ ((allG (data.take i)).take K).length ≤ K) := ⟨by unfold remG; rw [if_pos rfl, List.drop_zero, take_take_app]; exact ⟨rfl, by simp; omega⟩⟩
      clear hR B2 HL
      go_wp2_with fail
      go_loopg [10] (leftG 0 0 bs) (fun kq v10 wr2 => ∃ (p : Nat) (err : Int) (acc : List Int), Aside (Rr wo.heap.size wr2 R bv bs p err) ∧ Aside (LD w v10 acc wr2) ∧ Aside (kq = leftG err p bs) ∧ Aside ((acc ++ remG err p bs).take K = (allG (data.take i) ++ frG bs).take K ∧ acc.length ≤ K) ∧ Aside (ApartR v10 bv R))
      case atStart => exact ⟨0, 0, _, HR0, HLs0, ⟨rfl⟩, HF0, HN0⟩
      case round =>
        clear HR0 HLs0 HF0 HN0
        obtain ⟨p, err, acc, HR, HLs, HK, HF, HN⟩ := hrel
        have hcall := refLeft_any HR.out
        have hple := HR.out.le
        obtain ⟨A9, c9, rfl⟩ := own_len HLs.out.own
        by_cases hgo : err = 0 ∧ p < bs.length
        · obtain ⟨rfl, hlt⟩ := hgo
          rw [if_pos rfl] at hcall
          have hlt' : decide ((0 : Int) < (bs.length : Int) - (p : Int)) = true := decide_eq_true (by omega)
          by_cases hkl : acc.length < K
          rotate_left
          · have hle : decide ((acc.length : Int) ≤ n) = false := decide_eq_false (by have := HK0.out; omega)
            have HE : Aside (acc = (allG (data.take i) ++ frG bs).take K) := ⟨by
              have h := HF.out.1
              have h2 := HF.out.2
              rw [List.take_append_of_le_length (by omega), List.take_of_length_le h2] at h
              exact h⟩
            clear hkl
            go_wp2_with fail
            refine hcall.mono ?_
            clear hcall
            rintro e w5 ⟨rfl, q5, rfl⟩
            have B5 : Below wr.heap.size wr (wr.drewN q5) := bdrew (Below.refl _ _) q5
            have HL5 : Aside (LD w (.slice A9 acc.length c9) ((allG (data.take (i + 1))).take K) (wr.drewN q5)) := ⟨by
              rw [HT.out, ← HE.out]
              exact HLs.out.below B5⟩
            clear B5 HR HLs HF HE HK HN
            generalize wr.drewN q5 = w5 at *
            go_wp2_with fail
            go_roundg (data.length - (i + 1))
            case measure => exact hM.out.1
            case rel => exact ⟨i + 1, ⟨hM.out.2⟩, by go_num, HL5⟩
          have hle : decide ((acc.length : Int) ≤ n) = true := decide_eq_true (by have := HK0.out; omega)
          have HKl := Aside.mk hkl
          clear hkl
          go_wp2_with fail
          refine hcall.mono ?_
          clear hcall
          rintro e w5 ⟨rfl, q5, rfl⟩
          have B5 : Below wr.heap.size wr (wr.drewN q5) := bdrew (Below.refl _ _) q5
          have HR5 := Aside.mk (HR.out.below B5)
          have HL5 := Aside.mk (HLs.out.below B5)
          clear B5 HR HLs
          generalize wr.drewN q5 = w5 at *
          have hint := refInt_o HR5.out hlt
          go_wp2_with fail
          refine hint.mono ?_
          clear hint
          rintro e w6 ⟨xv, p', err', rfl, hr6, hrem, hlft, hz6, hf6, ho6, ht6, hu6⟩
          have HL6 := Aside.mk (HL5.out.far HRl.out HN.out.1 hz6 hf6 ho6 ht6 hu6)
          have HR6 := Aside.mk hr6
          have HP6 := Aside.mk (And.intro hrem hlft)
          have HZ6 : Aside (R < w6.heap.size ∧ ∀ q, bv.ownBlock = some q → q < w6.heap.size) := ⟨⟨blk_lt hr6.box, fun q e => (hr6.own.lt q e).2⟩⟩
          have HLen : Aside (acc.length ≤ 1073741824) := ⟨by
            have h1 := congrArg List.length HF.out.1
            have h2 := HLe.out
            have h3 := HS.out
            have h4 := HF.out.2
            rw [HT.out] at h2
            simp only [List.length_append, List.length_take] at h1 h2
            omega⟩
          have HB6 : Aside (w.heap.size ≤ w6.heap.size) := ⟨HL6.out.bel.size⟩
          clear hr6 hrem hlft hz6 hf6 ho6 ht6 hu6 HL5 HR5
          go_wp2_with (at_builtin; go_must (refine app_one w.heap.size rfl _ _ 22 3 (.int .i64 0) 1 8 rfl Tryz.underlying22 Tryz.infoInt rfl (by decide) (by decide) (.slice A9 acc.length c9) acc.length _ [.int .i64 xv] rfl rfl rfl (by simp [Value.oneCell']) HL6.out.own HB6.out (by have := HLen.out; omega) ?_; intro v1 w9 hown hg9 hat; have HL9 := Aside.mk (HL6.out.snoc xv hown hg9); have HR9 := Aside.mk (HR6.out.grown hg9 HN.out.1 HN.out.2); have HN9 := Aside.mk (HN.out.new HZ6.out.1 HZ6.out.2 hat); clear hown hg9 hat))
          go_roundg (leftG err' p' bs)
          case measure => rw [HK.out]; exact HP6.out.2
          case rel => exact ⟨p', err', acc ++ [xv], HR9, HL9, ⟨rfl⟩, ⟨⟨by rw [← HF.out.1, HP6.out.1]; simp, by rw [List.length_append]; have := HKl.out; simp; omega⟩⟩, HN9⟩
        · have hval : (if err = 0 then (bs.length : Int) - (p : Int) else 0) = 0 := by split <;> omega
          rw [hval] at hcall
          have HE := Aside.mk (remG_end hgo)
          clear hgo
          go_wp2_with fail
          refine hcall.mono ?_
          clear hcall
          rintro e w5 ⟨rfl, q5, rfl⟩
          have B5 : Below wr.heap.size wr (wr.drewN q5) := bdrew (Below.refl _ _) q5
          have HL5 : Aside (LD w (.slice A9 acc.length c9) ((allG (data.take (i + 1))).take K) (wr.drewN q5)) := ⟨by
            have h := HF.out.1
            rw [HE.out, List.append_nil, List.take_of_length_le HF.out.2] at h
            rw [HT.out, ← h]
            exact HLs.out.below B5⟩
          clear B5 HR HLs HF HE HK HN
          generalize wr.drewN q5 = w5 at *
          go_wp2_with fail
          go_roundg (data.length - (i + 1))
          case measure => exact hM.out.1
          case rel => exact ⟨i + 1, ⟨hM.out.2⟩, by go_num, HL5⟩
    · have hie : data.take i = data := List.take_of_length_le (by omega)
      rw [hie] at HL
      replace hi : data.length ≤ i := by omega
      have HLl : Aside (((allG data).take K).length ≤ 16777216) := ⟨by rw [List.length_take]; have := HK0.out; have := HNn.out; omega⟩
      obtain ⟨L, hL⟩ : ∃ L, L = (allG data).take K := ⟨_, rfl⟩
      rw [← hL] at HL HLl
      have HDe : Aside (decO gen n head data = if ordB gen L = true ∧ (L.length : Int) = n ∧ headO gen L = head ∧ dataD L = data then some L else none) := ⟨decO_take HK0.out hL⟩
      obtain ⟨A9, c9, rfl⟩ := own_len HL.out.own
      have hcall := refEncode_any (gen := gen) (own_ints HL.out.own).sl HLl.out
      clear hie hL
      go_wp2_with fail
      refine hcall.mono ?_
      clear hcall
      intro e w6 hp
      obtain ⟨he1, he2, hB⟩ := hp
      have HL6 := Aside.mk (HL.out.below hB)
      have HB6 := Aside.mk (bthen HL.out.bel HL.out.bel.size hB)
      have HBw := Aside.mk HL.out.bel.size
      clear hB HL
      cases hob : ordB gen L with
      | false =>
        obtain rfl := he2 hob
        have HP := Aside.mk (decO_no (r := decO gen n head data) (by rw [HDe.out, if_neg (by rw [hob]; simp)]) HB6.out)
        clear he1 he2 hob HDe
        go_wp2_with fail
        exact bodyPost_ret (by simp [results, Tryz.results36, go_sem]) rfl HP.out
      | true =>
        obtain ⟨hv2, dv2, vs2, rfl, ho2, hb2⟩ := he1 hob
        have HHd := Aside.mk (own_u8s ho2).sl
        have HDd := Aside.mk hb2.sl
        clear he1 he2 ho2 hb2
        by_cases hn : (L.length : Int) = n
        · have hne : ((L.length : Int) != n) = false := by simp [hn]
          have hbe := SameBytes_any HHd.out (HH.out.below HB6.out)
          have hef := SameByteLists_any HDd.out (HD.out.below HB6.out)
          have HDe2 : Aside (decO gen n head data = if headO gen L = head ∧ dataD L = data then some L else none) := ⟨by rw [HDe.out, hob]; simp only [hn, true_and]⟩
          clear hob HDe
          obtain ⟨hbb, hhb⟩ : ∃ hbb, hbb = eqB (headO gen L) head := ⟨_, rfl⟩
          have HHb := Aside.mk hhb
          rw [← hhb] at hbe
          clear hhb
          go_wp2_with fail
          refine hbe.mono ?_
          clear hbe
          rintro e w7 ⟨rfl, hw7⟩
          subst hw7
          cases hbb with
          | false =>
            have HP := Aside.mk (decO_no (r := decO gen n head data) (by rw [HDe2.out, if_neg (fun h => by have := HHb.out; rw [eqB_yes h.1] at this; cases this)]) HB6.out)
            clear hef
            go_wp2_with fail
            exact bodyPost_ret (by simp [results, Tryz.results36, go_sem]) rfl HP.out
          | true =>
            have HHe : Aside (headO gen L = head) := ⟨eqB_iff.1 HHb.out.symm⟩
            obtain ⟨dbb, hdb⟩ : ∃ dbb, dbb = eqB (dataD L) data := ⟨_, rfl⟩
            have HDb := Aside.mk hdb
            rw [← hdb] at hef
            clear hdb
            go_wp2_with fail
            refine hef.mono ?_
            clear hef
            rintro e w8 ⟨rfl, ⟨⟨q8, rfl⟩⟩⟩
            have B8 : Below w7.heap.size w7 (w7.drewN q8) := bdrew (Below.refl _ _) q8
            have HB8 := Aside.mk (bthen HB6.out HB6.out.size B8)
            have HL8 := Aside.mk (HL6.out.below B8)
            clear B8 HL6 HB6
            generalize w7.drewN q8 = w9 at *
            cases dbb with
            | false =>
              have HP := Aside.mk (decO_no (r := decO gen n head data) (by rw [HDe2.out, if_neg (fun h => by have := HDb.out; rw [eqB_yes h.2] at this; cases this)]) HB8.out)
              go_wp2_with fail
              exact bodyPost_ret (by simp [results, Tryz.results36, go_sem]) rfl HP.out
            | true =>
              have HP := Aside.mk (decO_yes (r := decO gen n head data) (by rw [HDe2.out, if_pos ⟨HHe.out, eqB_iff.1 HDb.out.symm⟩]) HL8.out.own HB8.out)
              go_wp2_with fail
              exact bodyPost_ret (by simp [results, Tryz.results36, go_sem]) rfl HP.out
        · have hne : ((L.length : Int) != n) = true := by simp [hn]
          have HP := Aside.mk (decO_no (r := decO gen n head data) (by rw [HDe.out, if_neg (fun h => hn h.2.1)]) HB6.out)
          clear hob HDe hn
          go_wp2_with fail
          exact bodyPost_ret (by simp [results, Tryz.results36, go_sem]) rfl HP.out
end Go.Proofs.YtjncnppbaldmiaaGreatDoor
