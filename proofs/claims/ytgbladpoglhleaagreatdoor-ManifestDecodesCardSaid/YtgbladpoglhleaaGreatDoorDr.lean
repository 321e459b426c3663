/- The document's Decode walked. No condition. -/
import Derived.Test.YtgbladpoglhleaaGreatDoorDc
import Derived.Test.YtgbladpoglhleaaGreatDoorDj
import Derived.Test.YtgbladpoglhleaaGreatDoorDq
import Derived.Test.YtgbladpoglhleaaGreatDoorRr
import Derived.Test.YtgbladpoglhleaaGreatDoorEs
namespace Go.Proofs.YtgbladpoglhleaaGreatDoor
open Go.RowKit
set_option maxHeartbeats 4000000 in
set_option maxRecDepth 100000 in
theorem read_any {w : World} {ok : Nat → Prop} {v : Value} {bs : List UInt8} {z x : Int} (i : Nat) (hs : Sl kbyte w ok v bs) (hz : z = (i : Int)) (hl : i + 4 ≤ bs.length) (hx : numAt bs i = x) : Calls Tryz.prog 86 #[v, .int .i64 z] w fun e w' => e = .returned (.int .i64 x) ∧ Below w.heap.size w w' := by
  subst hz
  obtain ⟨A, c, rfl, hc, hm⟩ := hs.slice
  obtain ⟨b, o, e, k0⟩ := hs.byte i (by omega)
  obtain ⟨b1, o1, e1, k1⟩ := hs.byte (i + 1) (by omega)
  obtain ⟨b2, o2, e2, k2⟩ := hs.byte (i + 2) (by omega)
  obtain ⟨b3, o3, e3, k3⟩ := hs.byte (i + 3) (by omega)
  cases e
  cases e1
  cases e2
  cases e3
  have HN : Aside (x = (bs[i].toNat : Int) * 16777216 + (bs[i + 1].toNat : Int) * 65536 + (bs[i + 2].toNat : Int) * 256 + bs[i + 3].toNat) := ⟨by rw [← hx]; simp [numAt, List.getD_eq_getElem?_getD, show i < bs.length by omega, show i + 1 < bs.length by omega, show i + 2 < bs.length by omega, show i + 3 < bs.length by omega]⟩
  have b0 := bs[i].toNat_lt
  have b1 := bs[i + 1].toNat_lt
  have b2 := bs[i + 2].toNat_lt
  have b3 := bs[i + 3].toNat_lt
  have g0 : (i : Int) < (bs.length : Int) := by omega
  have g1 : (i : Int) + 1 < (bs.length : Int) := by omega
  have g2 : (i : Int) + 2 < (bs.length : Int) := by omega
  have g3 : (i : Int) + 3 < (bs.length : Int) := by omega
  generalize bs[i].toNat = x0 at *
  generalize bs[i + 1].toNat = x1 at *
  generalize bs[i + 2].toNat = x2 at *
  generalize bs[i + 3].toNat = x3 at *
  clear hx hs hl
  go_enter Tryz.func86, Tryz.ntmps86
  go_wp2_with fail
  go_quiet (fail)
  go_wp2
  go_ret
  exact ⟨by rw [HN.out]; rfl, bdrew (Below.refl _ _) _⟩
set_option maxHeartbeats 4000000 in
set_option maxRecDepth 100000 in
theorem refInt_deg {w : World} {lo R p : Nat} {bv : Value} {bs : List UInt8} (h : Rr lo w R bv bs p 0) (hlt : p < bs.length) :
    Calls Tryz.prog 89 #[.pointer (some ⟨R, 0, none⟩)] w fun e w' => ∃ (xv : Int) (p' : Nat) (err' : Int), e = .returned (.int .i64 xv) ∧ Rr lo w' R bv bs p' err' ∧ p ≤ p' ∧
      ((err' = 0 ∧ p < p' ∧ degFrame (bs.drop p) = (degFrame (bs.drop p')).map (xv :: ·)) ∨ (err' ≠ 0 ∧ degFrame (bs.drop p) = none)) ∧ w'.heap.size = w.heap.size ∧ (∀ q, q ≠ R → w'.heap[q]? = w.heap[q]?) ∧ w'.os = w.os ∧ w'.tape = w.tape ∧ w'.output = w.output := by
  obtain ⟨k0, k1, k2⟩ := three h.box
  have hcall := refNumber_any h
  have HR := Aside.mk h
  have hbf1 := (store_at HR.out.box 1 (show 1 < 3 by decide)).2.1
  have hbf2 := (store_at HR.out.box 2 (show 2 < 3 by decide)).2.1
  clear h
  go_enter Tryz.func89, Tryz.ntmps89
  go_wp2_with fail
  refine hcall.mono ?_
  clear hcall
  rintro e w2 ⟨rfl, hy, hn⟩
  cases hv : vread (bs.drop p) with
  | none =>
    obtain ⟨c, hc, rfl⟩ := hn hv
    have HT := Aside.mk (HR.out.turn p c HR.out.le)
    have HD : Aside (degFrame (bs.drop p) = none) := ⟨degFrame_no (fun e => by have := congrArg List.length e; simp at this; omega) hv⟩
    clear hy hn hv
    go_wp2_with fail
    go_ret
    exact ⟨0, p, c, rfl, HT.out.1, Nat.le_refl _, .inr ⟨hc, HD.out⟩, HT.out.2⟩
  | some xn =>
    obtain ⟨x, n⟩ := xn
    have e1 := hy _ _ hv
    subst e1
    have hn2 := vread_le hv
    rw [List.length_drop] at hn2
    have HT := Aside.mk (HR.out.turn (p + n) 0 (by omega))
    have HD : Aside (degFrame (bs.drop p) = (degFrame (bs.drop (p + n))).map ((x : Int) :: ·)) := ⟨by rw [degFrame_step hv, List.drop_drop]⟩
    clear hy hn hv
    go_wp2_with fail
    go_ret
    exact ⟨x, p + n, 0, rfl, HT.out.1, by omega, .inl ⟨rfl, by omega, HD.out⟩, HT.out.2⟩
theorem own_sl {w : World} {B s n : Nat} {e : TypeId} {v : Value} {xs : List Value} (h : w.ownsRow B e s v n xs) : ∃ A c, v = .slice A n c := by
  rcases h.2 with ⟨rfl, h0⟩ | ⟨g, cap, cur, rfl, _⟩
  · subst h0; exact ⟨_, _, rfl⟩
  · exact ⟨_, _, rfl⟩
theorem MR.om {lo lo' : Nat} {w0 W W' : World} {M R : Nat} {gen n : Int} {cv sv dv a b c d e : Value} {cs : List Int} {ss : List Info} {ds : List Int} (h : MR lo w0 W M gen n cv sv dv cs ss ds) (hl : lo' ≤ lo) (hR : R < lo) (hW : W' = st5 W R a b c d e) :
    OM lo' W' (.agg #[.int .i64 gen, .int .i64 n, cv, sv, dv]) ⟨gen, n, cs, ss, ds⟩ := by
  subst hW
  exact ⟨cv, sv, dv, rfl, own_low (ownsRow_move h.oc fun q e => st5_heap (by have := (h.oc.lt q e).1; omega)) hl, own_low (ownsRow_move h.os fun q e => st5_heap (by have := (h.os.lt q e).1; omega)) hl, own_low (ownsRow_move h.od fun q e => st5_heap (by have := (h.od.lt q e).1; omega)) hl, h.ncs, h.ncd, h.nsd⟩
/-- The document's Decode. -/
def BoxAt (W : World) (R : Nat) : Prop := W.heap[R]? = some (.cells #[.int .i64 0, .int .i64 0, .slice none 0 0, .slice none 0 0, .slice none 0 0] 33 (0, 0))
set_option maxHeartbeats 8000000 in
set_option maxRecDepth 100000 in
theorem refDecode_any {w : World} {ok : Nat → Prop} {hv dv : Value} {head : List UInt8} {data : List (List UInt8)} (hh : Sl kbyte w ok hv head) (hd : Sl (kslice kbyte) w ok dv data) (hs : sumL data ≤ 16777216) :
    Calls Tryz.prog 58 #[hv, dv] w (DecPost w head data) := by
  obtain ⟨Ah, ch, rfl, hch, hmh⟩ := hh.slice
  obtain ⟨Ad, cd, rfl, hcd, hmd⟩ := hd.slice
  have HH : Aside (∀ W, Below w.heap.size w W → Sl kbyte W (fun k => ok k ∧ k < w.heap.size) (.slice Ah head.length ch) head) := ⟨fun W hW => hh.bound.move fun k hk => hW.block k hk.2⟩
  have HD : Aside (∀ W, Below w.heap.size w W → Sl (kslice kbyte) W (fun k => ok k ∧ k < w.heap.size) (.slice Ad data.length cd) data) := ⟨fun W hW => hd.bound.move fun k hk => hW.block k hk.2⟩
  have HS := Aside.mk hs
  have HBa := Aside.mk ((Below.refl w.heap.size w).alloc (Nat.le_refl _) (.cells #[.int .i64 0, .int .i64 0, .slice none 0 0, .slice none 0 0, .slice none 0 0] 33))
  have HRa : Aside (BoxAt (w.alloc (.cells #[.int .i64 0, .int .i64 0, .slice none 0 0, .slice none 0 0, .slice none 0 0] 33)) w.heap.size) := ⟨heap_alloc_new w _⟩
  clear hh hd hs
  by_cases h12 : head.length = 12
  · have hl1 : ((head.length : Int) != 12) = false := by simp [h12]
    have HL12 := Aside.mk h12
    obtain ⟨x0, hx0⟩ : ∃ x0, x0 = numAt head 0 := ⟨_, rfl⟩
    obtain ⟨x1, hx1⟩ : ∃ x1, x1 = numAt head 4 := ⟨_, rfl⟩
    obtain ⟨x2, hx2⟩ : ∃ x2, x2 = numAt head 8 := ⟨_, rfl⟩
    have HX0 := Aside.mk hx0
    have HX1 := Aside.mk hx1
    have HX2 := Aside.mk hx2
    clear h12 hx0 hx1 hx2
    go_enter Tryz.func58, Tryz.ntmps58
    go_wp2_with fail
    refine (read_any (z := 0) (x := x0) 0 (HH.out _ HBa.out) rfl (by have := HL12.out; omega) HX0.out.symm).mono ?_
    rintro e w1 ⟨rfl, B1⟩
    have HB1 := Aside.mk (bthen HBa.out HBa.out.size B1)
    have HR1 : Aside (BoxAt w1 w.heap.size) := ⟨bblk B1 HRa.out⟩
    clear B1 HBa HRa
    go_wp2_with fail
    refine (read_any (z := 4) (x := x1) 4 (HH.out _ HB1.out) rfl (by have := HL12.out; omega) HX1.out.symm).mono ?_
    rintro e w2 ⟨rfl, B2⟩
    have HB2 := Aside.mk (bthen HB1.out HB1.out.size B2)
    have HR2 : Aside (BoxAt w2 w.heap.size) := ⟨bblk B2 HR1.out⟩
    clear B2 HB1 HR1
    have HM3 : Aside (MR w2.heap.size w2 (w2.alloc (.cells #[.int .i64 x0, .int .i64 x1, .slice none 0 0, .slice none 0 0, .slice none 0 0] 33)) w2.heap.size x0 x1 (.slice none 0 0) (.slice none 0 0) (.slice none 0 0) [] [] []) := ⟨
      ⟨(Below.refl _ _).alloc (Nat.le_refl _) _, by simp, Nat.le_refl _, heap_alloc_new _ _, World.ownsRow_nil _ _ _ _, World.ownsRow_nil _ _ _ _, World.ownsRow_nil _ _ _ _, by simp [Value.ownBlock], by simp [Value.ownBlock], by simp [Value.ownBlock], by simp [Value.ownBlock], by simp [Value.ownBlock], by simp [Value.ownBlock]⟩⟩
    have HRlt : Aside (w.heap.size < w2.heap.size) := ⟨blk_lt HR2.out⟩
    go_wp2_with fail
    refine (read_any (z := 8) (x := x2) 8 (HH.out _ (HB2.out.alloc HB2.out.size _)) rfl (by have := HL12.out; omega) HX2.out.symm).mono ?_
    rintro e w4 ⟨rfl, B4⟩
    have HM4 := Aside.mk (HM3.out.below B4)
    clear B4 HM3
    -- what the box lies over
    obtain ⟨lo, hlo⟩ : ∃ lo, lo = w2.heap.size := ⟨_, rfl⟩
    obtain ⟨M, hM⟩ : ∃ M, M = w2.heap.size := ⟨_, rfl⟩
    obtain ⟨wb, hwb⟩ : ∃ wb, wb = w2 := ⟨_, rfl⟩
    have HMi : Aside (MR lo wb w4 M x0 x1 (.slice none 0 0) (.slice none 0 0) (.slice none 0 0) [] [] []) := ⟨by rw [hlo, hM, hwb]; exact HM4.out⟩
    have HLo : Aside (∀ W, Below lo wb W → Below w.heap.size w W ∧ BoxAt W w.heap.size) := ⟨fun W hW => by
      rw [hlo, hwb] at hW
      exact ⟨bthen HB2.out HB2.out.size hW, (hW.block _ HRlt.out).trans HR2.out⟩⟩
    have HOk : Aside (∀ q, (fun k => ok k ∧ k < w.heap.size) q → q < lo) := ⟨fun q hq => by have := HRlt.out; have := hq.2; omega⟩
    have HRl : Aside (w.heap.size < lo) := ⟨by have := HRlt.out; omega⟩
    rw [← hM]
    clear HM4 hlo hM hwb HB2 HR2 HRlt
    have hsl0 := HD.out w4 (HLo.out w4 HMi.out.bel).1
    go_wp2_with fail
    go_loopg [8] data.length (fun kq v8 wr => ∃ (i : Nat) (cv sv dv : Value) (cs : List Int) (ss : List Info) (ds : List Int), Aside (i + kq = data.length) ∧ v8 = .int .i64 i ∧ Aside (MR lo wb wr M x0 x1 cv sv dv cs ss ds) ∧ Aside (RefIn head data i cs ss ds) ∧ Aside (cs.length ≤ sumL (data.take i) ∧ ss.length = cs.length ∧ ds.length ≤ sumL (data.take i)))
    case atStart => exact ⟨0, _, _, _, [], [], [], ⟨by omega⟩, rfl, HMi, ⟨refin_zero _ _⟩, ⟨by simp⟩⟩
    case round =>
      clear HMi hsl0
      obtain ⟨i, cv, sv, dv, cs, ss, ds, HI, rfl, HMI, HRf, HLs⟩ := hrel
      obtain ⟨wo, rfl⟩ : ∃ wo, wo = wr := ⟨_, rfl⟩
      by_cases hi : i < data.length
      · obtain ⟨bd, od, e, hbd⟩ : ∃ bd od, Ad = some ⟨bd, od, none⟩ ∧ bd < w.heap.size := by
          obtain ⟨A', c', e, _, _, h3⟩ := HD.out wo (HLo.out wo HMI.out.bel).1
          cases e
          obtain ⟨b, o, e, h4, _⟩ := h3 (by omega)
          exact ⟨b, o, e, h4.2⟩
        subst e
        have HBd : Aside (bd < lo) := ⟨by have := HRl.out; omega⟩
        obtain ⟨bd', od', q1, e, hcb, s1⟩ := (HD.out wo (HLo.out wo HMI.out.bel).1).row i hi
        cases e
        have hM : Aside (data.length - (i + 1) < gk ∧ i + 1 + (data.length - (i + 1)) = data.length) := ⟨by have := HI.out; omega⟩
        have hst := sumL_take hi
        have hsl := sumL_le data (i + 1)
        have HSt := Aside.mk (And.intro hst hsl)
        have hRS := fun h => refin_S hi HRf.out h
        have hRD := fun acc h => refin_D (acc := acc) hi HRf.out h
        have hbl : data[i].length ≤ 1099511627776 := by have := HS.out; omega
        obtain ⟨A5, c5, rfl, hc5, hm5⟩ := s1.slice
        have hcallN := fun W (h : Sl kbyte W (fun k => ok k ∧ k < w.heap.size) (.slice A5 data[i].length c5) data[i]) => refNew_reader h hbl
        have HcN := Aside.mk hcallN
        have HSb0 := Aside.mk s1
        have HRS := Aside.mk hRS
        have HRD := Aside.mk hRD
        have HBl : Aside (data[i].length ≤ 16777216 ∧ sumL (data.take i) + data[i].length ≤ 16777216) := ⟨by have := HS.out; omega⟩
        clear hst hsl hRS hRD hcallN s1 hbl
        generalize data[i] = b at *
        have hi1 : (i : Int) < (data.length : Int) := by omega
        have hi0 : (0 : Int) ≤ (i : Int) := by omega
        obtain ⟨A9, n9, c9, hcv⟩ := own_slice HMI.out.oc
        subst hcv
        have hn9 : n9 = cs.length := by
          rcases HMI.out.oc.2 with ⟨e, h⟩ | ⟨g, cap, cur, e, _⟩
          · cases e; omega
          · cases e; rfl
        subst hn9
        obtain ⟨_, _, k2, _, _⟩ := five HMI.out.box
        by_cases hlt : (cs.length : Int) < x2
        · have HR1 := Aside.mk (HRS.out (by rw [← HX2.out]; exact hlt))
          clear HRS HRD HcN HRf
          have HMj : Aside (MR lo wb wo M x0 x1 (.slice A9 cs.length c9) sv dv (cs ++ cutsOf b 0) (ss ++ infosOf b 0) ds) := ⟨by simpa [cutsOf, infosOf] using HMI.out⟩
          have Hbel2 : Aside (Below w.heap.size w wo) := ⟨(HLo.out wo HMI.out.bel).1⟩
          have Hcb0 := Aside.mk hcb
          have HBo := Aside.mk HMI.out.bel
          go_wp2_with fail
          clear HMI k2 hcb
          go_loopg [9] (b.length / 16) (fun kq v9 wr => ∃ (j q : Nat) (cv sv : Value), Aside (j + kq = b.length / 16) ∧ v9 = .int .i64 q ∧ Aside (q = 16 * j) ∧ Aside (MR lo wb wr M x0 x1 cv sv dv (cs ++ cutsOf b j) (ss ++ infosOf b j) ds))
          case atStart => exact ⟨0, 0, _, sv, ⟨by omega⟩, rfl, ⟨rfl⟩, HMj⟩
          case round =>
            clear HMj
            obtain ⟨j, q, cv, sv, HJ, rfl, HQ, HMI⟩ := hrel
            obtain ⟨w2, rfl⟩ : ∃ w2, w2 = wr := ⟨_, rfl⟩
            have hcb : w2.cell? ⟨bd, od + i, none⟩ = some (.slice A5 b.length c5) := ((HLo.out w2 HMI.out.bel).1.cell (p := ⟨bd, od + i, none⟩) hbd).trans ((Hbel2.out.cell (p := ⟨bd, od + i, none⟩) hbd).symm.trans Hcb0.out)
            by_cases hj : q + 16 ≤ b.length
            · have HSb : Aside (Sl kbyte w2 (fun k => ok k ∧ k < w.heap.size) (.slice A5 b.length c5) b) := ⟨sl_far HOk.out HBo.out HMI.out.bel HSb0.out⟩
              have HBel := Hbel2
              clear Hbel2
              have Hbel2 := Aside.mk HMI.out.bel
              obtain ⟨y0, hy0⟩ : ∃ y0, y0 = numAt b q := ⟨_, rfl⟩
              obtain ⟨y1, hy1⟩ : ∃ y1, y1 = numAt b (q + 4) := ⟨_, rfl⟩
              obtain ⟨y2, hy2⟩ : ∃ y2, y2 = numAt b (q + 8) := ⟨_, rfl⟩
              obtain ⟨y3, hy3⟩ : ∃ y3, y3 = numAt b (q + 12) := ⟨_, rfl⟩
              have hy2r : 0 ≤ y2 ∧ y2 ≤ 4294967295 := by rw [hy2]; exact numAt_in _ _
              have HY0 := Aside.mk hy0
              have HY1 := Aside.mk hy1
              have HY2 := Aside.mk hy2
              have HY3 := Aside.mk hy3
              have HXR := Aside.mk hy2r
              have HC0 : Aside (numAt b (16 * j) = y0) := ⟨by rw [← HQ.out, hy0]⟩
              have HINF : Aside (infoAt b j = ⟨y1, UInt32.ofNat y2.toNat, y3⟩) := ⟨by unfold infoAt; rw [← HQ.out, ← hy1, ← hy2, ← hy3]⟩
              have HSUM : Aside (((UInt32.ofNat y2.toNat).toNat : Int) = y2) := ⟨by simp only [UInt32.toNat_ofNat']; omega⟩
              clear hy0 hy1 hy2 hy3 hy2r
              obtain ⟨A9, n9, c9, hcv⟩ := own_slice HMI.out.oc
              subst hcv
              obtain ⟨A8, n8, c8, hsv⟩ := own_slice HMI.out.os
              subst hsv
              have hJ2 := HJ.out
              have hJ3 := HQ.out
              have HLc : Aside ((cs ++ cutsOf b j).length ≤ 100000000 ∧ (ss ++ infosOf b j).length ≤ 100000000) := ⟨by
                have h1 := HLs.out
                have h2 := HBl.out
                simp only [List.length_append, cutsOf_length, infosOf_length]
                omega⟩
              have hM2 : Aside (b.length / 16 - (j + 1) < gk ∧ j + 1 + (b.length / 16 - (j + 1)) = b.length / 16) := ⟨by omega⟩
              have hj1 : (q : Int) + 16 ≤ (b.length : Int) := by omega
              have hq4 : (q : Int) + 4 ≤ 9223372036854775807 := by have := HBl.out; omega
              have hq8 : (q : Int) + 8 ≤ 9223372036854775807 := by have := HBl.out; omega
              have hq12 : (q : Int) + 12 ≤ 9223372036854775807 := by have := HBl.out; omega
              clear hJ2 hJ3
              obtain ⟨ii, hii, hiz, his, hib⟩ := info_parts Tryz.infoInt
              obtain ⟨fi, hfi, hfz, hfs, hfb⟩ := info_parts Tryz.infoInfo
              have k2d : w2.drew.cell? ⟨M, 2, none⟩ = some (.slice A9 n9 c9) ∧ w2.drew.cell? ⟨bd, od + i, none⟩ = some (.slice A5 b.length c5) := ⟨by obtain ⟨_, _, k, _, _⟩ := five HMI.out.box; exact k, hcb⟩
              have HMd := Aside.mk (HMI.out.below (bdrew1 (Below.refl _ _)))
              go_wp2_with fail
              go_upto_region 12 with (fail)
              refine wp_region_X 11 (fun w' => w'.cell? ⟨M, 2, none⟩ = some (.slice A9 n9 c9) ∧ w'.cell? ⟨bd, od + i, none⟩ = some (.slice A5 b.length c5)) (by kernel_rfl) ?_
              refine wpAnyX_take (i := 0) (oi := ⟨some 46, .fieldAddr 33 (.tmp 6) 2, _, _, _, _⟩) (v := .pointer (some ⟨M, 2, none⟩)) rfl (by kernel_rfl) (by kernel_rfl) (by kernel_rfl) (by kernel_rfl) (fun _ _ _ h => h) (Or.inl ⟨by rfl, ?_⟩) k2d ?_
              · intro w' hSw
                first | (go_simp; done) | (go_simp; rfl) | (go_simp; exact Go.IntWalk.i64_in _ (by omega)) | (go_simp; simp only [*])
              simp only [Act.put, List.setIfInBounds_toArray, List.set_cons_zero, List.set_cons_succ]
              refine wpAnyX_take (i := 1) (oi := ⟨some 47, .load 30 (.tmp 46), _, _, _, _⟩) (v := .slice A9 n9 c9) rfl (by kernel_rfl) (by kernel_rfl) (by kernel_rfl) (by kernel_rfl) (fun _ _ _ h => h) (Or.inl ⟨by rfl, ?_⟩) k2d ?_
              · intro w' hSw
                first | (go_simp; done) | (go_simp; rfl) | (go_simp; exact Go.IntWalk.i64_in _ (by omega)) | (go_simp; simp only [*])
              simp only [Act.put, List.setIfInBounds_toArray, List.set_cons_zero, List.set_cons_succ]
              refine wpAnyX_take (i := 2) (oi := ⟨some 48, .move (.tmp 1), _, _, _, _⟩) (v := .slice (some ⟨bd, od, none⟩) data.length cd) rfl (by kernel_rfl) (by kernel_rfl) (by kernel_rfl) (by kernel_rfl) (fun _ _ _ h => h) (Or.inl ⟨by rfl, ?_⟩) k2d ?_
              · intro w' hSw
                first | (go_simp; done) | (go_simp; rfl) | (go_simp; exact Go.IntWalk.i64_in _ (by omega)) | (go_simp; simp only [*])
              simp only [Act.put, List.setIfInBounds_toArray, List.set_cons_zero, List.set_cons_succ]
              refine wpAnyX_take (i := 3) (oi := ⟨some 49, .move (.tmp 8), _, _, _, _⟩) (v := .int .i64 i) rfl (by kernel_rfl) (by kernel_rfl) (by kernel_rfl) (by kernel_rfl) (fun _ _ _ h => h) (Or.inl ⟨by rfl, ?_⟩) k2d ?_
              · intro w' hSw
                first | (go_simp; done) | (go_simp; rfl) | (go_simp; exact Go.IntWalk.i64_in _ (by omega)) | (go_simp; simp only [*])
              simp only [Act.put, List.setIfInBounds_toArray, List.set_cons_zero, List.set_cons_succ]
              refine wpAnyX_take (i := 4) (oi := ⟨some 50, .indexAddr 45 (.tmp 48) (.tmp 49), _, _, _, _⟩) (v := .pointer (some ⟨bd, (od + i), none⟩)) rfl (by kernel_rfl) (by kernel_rfl) (by kernel_rfl) (by kernel_rfl) (fun _ _ _ h => h) (Or.inl ⟨by rfl, ?_⟩) k2d ?_
              · intro w' hSw
                first | (go_simp; done) | (go_simp; rfl) | (go_simp; exact Go.IntWalk.i64_in _ (by omega)) | (go_simp; simp only [*])
              simp only [Act.put, List.setIfInBounds_toArray, List.set_cons_zero, List.set_cons_succ]
              refine wpAnyX_take (i := 5) (oi := ⟨some 51, .load 44 (.tmp 50), _, _, _, _⟩) (v := .slice A5 b.length c5) rfl (by kernel_rfl) (by kernel_rfl) (by kernel_rfl) (by kernel_rfl) (fun _ _ _ h => h) (Or.inl ⟨by rfl, ?_⟩) k2d ?_
              · intro w' hSw
                first | (go_simp; done) | (go_simp; rfl) | (go_simp; exact Go.IntWalk.i64_in _ (by omega)) | (go_simp; simp only [*])
              simp only [Act.put, List.setIfInBounds_toArray, List.set_cons_zero, List.set_cons_succ]
              refine wpAnyX_take (i := 6) (oi := ⟨some 52, .move (.tmp 9), _, _, _, _⟩) (v := .int .i64 (q : Int)) rfl (by kernel_rfl) (by kernel_rfl) (by kernel_rfl) (by kernel_rfl) (fun _ _ _ h => h) (Or.inl ⟨by rfl, ?_⟩) k2d ?_
              · intro w' hSw
                first | (go_simp; done) | (go_simp; rfl) | (go_simp; exact Go.IntWalk.i64_in _ (by omega)) | (go_simp; simp only [*])
              simp only [Act.put, List.setIfInBounds_toArray, List.set_cons_zero, List.set_cons_succ]
              refine wpAnyX_one (i := 7) (oi := ⟨some 53, .call { callee := .value (.func 86), args := #[.tmp 51, .tmp 52], argTypes := #[44, 3] }, _, _, _, _⟩) rfl (by kernel_rfl) (fun K hK => ?_)
              go_simp
              refine (read_any q (x := y0) (sl_far HOk.out Hbel2.out (bdrew1 Hbel2.out) HSb.out) rfl (by omega) HY0.out.symm).mono ?_
              rintro e w6 ⟨rfl, B6⟩
              have HM6 := Aside.mk (HMd.out.below B6)
              have k26 := And.intro (bcell B6 k2d.1) (bcell B6 k2d.2)
              clear B6
              refine hK _ _ ⟨.inr k26, ?_⟩
              clear hK K
              try simp only [Act.put, List.setIfInBounds_toArray, List.set_cons_zero, List.set_cons_succ]
              refine wpAnyX_one (i := 8) (oi := ⟨some 54, .buildSlice 30 1 #[(0, .tmp 53)], _, _, _, _⟩) rfl (by kernel_rfl) (fun K hK => ?_)
              go_simp
              have HM7 := Aside.mk (HM6.out.below ((Below.refl w6.heap.size w6).alloc (Nat.le_refl _) (.cells #[.int .i64 y0] 3)))
              have HX7 := Aside.mk (heap_alloc_new w6 (.cells #[.int .i64 y0] 3))
              have k27 := And.intro (bcell ((Below.refl w6.heap.size w6).alloc (Nat.le_refl _) (.cells #[.int .i64 y0] 3)) k26.1) (bcell ((Below.refl w6.heap.size w6).alloc (Nat.le_refl _) (.cells #[.int .i64 y0] 3)) k26.2)
              refine hK _ _ ⟨.inr k27, ?_⟩
              clear hK K
              try simp only [Act.put, List.setIfInBounds_toArray, List.set_cons_zero, List.set_cons_succ]
              refine wpAnyX_one (i := 9) (oi := ⟨some 55, .call { callee := .builtin .append, args := #[.tmp 47, .tmp 54], argTypes := #[30, 30] }, _, _, _, _⟩) rfl (by kernel_rfl) (fun K hK => ?_)
              refine step_append_lies (P := Tryz.prog) (w := w6.alloc (.cells #[.int .i64 y0] 3)) (by rfl) _ _ _ (by rfl) lo 3 ii _ 1 8 Tryz.underlying30 hii hiz his hib rfl (by decide) (.slice A9 n9 c9) (cs ++ cutsOf b j).length (ints (cs ++ cutsOf b j)) (by rfl) HM7.out.oc ⟨_, 0, none⟩ 1 1 [.int .i64 y0] (by rfl) (by rfl) (World.news_of_block HX7.out) (by simp [Value.oneCell']) (by decide) (by simp only [maxLen]; have := HLc.out; omega) (by have := HLc.out; omega) HM7.out.size _ rfl ?_
              intro g cap w8 hown hg hat hlt8
              have hm8 : Moved (w6.alloc (.cells #[.int .i64 y0] 3)) (.slice A9 n9 c9) (.slice (some ⟨g, 0, none⟩) ((cs ++ cutsOf b j).length + 1) cap) := by
                rcases hat with e | e
                · exact .inl e.symm
                · exact .inr ⟨g, rfl, by omega⟩
              obtain ⟨hbox8, hm8'⟩ := HM7.out.cut y0 hown hg hm8
              have HM8 := Aside.mk hm8'
              have hb8 : w8.cell? ⟨bd, od + i, none⟩ = some (.slice A5 b.length c5) := (World.cell?_of_block (hg.block bd (World.block_lt_of_cell? _ _ k27.2) fun e => by have := (HM7.out.oc.lt bd e.symm).1; have := HBd.out; omega)).trans k27.2
              obtain ⟨_, _, k28', _, _⟩ := five hbox8
              have k28 := And.intro k28' hb8
              have f28 := (store_at hbox8 2 (show 2 < 5 by decide)).2.1
              generalize hLN : (cs ++ cutsOf b j).length + 1 = LN at *
              clear hLN hown hg hat hlt8 hm8 hm8' hb8
              refine hK _ _ ⟨.inr k28, ?_⟩
              clear hK K
              try simp only [Act.put, List.setIfInBounds_toArray, List.set_cons_zero, List.set_cons_succ]
              refine wpAnyX_one (i := 10) (oi := ⟨some 56, .fieldAddr 33 (.tmp 6) 2, _, _, _, _⟩) rfl (by kernel_rfl) (fun K hK => ?_)
              go_simp
              refine hK _ _ ⟨.inr k28, ?_⟩
              clear hK K
              try simp only [Act.put, List.setIfInBounds_toArray, List.set_cons_zero, List.set_cons_succ]
              refine wpAnyX_one (i := 11) (oi := ⟨none, .store 30 (.tmp 56) (.tmp 55), _, _, _, _⟩) rfl (by kernel_rfl) (fun K hK => ?_)
              go_simp
              refine hK _ _ ⟨.inl rfl, ?_⟩
              clear hK K
              try simp only [Act.put, List.setIfInBounds_toArray, List.set_cons_zero, List.set_cons_succ]
              refine wpAnyX_done (by kernel_rfl) ?_ _
              have hcb9 : (w8.setCell ⟨M, 2, none⟩ (.slice (some ⟨g, 0, none⟩) LN cap)).cell? ⟨bd, od + i, none⟩ = some (.slice A5 b.length c5) := set_far (by show M ≠ bd; have := HBd.out; have := HM8.out.low; omega) k28.2
              have HM9 := HM8
              rw [List.append_assoc, show cutsOf b j ++ [y0] = cutsOf b (j + 1) by rw [cutsOf_succ, HC0.out]] at HM9
              clear HM8 HM7 HM6 HMd HMI HX7 hbox8 k28 k28' f28 k27 k26 k2d
              generalize w8.setCell ⟨M, 2, none⟩ (.slice (some ⟨g, 0, none⟩) LN cap) = w9 at *
              generalize hcvn : (Value.slice (some ⟨g, 0, none⟩) LN cap) = cv9 at *
              have k3d : w9.drew.cell? ⟨M, 3, none⟩ = some (.slice A8 n8 c8) ∧ w9.drew.cell? ⟨bd, od + i, none⟩ = some (.slice A5 b.length c5) := ⟨by obtain ⟨_, _, _, k, _⟩ := five HM9.out.box; exact k, hcb9⟩
              have HMd := Aside.mk (HM9.out.below (bdrew1 (Below.refl _ _)))
              clear HM9 hcvn hcb9
              go_wp2_with fail
              go_upto_region 13 with (fail)
              refine wp_region_X 28 (fun w' => w'.cell? ⟨M, 3, none⟩ = some (.slice A8 n8 c8) ∧ w'.cell? ⟨bd, od + i, none⟩ = some (.slice A5 b.length c5)) (by kernel_rfl) ?_
              refine wpAnyX_take (i := 0) (oi := ⟨some 57, .fieldAddr 33 (.tmp 6) 3, _, _, _, _⟩) (v := .pointer (some ⟨M, 3, none⟩)) rfl (by kernel_rfl) (by kernel_rfl) (by kernel_rfl) (by kernel_rfl) (fun _ _ _ h => h) (Or.inl ⟨by rfl, ?_⟩) k3d ?_
              · intro w' hSw
                first | (go_simp; done) | (go_simp; rfl) | (go_simp; exact Go.IntWalk.i64_in _ (by omega)) | (go_simp; simp only [*])
              simp only [Act.put, List.setIfInBounds_toArray, List.set_cons_zero, List.set_cons_succ]
              refine wpAnyX_take (i := 1) (oi := ⟨some 58, .load 31 (.tmp 57), _, _, _, _⟩) (v := .slice A8 n8 c8) rfl (by kernel_rfl) (by kernel_rfl) (by kernel_rfl) (by kernel_rfl) (fun _ _ _ h => h) (Or.inl ⟨by rfl, ?_⟩) k3d ?_
              · intro w' hSw
                first | (go_simp; done) | (go_simp; rfl) | (go_simp; exact Go.IntWalk.i64_in _ (by omega)) | (go_simp; simp only [*])
              simp only [Act.put, List.setIfInBounds_toArray, List.set_cons_zero, List.set_cons_succ]
              refine wpAnyX_take (i := 2) (oi := ⟨some 59, .move (.tmp 1), _, _, _, _⟩) (v := .slice (some ⟨bd, od, none⟩) data.length cd) rfl (by kernel_rfl) (by kernel_rfl) (by kernel_rfl) (by kernel_rfl) (fun _ _ _ h => h) (Or.inl ⟨by rfl, ?_⟩) k3d ?_
              · intro w' hSw
                first | (go_simp; done) | (go_simp; rfl) | (go_simp; exact Go.IntWalk.i64_in _ (by omega)) | (go_simp; simp only [*])
              simp only [Act.put, List.setIfInBounds_toArray, List.set_cons_zero, List.set_cons_succ]
              refine wpAnyX_take (i := 3) (oi := ⟨some 60, .move (.tmp 8), _, _, _, _⟩) (v := .int .i64 i) rfl (by kernel_rfl) (by kernel_rfl) (by kernel_rfl) (by kernel_rfl) (fun _ _ _ h => h) (Or.inl ⟨by rfl, ?_⟩) k3d ?_
              · intro w' hSw
                first | (go_simp; done) | (go_simp; rfl) | (go_simp; exact Go.IntWalk.i64_in _ (by omega)) | (go_simp; simp only [*])
              simp only [Act.put, List.setIfInBounds_toArray, List.set_cons_zero, List.set_cons_succ]
              refine wpAnyX_take (i := 4) (oi := ⟨some 61, .indexAddr 45 (.tmp 59) (.tmp 60), _, _, _, _⟩) (v := .pointer (some ⟨bd, (od + i), none⟩)) rfl (by kernel_rfl) (by kernel_rfl) (by kernel_rfl) (by kernel_rfl) (fun _ _ _ h => h) (Or.inl ⟨by rfl, ?_⟩) k3d ?_
              · intro w' hSw
                first | (go_simp; done) | (go_simp; rfl) | (go_simp; exact Go.IntWalk.i64_in _ (by omega)) | (go_simp; simp only [*])
              simp only [Act.put, List.setIfInBounds_toArray, List.set_cons_zero, List.set_cons_succ]
              refine wpAnyX_take (i := 5) (oi := ⟨some 62, .load 44 (.tmp 61), _, _, _, _⟩) (v := .slice A5 b.length c5) rfl (by kernel_rfl) (by kernel_rfl) (by kernel_rfl) (by kernel_rfl) (fun _ _ _ h => h) (Or.inl ⟨by rfl, ?_⟩) k3d ?_
              · intro w' hSw
                first | (go_simp; done) | (go_simp; rfl) | (go_simp; exact Go.IntWalk.i64_in _ (by omega)) | (go_simp; simp only [*])
              simp only [Act.put, List.setIfInBounds_toArray, List.set_cons_zero, List.set_cons_succ]
              refine wpAnyX_take (i := 6) (oi := ⟨some 63, .move (.tmp 9), _, _, _, _⟩) (v := .int .i64 (q : Int)) rfl (by kernel_rfl) (by kernel_rfl) (by kernel_rfl) (by kernel_rfl) (fun _ _ _ h => h) (Or.inl ⟨by rfl, ?_⟩) k3d ?_
              · intro w' hSw
                first | (go_simp; done) | (go_simp; rfl) | (go_simp; exact Go.IntWalk.i64_in _ (by omega)) | (go_simp; simp only [*])
              simp only [Act.put, List.setIfInBounds_toArray, List.set_cons_zero, List.set_cons_succ]
              refine wpAnyX_take (i := 7) (oi := ⟨some 64, .binOp BinOp.add 3 (.tmp 63) (.const (.int .i64 4)) 3, _, _, _, _⟩) (v := .int .i64 ((q : Int) + 4)) rfl (by kernel_rfl) (by kernel_rfl) (by kernel_rfl) (by kernel_rfl) (fun _ _ _ h => h) (Or.inl ⟨by rfl, ?_⟩) k3d ?_
              · intro w' hSw
                first | (go_simp; done) | (go_simp; rfl) | (go_simp; exact Go.IntWalk.i64_in _ (by omega)) | (go_simp; simp only [*])
              simp only [Act.put, List.setIfInBounds_toArray, List.set_cons_zero, List.set_cons_succ]
              refine wpAnyX_take (i := 9) (oi := ⟨some 66, .move (.tmp 1), _, _, _, _⟩) (v := .slice (some ⟨bd, od, none⟩) data.length cd) rfl (by kernel_rfl) (by kernel_rfl) (by kernel_rfl) (by kernel_rfl) (fun _ _ _ h => h) (Or.inl ⟨by rfl, ?_⟩) k3d ?_
              · intro w' hSw
                first | (go_simp; done) | (go_simp; rfl) | (go_simp; exact Go.IntWalk.i64_in _ (by omega)) | (go_simp; simp only [*])
              simp only [Act.put, List.setIfInBounds_toArray, List.set_cons_zero, List.set_cons_succ]
              refine wpAnyX_take (i := 10) (oi := ⟨some 67, .move (.tmp 8), _, _, _, _⟩) (v := .int .i64 i) rfl (by kernel_rfl) (by kernel_rfl) (by kernel_rfl) (by kernel_rfl) (fun _ _ _ h => h) (Or.inl ⟨by rfl, ?_⟩) k3d ?_
              · intro w' hSw
                first | (go_simp; done) | (go_simp; rfl) | (go_simp; exact Go.IntWalk.i64_in _ (by omega)) | (go_simp; simp only [*])
              simp only [Act.put, List.setIfInBounds_toArray, List.set_cons_zero, List.set_cons_succ]
              refine wpAnyX_take (i := 11) (oi := ⟨some 68, .indexAddr 45 (.tmp 66) (.tmp 67), _, _, _, _⟩) (v := .pointer (some ⟨bd, (od + i), none⟩)) rfl (by kernel_rfl) (by kernel_rfl) (by kernel_rfl) (by kernel_rfl) (fun _ _ _ h => h) (Or.inl ⟨by rfl, ?_⟩) k3d ?_
              · intro w' hSw
                first | (go_simp; done) | (go_simp; rfl) | (go_simp; exact Go.IntWalk.i64_in _ (by omega)) | (go_simp; simp only [*])
              simp only [Act.put, List.setIfInBounds_toArray, List.set_cons_zero, List.set_cons_succ]
              refine wpAnyX_take (i := 12) (oi := ⟨some 69, .load 44 (.tmp 68), _, _, _, _⟩) (v := .slice A5 b.length c5) rfl (by kernel_rfl) (by kernel_rfl) (by kernel_rfl) (by kernel_rfl) (fun _ _ _ h => h) (Or.inl ⟨by rfl, ?_⟩) k3d ?_
              · intro w' hSw
                first | (go_simp; done) | (go_simp; rfl) | (go_simp; exact Go.IntWalk.i64_in _ (by omega)) | (go_simp; simp only [*])
              simp only [Act.put, List.setIfInBounds_toArray, List.set_cons_zero, List.set_cons_succ]
              refine wpAnyX_take (i := 13) (oi := ⟨some 70, .move (.tmp 9), _, _, _, _⟩) (v := .int .i64 (q : Int)) rfl (by kernel_rfl) (by kernel_rfl) (by kernel_rfl) (by kernel_rfl) (fun _ _ _ h => h) (Or.inl ⟨by rfl, ?_⟩) k3d ?_
              · intro w' hSw
                first | (go_simp; done) | (go_simp; rfl) | (go_simp; exact Go.IntWalk.i64_in _ (by omega)) | (go_simp; simp only [*])
              simp only [Act.put, List.setIfInBounds_toArray, List.set_cons_zero, List.set_cons_succ]
              refine wpAnyX_take (i := 14) (oi := ⟨some 71, .binOp BinOp.add 3 (.tmp 70) (.const (.int .i64 8)) 3, _, _, _, _⟩) (v := .int .i64 ((q : Int) + 8)) rfl (by kernel_rfl) (by kernel_rfl) (by kernel_rfl) (by kernel_rfl) (fun _ _ _ h => h) (Or.inl ⟨by rfl, ?_⟩) k3d ?_
              · intro w' hSw
                first | (go_simp; done) | (go_simp; rfl) | (go_simp; exact Go.IntWalk.i64_in _ (by omega)) | (go_simp; simp only [*])
              simp only [Act.put, List.setIfInBounds_toArray, List.set_cons_zero, List.set_cons_succ]
              refine wpAnyX_take (i := 17) (oi := ⟨some 74, .move (.tmp 1), _, _, _, _⟩) (v := .slice (some ⟨bd, od, none⟩) data.length cd) rfl (by kernel_rfl) (by kernel_rfl) (by kernel_rfl) (by kernel_rfl) (fun _ _ _ h => h) (Or.inl ⟨by rfl, ?_⟩) k3d ?_
              · intro w' hSw
                first | (go_simp; done) | (go_simp; rfl) | (go_simp; exact Go.IntWalk.i64_in _ (by omega)) | (go_simp; simp only [*])
              simp only [Act.put, List.setIfInBounds_toArray, List.set_cons_zero, List.set_cons_succ]
              refine wpAnyX_take (i := 18) (oi := ⟨some 75, .move (.tmp 8), _, _, _, _⟩) (v := .int .i64 i) rfl (by kernel_rfl) (by kernel_rfl) (by kernel_rfl) (by kernel_rfl) (fun _ _ _ h => h) (Or.inl ⟨by rfl, ?_⟩) k3d ?_
              · intro w' hSw
                first | (go_simp; done) | (go_simp; rfl) | (go_simp; exact Go.IntWalk.i64_in _ (by omega)) | (go_simp; simp only [*])
              simp only [Act.put, List.setIfInBounds_toArray, List.set_cons_zero, List.set_cons_succ]
              refine wpAnyX_take (i := 19) (oi := ⟨some 76, .indexAddr 45 (.tmp 74) (.tmp 75), _, _, _, _⟩) (v := .pointer (some ⟨bd, (od + i), none⟩)) rfl (by kernel_rfl) (by kernel_rfl) (by kernel_rfl) (by kernel_rfl) (fun _ _ _ h => h) (Or.inl ⟨by rfl, ?_⟩) k3d ?_
              · intro w' hSw
                first | (go_simp; done) | (go_simp; rfl) | (go_simp; exact Go.IntWalk.i64_in _ (by omega)) | (go_simp; simp only [*])
              simp only [Act.put, List.setIfInBounds_toArray, List.set_cons_zero, List.set_cons_succ]
              refine wpAnyX_take (i := 20) (oi := ⟨some 77, .load 44 (.tmp 76), _, _, _, _⟩) (v := .slice A5 b.length c5) rfl (by kernel_rfl) (by kernel_rfl) (by kernel_rfl) (by kernel_rfl) (fun _ _ _ h => h) (Or.inl ⟨by rfl, ?_⟩) k3d ?_
              · intro w' hSw
                first | (go_simp; done) | (go_simp; rfl) | (go_simp; exact Go.IntWalk.i64_in _ (by omega)) | (go_simp; simp only [*])
              simp only [Act.put, List.setIfInBounds_toArray, List.set_cons_zero, List.set_cons_succ]
              refine wpAnyX_take (i := 21) (oi := ⟨some 78, .move (.tmp 9), _, _, _, _⟩) (v := .int .i64 (q : Int)) rfl (by kernel_rfl) (by kernel_rfl) (by kernel_rfl) (by kernel_rfl) (fun _ _ _ h => h) (Or.inl ⟨by rfl, ?_⟩) k3d ?_
              · intro w' hSw
                first | (go_simp; done) | (go_simp; rfl) | (go_simp; exact Go.IntWalk.i64_in _ (by omega)) | (go_simp; simp only [*])
              simp only [Act.put, List.setIfInBounds_toArray, List.set_cons_zero, List.set_cons_succ]
              refine wpAnyX_take (i := 22) (oi := ⟨some 79, .binOp BinOp.add 3 (.tmp 78) (.const (.int .i64 12)) 3, _, _, _, _⟩) (v := .int .i64 ((q : Int) + 12)) rfl (by kernel_rfl) (by kernel_rfl) (by kernel_rfl) (by kernel_rfl) (fun _ _ _ h => h) (Or.inl ⟨by rfl, ?_⟩) k3d ?_
              · intro w' hSw
                first | (go_simp; done) | (go_simp; rfl) | (go_simp; exact Go.IntWalk.i64_in _ (by omega)) | (go_simp; simp only [*])
              simp only [Act.put, List.setIfInBounds_toArray, List.set_cons_zero, List.set_cons_succ]
              refine wpAnyX_one (i := 8) (oi := ⟨some 65, .call { callee := .value (.func 86), args := #[.tmp 62, .tmp 64], argTypes := #[44, 3] }, _, _, _, _⟩) rfl (by kernel_rfl) (fun K hK => ?_)
              go_simp
              refine (read_any (q + 4) (x := y1) (sl_far HOk.out Hbel2.out HMd.out.bel HSb.out) (by omega) (by omega) HY1.out.symm).mono ?_
              rintro e wa ⟨rfl, B6⟩
              have HMa := Aside.mk (HMd.out.below B6)
              have k3a := And.intro (bcell B6 k3d.1) (bcell B6 k3d.2)
              clear B6
              refine hK _ _ ⟨.inr k3a, ?_⟩
              clear hK K
              try simp only [Act.put, List.setIfInBounds_toArray, List.set_cons_zero, List.set_cons_succ]
              refine wpAnyX_one (i := 15) (oi := ⟨some 72, .call { callee := .value (.func 86), args := #[.tmp 69, .tmp 71], argTypes := #[44, 3] }, _, _, _, _⟩) rfl (by kernel_rfl) (fun K hK => ?_)
              go_simp
              refine (read_any (q + 8) (x := y2) (sl_far HOk.out Hbel2.out HMa.out.bel HSb.out) (by omega) (by omega) HY2.out.symm).mono ?_
              rintro e wb ⟨rfl, B6⟩
              have HMb := Aside.mk (HMa.out.below B6)
              have k3b := And.intro (bcell B6 k3a.1) (bcell B6 k3a.2)
              clear B6
              have hw32 : IntKind.u32.wrap y2 = y2 := Go.IntWalk.u32_in _ HXR.out
              refine hK _ _ ⟨.inr k3b, ?_⟩
              clear hK K
              try simp only [Act.put, List.setIfInBounds_toArray, List.set_cons_zero, List.set_cons_succ]
              refine wpAnyX_take (i := 16) (oi := ⟨some 73, .convert 3 52 (.tmp 72), _, _, _, _⟩) (v := .int .u32 y2) rfl (by kernel_rfl) (by kernel_rfl) (by kernel_rfl) (by kernel_rfl) (fun _ _ _ h => h) (Or.inl ⟨by rfl, ?_⟩) k3b ?_
              · intro w' hSw
                first | (go_simp; done) | (go_simp; rfl) | (go_simp; exact Go.IntWalk.i64_in _ (by omega)) | (go_simp; simp only [*])
              simp only [Act.put, List.setIfInBounds_toArray, List.set_cons_zero, List.set_cons_succ]
              refine wpAnyX_one (i := 23) (oi := ⟨some 80, .call { callee := .value (.func 86), args := #[.tmp 77, .tmp 79], argTypes := #[44, 3] }, _, _, _, _⟩) rfl (by kernel_rfl) (fun K hK => ?_)
              go_simp
              refine (read_any (q + 12) (x := y3) (sl_far HOk.out Hbel2.out HMb.out.bel HSb.out) (by omega) (by omega) HY3.out.symm).mono ?_
              rintro e wc ⟨rfl, B6⟩
              have HMc := Aside.mk (HMb.out.below B6)
              have k3c := And.intro (bcell B6 k3b.1) (bcell B6 k3b.2)
              clear B6
              refine hK _ _ ⟨.inr k3c, ?_⟩
              clear hK K
              try simp only [Act.put, List.setIfInBounds_toArray, List.set_cons_zero, List.set_cons_succ]
              refine wpAnyX_one (i := 24) (oi := ⟨some 81, .build 54 #[(0, .tmp 65), (1, .tmp 73), (2, .tmp 80)], _, _, _, _⟩) rfl (by kernel_rfl) (fun K hK => ?_)
              go_simp
              refine hK _ _ ⟨.inr k3c, ?_⟩
              clear hK K
              try simp only [Act.put, List.setIfInBounds_toArray, List.set_cons_zero, List.set_cons_succ]
              refine wpAnyX_one (i := 25) (oi := ⟨some 82, .buildSlice 31 1 #[(0, .tmp 81)], _, _, _, _⟩) rfl (by kernel_rfl) (fun K hK => ?_)
              go_simp
              have HM7 := Aside.mk (HMc.out.below ((Below.refl wc.heap.size wc).alloc (Nat.le_refl _) (.cells #[.int .i64 y1, .int .u32 y2, .int .i64 y3] 54)))
              have HX7 := Aside.mk (heap_alloc_new wc (.cells #[.int .i64 y1, .int .u32 y2, .int .i64 y3] 54))
              have k37 := And.intro (bcell ((Below.refl wc.heap.size wc).alloc (Nat.le_refl _) (.cells #[.int .i64 y1, .int .u32 y2, .int .i64 y3] 54)) k3c.1) (bcell ((Below.refl wc.heap.size wc).alloc (Nat.le_refl _) (.cells #[.int .i64 y1, .int .u32 y2, .int .i64 y3] 54)) k3c.2)
              refine hK _ _ ⟨.inr k37, ?_⟩
              clear hK K
              try simp only [Act.put, List.setIfInBounds_toArray, List.set_cons_zero, List.set_cons_succ]
              refine wpAnyX_one (i := 26) (oi := ⟨some 83, .call { callee := .builtin .append, args := #[.tmp 58, .tmp 82], argTypes := #[31, 31] }, _, _, _, _⟩) rfl (by kernel_rfl) (fun K hK => ?_)
              refine step_append_lies (P := Tryz.prog) (w := wc.alloc (.cells #[.int .i64 y1, .int .u32 y2, .int .i64 y3] 54)) (by rfl) _ _ _ (by rfl) lo 54 fi _ 3 24 Tryz.underlying31 hfi hfz hfs hfb rfl (by decide) (.slice A8 n8 c8) (ss ++ infosOf b j).length (infoCells (ss ++ infosOf b j)) (by rfl) HM7.out.os ⟨_, 0, none⟩ 1 1 [.int .i64 y1, .int .u32 y2, .int .i64 y3] (by rfl) (by rfl) (World.news_of_block HX7.out) (by simp [Value.oneCell']) (by decide) (by simp only [maxLen]; have := HLc.out; omega) (by have := HLc.out; omega) HM7.out.size _ rfl ?_
              intro g2 cap2 w8' hown hg hat hlt8
              have hm8 : Moved (wc.alloc (.cells #[.int .i64 y1, .int .u32 y2, .int .i64 y3] 54)) (.slice A8 n8 c8) (.slice (some ⟨g2, 0, none⟩) ((ss ++ infosOf b j).length + 1) cap2) := by
                rcases hat with e | e
                · exact .inl e.symm
                · exact .inr ⟨g2, rfl, by omega⟩
              obtain ⟨hbox8, hm8'⟩ := HM7.out.shard ⟨y1, UInt32.ofNat y2.toNat, y3⟩ (by show World.ownsRow _ _ _ _ _ _ (_ ++ [.int .i64 y1, .int .u32 ((UInt32.ofNat y2.toNat).toNat : Int), .int .i64 y3]); rw [HSUM.out]; exact hown) hg hm8
              have HM8 := Aside.mk hm8'
              have hb8 : w8'.cell? ⟨bd, od + i, none⟩ = some (.slice A5 b.length c5) := (World.cell?_of_block (hg.block bd (World.block_lt_of_cell? _ _ k37.2) fun e => by have := (HM7.out.os.lt bd e.symm).1; have := HBd.out; omega)).trans k37.2
              obtain ⟨_, _, _, k38', _⟩ := five hbox8
              have k38 := And.intro k38' hb8
              have f38 := (store_at hbox8 3 (show 3 < 5 by decide)).2.1
              generalize hLN : (ss ++ infosOf b j).length + 1 = LN2 at *
              clear hLN hown hg hat hlt8 hm8 hm8' hb8
              refine hK _ _ ⟨.inr k38, ?_⟩
              clear hK K
              try simp only [Act.put, List.setIfInBounds_toArray, List.set_cons_zero, List.set_cons_succ]
              refine wpAnyX_one (i := 27) (oi := ⟨some 84, .fieldAddr 33 (.tmp 6) 3, _, _, _, _⟩) rfl (by kernel_rfl) (fun K hK => ?_)
              go_simp
              refine hK _ _ ⟨.inr k38, ?_⟩
              clear hK K
              try simp only [Act.put, List.setIfInBounds_toArray, List.set_cons_zero, List.set_cons_succ]
              refine wpAnyX_one (i := 28) (oi := ⟨none, .store 31 (.tmp 84) (.tmp 83), _, _, _, _⟩) rfl (by kernel_rfl) (fun K hK => ?_)
              go_simp
              refine hK _ _ ⟨.inl rfl, ?_⟩
              clear hK K
              try simp only [Act.put, List.setIfInBounds_toArray, List.set_cons_zero, List.set_cons_succ]
              refine wpAnyX_done (by kernel_rfl) ?_ _
              have HM9 := HM8
              rw [← HINF.out, List.append_assoc ss, ← infosOf_succ] at HM9
              clear HM8
              go_wp2_with fail
              go_roundg (b.length / 16 - (j + 1))
              case measure => exact hM2.out.1
              case rel => exact ⟨j + 1, q + 16, _, _, ⟨hM2.out.2⟩, by go_num, ⟨by rw [HQ.out]; omega⟩, HM9⟩
            · have hje : j = b.length / 16 := by have := HJ.out; have := HQ.out; omega
              have hj1 : ¬ ((q : Int) + 16 ≤ (b.length : Int)) := by omega
              have HL9 : Aside ((cs ++ cutsOf b j).length ≤ sumL (data.take (i + 1)) ∧ (ss ++ infosOf b j).length = (cs ++ cutsOf b j).length ∧ ds.length ≤ sumL (data.take (i + 1))) := ⟨by
                have h1 := HLs.out
                have h2 := HSt.out.1
                simp only [List.length_append, cutsOf_length, infosOf_length]
                omega⟩
              have HR2 : Aside (RefIn head data (i + 1) (cs ++ cutsOf b j) (ss ++ infosOf b j) ds) := ⟨by rw [hje]; exact HR1.out⟩
              have hq9 : (q : Int) + 16 ≤ 9223372036854775807 := by have := HJ.out; have := HQ.out; have := HBl.out; omega
              clear hje HJ HQ
              go_wp2_with fail
              go_roundg (data.length - (i + 1))
              case measure => exact hM.out.1
              case rel => exact ⟨i + 1, cv, sv, dv, _, _, ds, ⟨hM.out.2⟩, by go_num, HMI, HR2, HL9⟩
        · have HRD2 : Aside (∀ acc, (∀ l, degFrame b = some l → ((ds ++ l).length : Int) ≤ x1 → acc = l) → RefIn head data (i + 1) cs ss (ds ++ acc)) := ⟨fun acc h => HRD.out acc (by rw [← HX2.out]; exact hlt) (by rw [← HX1.out]; exact h)⟩
          clear HRD HRS HRf
          go_wp2_with fail
          refine (HcN.out _ HSb0.out).mono ?_
          rintro e w2 ⟨R, bv, rfl, hR, B2⟩
          have HRf : Aside (wo.heap.size ≤ R ∧ lo ≤ wo.heap.size ∧ M < wo.heap.size) := ⟨hR.lo, HMI.out.size, blk_lt HMI.out.box⟩
          have HM2 : Aside (MR lo wb w2 M x0 x1 (.slice A9 cs.length c9) sv dv cs ss (ds ++ [])) := ⟨by rw [List.append_nil]; exact HMI.out.below B2⟩
          have HOw : Aside (∀ q, ((Value.slice A9 cs.length c9).ownBlock = some q ∨ sv.ownBlock = some q) → q < wo.heap.size) := ⟨fun q e => by
            rcases e with e | e
            · exact (HMI.out.oc.lt q e).2
            · exact (HMI.out.os.lt q e).2⟩
          have HRd := Aside.mk hR
          have HN0 : Aside (dv.ownBlock ≠ some R ∧ ∀ q, bv.ownBlock = some q → dv.ownBlock ≠ some q) := ⟨⟨fun e => by have := (HMI.out.od.lt R e).2; have := HRf.out.1; omega, fun q e e2 => by have := (HMI.out.od.lt q e2).2; have := (HRd.out.own.lt q e).1; omega⟩⟩
          clear hR B2 HMI k2 hcb HcN
          generalize hcvn : (Value.slice A9 cs.length c9) = cv at *
          clear hcvn
          go_wp2_with fail
          go_loopg [] b.length (fun kq wr2 => ∃ (p : Nat) (err : Int) (dv2 : Value) (acc2 : List Int), Aside (Rr wo.heap.size wr2 R bv b p err) ∧ Aside (MR lo wb wr2 M x0 x1 cv sv dv2 cs ss (ds ++ acc2)) ∧ Aside ((err = 0 ∧ p + kq = b.length ∧ degFrame b = (degFrame (b.drop p)).map (acc2 ++ ·)) ∨ (err ≠ 0 ∧ kq = 0 ∧ degFrame b = none)) ∧ Aside (acc2.length ≤ b.length ∧ (err = 0 → acc2.length ≤ p)) ∧ Aside (dv2.ownBlock ≠ some R ∧ ∀ q, bv.ownBlock = some q → dv2.ownBlock ≠ some q))
          case atStart => exact ⟨0, 0, dv, [], HRd, HM2, ⟨.inl ⟨rfl, by omega, by simp⟩⟩, ⟨by simp, by simp⟩, HN0⟩
          case round =>
            clear HRd HM2 HN0
            obtain ⟨p, err, dv2, acc2, HR, HMI, HSt2, HLe, HNe⟩ := hrel
            have hcall := refLeft_any HR.out
            have hple := HR.out.le
            have HL9 : Aside (cs.length ≤ sumL (data.take (i + 1)) ∧ ss.length = cs.length ∧ (ds ++ acc2).length ≤ sumL (data.take (i + 1))) := ⟨by
              have h1 := HLs.out
              have h2 := HSt.out.1
              have h3 := HLe.out.1
              rw [List.length_append]
              omega⟩
            by_cases hlf : err = 0 ∧ p < b.length
            · obtain ⟨rfl, hlt2⟩ := hlf
              rw [if_pos rfl] at hcall
              have hlt' : decide ((0 : Int) < (b.length : Int) - (p : Int)) = true := decide_eq_true (by omega)
              go_wp2_with fail
              refine hcall.mono ?_
              clear hcall
              rintro e w5 ⟨rfl, q5, rfl⟩
              have B5 : Below wr.heap.size wr (wr.drewN q5) := bdrew (Below.refl _ _) q5
              have HR5 : Aside (Rr wo.heap.size (wr.drewN q5) R bv b p 0) := ⟨HR.out.below B5⟩
              have HM5 := Aside.mk (HMI.out.below B5)
              clear B5 HR HMI
              generalize wr.drewN q5 = w5 at *
              obtain ⟨A9, c9, hdv⟩ := own_sl HM5.out.od
              subst hdv
              obtain ⟨_, k1, _, _, k4⟩ := five HM5.out.box
              by_cases hN : ((ds ++ acc2).length : Int) ≤ x1
              · have HLL : Aside ((ds ++ acc2).length ≤ 1099511627776) := ⟨by
                  have h1 := HL9.out
                  have h2 := HSt.out
                  have h3 := HS.out
                  omega⟩
                obtain ⟨n9, hn9⟩ : ∃ n9, n9 = (ds ++ acc2).length := ⟨_, rfl⟩
                have HN9 := Aside.mk hn9
                rw [← hn9] at hN k4 HNe HM5
                clear hn9
                go_wp2_with fail
                have k4d : w5.drew.cell? ⟨M, 4, none⟩ = some (.slice A9 n9 c9) := k4
                have HRdd : Aside (Rr wo.heap.size w5.drew R bv b p 0) := ⟨HR5.out.below (bdrew1 (Below.refl _ _))⟩
                have HMd := Aside.mk (HM5.out.below (bdrew1 (Below.refl _ _)))
                have hint := refInt_deg HRdd.out hlt2
                obtain ⟨ii, hii, hiz, his, hib⟩ := info_parts Tryz.infoInt
                go_upto_region 16 with (fail)
                refine wp_region_X 7 (fun w' => w'.cell? ⟨M, 4, none⟩ = some (.slice A9 n9 c9)) (by kernel_rfl) ?_
                refine wpAnyX_take (i := 0) (oi := ⟨some 101, .fieldAddr 33 (.tmp 6) 4, _, _, _, _⟩) (v := .pointer (some ⟨M, 4, none⟩)) rfl (by kernel_rfl) (by kernel_rfl) (by kernel_rfl) (by kernel_rfl) (fun _ _ _ h => h) (Or.inl ⟨by rfl, ?_⟩) k4d ?_
                · intro w' hSw
                  first | (go_simp; done) | (go_simp; rfl) | (go_simp; exact Go.IntWalk.i64_in _ (by omega)) | (go_simp; simp only [*])
                simp only [Act.put, List.setIfInBounds_toArray, List.set_cons_zero, List.set_cons_succ]
                refine wpAnyX_take (i := 1) (oi := ⟨some 102, .load 30 (.tmp 101), _, _, _, _⟩) (v := .slice A9 n9 c9) rfl (by kernel_rfl) (by kernel_rfl) (by kernel_rfl) (by kernel_rfl) (fun _ _ _ h => h) (Or.inl ⟨by rfl, ?_⟩) k4d ?_
                · intro w' hSw
                  first | (go_simp; done) | (go_simp; rfl) | (go_simp; exact Go.IntWalk.i64_in _ (by omega)) | (go_simp; simp only [*])
                simp only [Act.put, List.setIfInBounds_toArray, List.set_cons_zero, List.set_cons_succ]
                refine wpAnyX_take (i := 2) (oi := ⟨some 103, .move (.tmp 10), _, _, _, _⟩) (v := .pointer (some ⟨R, 0, none⟩)) rfl (by kernel_rfl) (by kernel_rfl) (by kernel_rfl) (by kernel_rfl) (fun _ _ _ h => h) (Or.inl ⟨by rfl, ?_⟩) k4d ?_
                · intro w' hSw
                  first | (go_simp; done) | (go_simp; rfl) | (go_simp; exact Go.IntWalk.i64_in _ (by omega)) | (go_simp; simp only [*])
                simp only [Act.put, List.setIfInBounds_toArray, List.set_cons_zero, List.set_cons_succ]
                refine wpAnyX_one (i := 3) (oi := ⟨some 104, .call { callee := .value (.func 89), args := #[.tmp 103], argTypes := #[134] }, _, _, _, _⟩) rfl (by kernel_rfl) (fun K hK => ?_)
                go_simp
                refine hint.mono ?_
                rintro e w6 ⟨xv, p', err', rfl, hr6, hpp, hst6, hz6, hf6, ho6, ht6, hu6⟩
                have HM6 := Aside.mk (HMd.out.far (R := R) (by have := HRf.out; omega) (by have := HRf.out; omega) (fun e => by have := HOw.out R (.inl e); have := HRf.out; omega) (fun e => by have := HOw.out R (.inr e); have := HRf.out; omega) HNe.out.1 hz6 hf6 ho6 ht6 hu6)
                have HR6 := Aside.mk hr6
                have HP6 := Aside.mk (And.intro hpp hst6)
                have k46 : w6.cell? ⟨M, 4, none⟩ = some (.slice A9 n9 c9) := by obtain ⟨_, _, _, _, k⟩ := five HM6.out.box; exact k
                clear hr6 hpp hst6 hz6 hf6 ho6 ht6 hu6
                refine hK _ _ ⟨.inr k46, ?_⟩
                clear hK K
                try simp only [Act.put, List.setIfInBounds_toArray, List.set_cons_zero, List.set_cons_succ]
                refine wpAnyX_one (i := 4) (oi := ⟨some 105, .buildSlice 30 1 #[(0, .tmp 104)], _, _, _, _⟩) rfl (by kernel_rfl) (fun K hK => ?_)
                go_simp
                have HM7 := Aside.mk (HM6.out.below ((Below.refl w6.heap.size w6).alloc (Nat.le_refl _) (.cells #[.int .i64 xv] 3)))
                have HX7 := Aside.mk (heap_alloc_new w6 (.cells #[.int .i64 xv] 3))
                have HR7 : Aside (Rr wo.heap.size (w6.alloc (.cells #[.int .i64 xv] 3)) R bv b p' err') := ⟨HR6.out.below ((Below.refl w6.heap.size w6).alloc (Nat.le_refl _) _)⟩
                have k47 : (w6.alloc (.cells #[.int .i64 xv] 3)).cell? ⟨M, 4, none⟩ = some (.slice A9 n9 c9) := by obtain ⟨_, _, _, _, k⟩ := five HM7.out.box; exact k
                refine hK _ _ ⟨.inr k47, ?_⟩
                clear hK K
                try simp only [Act.put, List.setIfInBounds_toArray, List.set_cons_zero, List.set_cons_succ]
                refine wpAnyX_one (i := 5) (oi := ⟨some 106, .call { callee := .builtin .append, args := #[.tmp 102, .tmp 105], argTypes := #[30, 30] }, _, _, _, _⟩) rfl (by kernel_rfl) (fun K hK => ?_)
                have hod7 : (w6.alloc (.cells #[.int .i64 xv] 3)).ownsRow lo 3 1 (.slice A9 n9 c9) n9 (ints (ds ++ acc2)) := by have h := HM7.out.od; rw [← HN9.out] at h; exact h
                refine step_append_lies (P := Tryz.prog) (w := w6.alloc (.cells #[.int .i64 xv] 3)) (by rfl) _ _ _ (by rfl) lo 3 ii _ 1 8 Tryz.underlying30 hii hiz his hib rfl (by decide) (.slice A9 n9 c9) n9 (ints (ds ++ acc2)) (by rfl) hod7 ⟨_, 0, none⟩ 1 1 [.int .i64 xv] (by rfl) (by rfl) (World.news_of_block HX7.out) (by simp [Value.oneCell']) (by decide) (by simp only [maxLen]; have := HLL.out; have := HN9.out; omega) (by have := HLL.out; have := HN9.out; omega) HM7.out.size _ rfl ?_
                intro g cap w8 hown hg hat hlt8
                have hm8 : Moved (w6.alloc (.cells #[.int .i64 xv] 3)) (.slice A9 n9 c9) (.slice (some ⟨g, 0, none⟩) (n9 + 1) cap) := by
                  rcases hat with e | e
                  · exact .inl e.symm
                  · exact .inr ⟨g, rfl, by omega⟩
                obtain ⟨hbox8, hm8'⟩ := HM7.out.deg xv (by rw [← HN9.out]; exact hown) hg hm8
                have HM8 := Aside.mk hm8'
                obtain ⟨_, _, _, _, k48⟩ := five hbox8
                have f48 := (store_at hbox8 4 (show 4 < 5 by decide)).2.1
                have hgR : g ≠ R := by
                  rcases hat with e | e
                  · exact fun h => HNe.out.1 (by rw [e, h])
                  · have := blk_lt HR7.out.box; omega
                have hgb : ∀ q, bv.ownBlock = some q → g ≠ q := fun q eq hq => by
                  rcases hat with e | e
                  · exact HNe.out.2 q eq (by rw [e, hq])
                  · have := (HR7.out.own.lt q eq).2; omega
                have hRM : R ≠ M := by have := HRf.out; omega
                have HR8 : Aside (Rr wo.heap.size (w8.setCell ⟨M, 4, none⟩ (.slice (some ⟨g, 0, none⟩) (n9 + 1) cap)) R bv b p' err') := ⟨⟨(Below.heap_setCell _ _ _ _ hRM).trans ((hg.block R (blk_lt HR7.out.box) (fun e => HNe.out.1 e.symm)).trans HR7.out.box), ownsRow_move HR7.out.own fun q e => (Below.heap_setCell _ _ _ _ (by have := (HR7.out.own.lt q e).1; have := HRf.out; show q ≠ M; omega)).trans (hg.block q (HR7.out.own.lt q e).2 fun e2 => HNe.out.2 q e e2.symm), HR7.out.ne, HR7.out.lo, HR7.out.le⟩⟩
                have HN8 : Aside ((Value.slice (some ⟨g, 0, none⟩) (n9 + 1) cap).ownBlock ≠ some R ∧ ∀ q, bv.ownBlock = some q → (Value.slice (some ⟨g, 0, none⟩) (n9 + 1) cap).ownBlock ≠ some q) := ⟨⟨fun e => hgR (Option.some.inj e), fun q e e2 => hgb q e (Option.some.inj e2)⟩⟩
                clear hown hg hat hlt8 hm8 hm8' hgR hgb
                refine hK _ _ ⟨.inr k48, ?_⟩
                clear hK K
                try simp only [Act.put, List.setIfInBounds_toArray, List.set_cons_zero, List.set_cons_succ]
                refine wpAnyX_one (i := 6) (oi := ⟨some 107, .fieldAddr 33 (.tmp 6) 4, _, _, _, _⟩) rfl (by kernel_rfl) (fun K hK => ?_)
                go_simp
                refine hK _ _ ⟨.inr k48, ?_⟩
                clear hK K
                try simp only [Act.put, List.setIfInBounds_toArray, List.set_cons_zero, List.set_cons_succ]
                refine wpAnyX_one (i := 7) (oi := ⟨none, .store 30 (.tmp 107) (.tmp 106), _, _, _, _⟩) rfl (by kernel_rfl) (fun K hK => ?_)
                go_simp
                refine hK _ _ ⟨.inl rfl, ?_⟩
                clear hK K
                try simp only [Act.put, List.setIfInBounds_toArray, List.set_cons_zero, List.set_cons_succ]
                refine wpAnyX_done (by kernel_rfl) ?_ _
                go_wp2_with fail
                have hst := HP6.out.2
                have hpp := HP6.out.1
                have h2 := HSt2.out
                rcases hst with ⟨he', hlt2, hdg⟩ | ⟨he', hdg⟩
                · go_roundg (b.length - p')
                  case measure => rcases h2 with ⟨_, h3, _⟩ | ⟨h3, _⟩; omega; exact absurd rfl h3
                  case rel =>
                    refine ⟨p', err', _, acc2 ++ [xv], HR8, ⟨by rw [← List.append_assoc]; exact HM8.out⟩, ⟨.inl ⟨he', by have := HR6.out.le; omega, ?_⟩⟩, ⟨by have := HLe.out.2 (by first | rfl | trivial); have := HR6.out.le; simp; omega, fun _ => by have := HLe.out.2 (by first | rfl | trivial); simp; omega⟩, HN8⟩
                    rcases h2 with ⟨_, _, h3⟩ | ⟨h3, _⟩
                    · rw [h3, hdg]
                      cases degFrame (b.drop p') <;> simp
                    · exact absurd rfl h3
                · go_roundg 0
                  case measure => rcases h2 with ⟨_, h3, _⟩ | ⟨h3, _⟩; omega; exact absurd rfl h3
                  case rel =>
                    refine ⟨p', err', _, acc2 ++ [xv], HR8, ⟨by rw [← List.append_assoc]; exact HM8.out⟩, ⟨.inr ⟨he', rfl, ?_⟩⟩, ⟨by have := HLe.out.2 (by first | rfl | trivial); simp; omega, fun e => absurd e he'⟩, HN8⟩
                    rcases h2 with ⟨_, _, h3⟩ | ⟨h3, _⟩
                    · rw [h3, hdg]; rfl
                    · exact absurd rfl h3
              · have HR9 : Aside (RefIn head data (i + 1) cs ss (ds ++ acc2)) := ⟨HRD2.out acc2 fun l hl hle => by
                  exfalso
                  rcases HSt2.out with ⟨_, _, h3⟩ | ⟨h3, _⟩
                  · rw [hl] at h3
                    cases hdp : degFrame (b.drop p) with
                    | none => rw [hdp] at h3; cases h3
                    | some l' =>
                      rw [hdp] at h3
                      cases h3
                      simp only [List.length_append] at hle hN
                      omega
                  · exact absurd rfl h3⟩
                obtain ⟨n9, hn9⟩ : ∃ n9, n9 = (ds ++ acc2).length := ⟨_, rfl⟩
                rw [← hn9] at hN k4 HNe HM5
                clear hn9 HRD2 HSt2
                go_wp2_with fail
                go_roundg (data.length - (i + 1))
                case measure => exact hM.out.1
                case rel => exact ⟨i + 1, cv, sv, _, _, _, _, ⟨hM.out.2⟩, by go_num, HM5, HR9, HL9⟩
            · have hval : (if err = 0 then (b.length : Int) - (p : Int) else 0) = 0 := by
                split
                · omega
                · rfl
              rw [hval] at hcall
              have HR9 : Aside (RefIn head data (i + 1) cs ss (ds ++ acc2)) := ⟨HRD2.out acc2 fun l hl hle => by
                rcases HSt2.out with ⟨h1, _, h3⟩ | ⟨h1, _, h3⟩
                · rw [hl, List.drop_eq_nil_of_le (by omega), degFrame_nil] at h3
                  simpa using h3.symm
                · rw [hl] at h3; cases h3⟩
              clear hval HSt2 hlf HRD2
              go_wp2_with fail
              refine hcall.mono ?_
              clear hcall
              rintro e w5 ⟨rfl, q5, rfl⟩
              have HM5 := Aside.mk (HMI.out.below (bdrew (Below.refl _ _) q5))
              clear HR HMI
              generalize wr.drewN q5 = w5 at *
              go_wp2_with fail
              go_roundg (data.length - (i + 1))
              case measure => exact hM.out.1
              case rel => exact ⟨i + 1, cv, sv, dv2, _, _, _, ⟨hM.out.2⟩, by go_num, HM5, HR9, HL9⟩
      · have hie : i = data.length := by have := HI.out; omega
        have HRe : Aside (RefIn head data data.length cs ss ds) := ⟨by have h := HRf.out; rw [hie] at h; exact h⟩
        have hge : ¬ ((i : Int) < (data.length : Int)) := by omega
        obtain ⟨Ac, cc, hcv⟩ := own_sl HMI.out.oc
        obtain ⟨As, cs', hsv⟩ := own_sl HMI.out.os
        obtain ⟨Ae, ce, hdv⟩ := own_sl HMI.out.od
        subst hcv hsv hdv
        have hl3 : cs.length ≤ 16777216 ∧ ss.length ≤ 16777216 ∧ ds.length ≤ 16777216 := by
          have h1 := HLs.out
          have h2 := sumL_le data i
          have h3 := HS.out
          omega
        obtain ⟨q0, q1, q2, q3, q4⟩ := five HMI.out.box
        have HXm : Aside (ManV wo (lo ≤ ·) (.agg #[.int .i64 x0, .int .i64 x1, .slice Ac cs.length cc, .slice As ss.length cs', .slice Ae ds.length ce]) ⟨x0, x1, cs, ss, ds⟩) := ⟨_, _, _, rfl, (own_ints HMI.out.oc).sl, (own_infos HMI.out.os).sl, (own_ints HMI.out.od).sl⟩
        have hcall := refEncode_any HXm.out hl3.1 hl3.2.1 hl3.2.2
        have HB6 := Aside.mk (HLo.out wo HMI.out.bel)
        have HYes : Aside (mayF ⟨x0, x1, cs, ss, ds⟩ = true → headM ⟨x0, x1, cs, ss, ds⟩ = head → dataM ⟨x0, x1, cs, ss, ds⟩ = data → decM head data = some ⟨x0, x1, cs, ss, ds⟩) := ⟨fun h1 h2 h3 => decM_iff.2 ⟨h1, h2, h3⟩⟩
        have HNo : Aside (¬ (mayF ⟨x0, x1, cs, ss, ds⟩ = true ∧ headM ⟨x0, x1, cs, ss, ds⟩ = head ∧ dataM ⟨x0, x1, cs, ss, ds⟩ = data) → decM head data = none) := ⟨fun h => by
          cases hd : decM head data with
          | none => rfl
          | some m =>
            obtain ⟨h1, h2, h3⟩ := decM_iff.1 hd
            have e := refin_all HRe.out h1 h2 h3
            rw [← HX0.out, ← HX1.out] at e
            exact absurd (e ▸ ⟨h1, h2, h3⟩) h⟩
        clear HRf HI HLs hl3 hie hi
        go_wp2_with fail
        refine hcall.mono ?_
        clear hcall HXm q0 q1 q2 q3 q4
        rintro e w7 ⟨hy, hn, B7⟩
        have HB7 := Aside.mk (bthen HB6.out.1 HB6.out.1.size B7)
        have HR7 : Aside (BoxAt w7 w.heap.size) := ⟨bblk B7 HB6.out.2⟩
        have HM7 := Aside.mk (HMI.out.below B7)
        clear HB6 HMI
        generalize hMn : (⟨x0, x1, cs, ss, ds⟩ : Man) = Mn at *
        cases hm : mayF Mn with
        | false =>
          have e1 := hn hm
          subst e1
          have HP := Aside.mk (dec_no (HNo.out (fun h => absurd (hm.symm.trans h.1) (by decide))) (st5_below (a := .int .i64 0) (b := .int .i64 0) (c := .slice none 0 0) (d := .slice none 0 0) (e := .slice none 0 0) HB7.out (Nat.le_refl _)))
          obtain ⟨k0, k1, k2, k3, k4⟩ := five HR7.out
          obtain ⟨f0, f1, f2, f3, f4⟩ := frz5 HR7.out
          clear hy hn HH HD HS hm HYes HNo
          go_wp2_with fail
          exact bodyPost_ret (results_row_tmp rfl _ _ _ _ _ _ _ (by rfl) (st5_row HR7.out) Tryz.underlying33 rfl (by kernel_rfl) (by rfl)) rfl HP.out
        | true =>
          obtain ⟨hv2, dv2, vs, e1, ho, hbl⟩ := hy hm
          subst e1
          have HMay := Aside.mk hm
          have hq := Aside.mk (SameBytes_any (own_u8s ho).sl (HH.out w7 HB7.out))
          have hq2 := Aside.mk (SameByteLists_any hbl.sl (HD.out w7 HB7.out))
          obtain ⟨A4, m4, c4, rfl⟩ := own_slice ho
          obtain ⟨A5, m5, c5, rfl⟩ := own_slice hbl.own
          obtain ⟨bb, hbb⟩ : ∃ bb, bb = eqB (headM Mn) head := ⟨_, rfl⟩
          rw [← hbb] at hq
          have HBB := Aside.mk hbb
          clear hbb hy hn hm ho hbl HH HD HS
          go_wp2_with fail
          refine hq.out.mono ?_
          rintro e w8 ⟨rfl, rfl⟩
          cases bb with
          | false =>
            have HP := Aside.mk (dec_no (HNo.out (fun h => by have h1 := HBB.out; rw [eqB_yes h.2.1] at h1; cases h1)) (st5_below (a := .int .i64 0) (b := .int .i64 0) (c := .slice none 0 0) (d := .slice none 0 0) (e := .slice none 0 0) HB7.out (Nat.le_refl _)))
            obtain ⟨k0, k1, k2, k3, k4⟩ := five HR7.out
            obtain ⟨f0, f1, f2, f3, f4⟩ := frz5 HR7.out
            clear HYes HNo hq hq2
            go_wp2_with fail
            exact bodyPost_ret (results_row_tmp rfl _ _ _ _ _ _ _ (by rfl) (st5_row HR7.out) Tryz.underlying33 rfl (by kernel_rfl) (by rfl)) rfl HP.out
          | true =>
            obtain ⟨bc, hbc⟩ : ∃ bc, bc = eqB (dataM Mn) data := ⟨_, rfl⟩
            rw [← hbc] at hq2
            have HBC := Aside.mk hbc
            clear hbc hq
            go_wp2_with fail
            refine hq2.out.mono ?_
            rintro e w9 ⟨rfl, S9⟩
            have HB9 := Aside.mk (bthen HB7.out HB7.out.size (S9.below _))
            have HR9 : Aside (BoxAt w9 w.heap.size) := ⟨bblk (S9.below _) HR7.out⟩
            have HM9 := Aside.mk (HM7.out.below (S9.below _))
            clear S9 hq2 HB7 HR7 HM7
            cases bc with
            | false =>
              have HP := Aside.mk (dec_no (HNo.out (fun h => by have h1 := HBC.out; rw [eqB_yes h.2.2] at h1; cases h1)) (st5_below (a := .int .i64 0) (b := .int .i64 0) (c := .slice none 0 0) (d := .slice none 0 0) (e := .slice none 0 0) HB9.out (Nat.le_refl _)))
              obtain ⟨k0, k1, k2, k3, k4⟩ := five HR9.out
              obtain ⟨f0, f1, f2, f3, f4⟩ := frz5 HR9.out
              clear HYes HNo
              go_wp2_with fail
              exact bodyPost_ret (results_row_tmp rfl _ _ _ _ _ _ _ (by rfl) (st5_row HR9.out) Tryz.underlying33 rfl (by kernel_rfl) (by rfl)) rfl HP.out
            | true =>
              have HY := Aside.mk (HYes.out HMay.out (eqB_iff.1 HBB.out.symm) (eqB_iff.1 HBC.out.symm))
              have HP : Aside (DecPost w head data (.returned (.tuple #[.agg #[.int .i64 x0, .int .i64 x1, .slice Ac cs.length cc, .slice As ss.length cs', .slice Ae ds.length ce], .int .i64 0])) (st5 w9 w.heap.size (.int .i64 x0) (.int .i64 x1) (.slice Ac cs.length cc) (.slice As ss.length cs') (.slice Ae ds.length ce))) := ⟨⟨(fun m e => by
                rw [HY.out] at e
                cases e
                rw [← hMn]
                exact ⟨_, rfl, HM9.out.om (Nat.le_of_lt HRl.out) HRl.out rfl⟩), (fun e => by rw [HY.out] at e; cases e), st5_below HB9.out (Nat.le_refl _)⟩⟩
              obtain ⟨k0, k1, k2, k3, k4⟩ := five HR9.out
              obtain ⟨f0, f1, f2, f3, f4⟩ := frz5 HR9.out
              obtain ⟨q0, q1, q2, q3, q4⟩ := five HM9.out.box
              have hRM : w.heap.size ≠ M := by have := HRl.out; have := HM9.out.low; omega
              clear HYes HNo hMn
              go_wp2_with fail
              exact bodyPost_ret (results_row_tmp rfl _ _ _ _ _ _ _ (by rfl) (st5_row HR9.out) Tryz.underlying33 rfl (by kernel_rfl) (by rfl)) rfl HP.out
  · have hl1 : ((head.length : Int) != 12) = true := by simp; omega
    have HP := Aside.mk (dec_no (dec_short (head := head) (data := data) (fun h => h12 h.1)) HBa.out)
    clear h12 HH HD HS
    go_enter Tryz.func58, Tryz.ntmps58
    go_wp2_with fail
    exact bodyPost_ret (results_row_tmp rfl _ _ _ _ _ _ _ (by rfl) HRa.out Tryz.underlying33 rfl (by kernel_rfl) (by rfl)) rfl HP.out
end Go.Proofs.YtgbladpoglhleaaGreatDoor
