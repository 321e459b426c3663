/- The reference's Decode walked. Its condition: the nodes that the payloads say are at most 16777216. -/
import Derived.Test.YtikgdhmnnnicmaaRn
import Derived.Test.YtikgdhmnnnicmaaDe
namespace Go.Proofs.Ytikgdhmnnnicmaa
open Go.RowKit Go.Shelf Go
theorem row_le {data : List (List UInt8)} {i : Nat} (hi : i < data.length) : data[i].length / 16 ≤ (decF data).length := by
  have h := decP_len data i (data[i].length / 16)
  unfold decP at h
  rw [List.getD_eq_getElem?_getD, List.getElem?_eq_getElem hi, Option.getD_some, List.length_append, List.length_take, decB_length] at h
  omega
theorem refNumber_at {w : World} {ok : Nat → Prop} {v : Value} {bs : List UInt8} (i : Nat) (z : Int) (hz : z = (i : Int)) (hs : Sl kbyte w ok v bs) (hi : i + 4 ≤ bs.length) (hb : bs.length ≤ 1099511627776) (m : Nat) :
    Calls Try.prog 57 #[v, .int .i64 z] (w.drewN m) fun e w' => e = .returned (.int .i64 (numAt bs i)) ∧ ∃ m, w' = w.drewN m := by
  subst hz
  refine (refNumber_any (w := w.drewN m) i (hs.move fun _ _ => rfl) hi hb).mono ?_
  rintro e w' ⟨h1, k, rfl⟩
  exact ⟨h1, m + k, by rw [World.drewN_drewN]⟩
set_option maxHeartbeats 8000000 in
set_option maxRecDepth 100000 in
theorem refDecode_any {w : World} {ok ok2 : Nat → Prop} {hv v : Value} {head : List UInt8} {data : List (List UInt8)} (gen n : Int) (hh : Sl kbyte w ok hv head) (hs : Sl (kslice kbyte) w ok2 v data) (hl : (decF data).length ≤ 16777216) :
    Calls Try.prog 32 #[.int .i64 gen, .int .i64 n, hv, v] w (DecPost w gen n head data) := by
  obtain ⟨A, c, rfl, hc, hm⟩ := hs.slice
  obtain ⟨Ah, ch, rfl, hch, hmh⟩ := hh.slice
  have HS := Aside.mk hs.bound
  have HH := Aside.mk hh
  have HLen : Aside (∀ i j, (decP data i j).length ≤ 16777216) := ⟨fun i j => Nat.le_trans (decP_len data i j) hl⟩
  have HL := Aside.mk hl
  clear hs hh hl
  have HR0 : Aside (w.ownsRow w.heap.size 42 4 (.slice none 0 0) (decP data 0 0).length (nodeCells (decP data 0 0))) := ⟨by rw [decP_zero]; exact World.ownsRow_nil _ _ _ _⟩
  have HB0 := Aside.mk (Below.refl w.heap.size w)
  go_enter Try.func32, Try.ntmps32
  go_wp2
  go_loopg [10, 11] data.length (fun kq v10 v11 wr => ∃ (i : Nat), Aside (i + kq = data.length) ∧ v11 = .int .i64 i ∧ Aside (Below w.heap.size w wr) ∧ Aside (wr.ownsRow w.heap.size 42 4 v10 (decP data i 0).length (nodeCells (decP data i 0))))
  case atStart => exact ⟨0, ⟨by omega⟩, rfl, HB0, HR0⟩
  case round =>
    clear HR0 HB0
    obtain ⟨i, HI, rfl, HB, HR⟩ := hrel
    by_cases hi : i < data.length
    · have HM : Aside (data.length - (i + 1) < gk) := ⟨by have := HI.out; omega⟩
      have HRow := Aside.mk (decP_row hi)
      have HNx := Aside.mk (fun j => decP_next (j := j) hi)
      have HBs : Aside (data[i].length ≤ 1099511627776) := ⟨by have := row_le hi; have := HL.out; omega⟩
      obtain ⟨b, o, bv, e, -⟩ := (HS.out.below HB.out).row i hi
      cases e
      have HCell : Aside (∀ W, Below w.heap.size w W → ∃ A2 c2, W.cell? ⟨b, o + i, none⟩ = some (.slice A2 data[i].length c2) ∧ Sl kbyte W (fun k => ok2 k ∧ k < w.heap.size) (.slice A2 data[i].length c2) data[i]) := ⟨fun W hW => by
        obtain ⟨b', o', v', e, h1, h2⟩ := (HS.out.below hW).row i hi
        cases e
        obtain ⟨A2, c2, rfl, _⟩ := h2.slice
        exact ⟨A2, c2, h1, h2⟩⟩
      generalize data[i] = bs at *
      go_wp2
      go_loopg [10, 12] (bs.length / 16) (fun kq v10 v12 wr2 => ∃ (k t : Nat), Aside (k = 16 * t) ∧ Aside (t + kq = bs.length / 16) ∧ v12 = .int .i64 k ∧ Aside (Below w.heap.size w wr2) ∧ Aside (wr2.ownsRow w.heap.size 42 4 v10 (decP data i t).length (nodeCells (decP data i t))))
      case atStart => exact ⟨0, 0, ⟨rfl⟩, ⟨by omega⟩, rfl, HB, HR⟩
      case round =>
        clear HB HR
        obtain ⟨k, t, HK, HT, rfl, HB, HR⟩ := hrel
        obtain ⟨A10, m10, c10, rfl⟩ := own_slice HR.out
        obtain ⟨A2, c2, k0, s2⟩ := HCell.out wr HB.out
        have HS2 := Aside.mk s2
        clear s2
        have hbl : bs.length ≤ 1099511627776 := HBs.out
        have hkb : k ≤ 1099511627776 := by have := HK.out; have := HT.out; omega
        by_cases h16 : k + 16 ≤ bs.length
        · have HX : Aside (decP data i (t + 1) = decP data i t ++ [nodeAt bs (16 * t)]) := ⟨HNx.out t (by have := HK.out; omega)⟩
          have HTM : Aside (bs.length / 16 - (t + 1) < gk) := ⟨by have := HT.out; have := HK.out; omega⟩
          have hle : (decP data i t).length ≤ 16777216 := HLen.out i t
          obtain ⟨g, hg⟩ : ∃ g : Int → Int, ∀ z, g z = numAt bs z.toNat := ⟨_, fun _ => rfl⟩
          have HC : Aside (∀ (z : Int) (m : Nat), 0 ≤ z ∧ z + 4 ≤ bs.length → Calls Try.prog 57 #[.slice A2 bs.length c2, .int .i64 z] (wr.drewN m) fun e w' => e = .returned (.int .i64 (g z)) ∧ ∃ m, w' = wr.drewN m) := ⟨fun z m hz => by
            rw [hg]
            exact refNumber_at z.toNat z (by omega) HS2.out (by omega) hbl m⟩
          have HNode : Aside (nodeAt bs (16 * t) = ⟨g k, g ((k : Int) + 4), g ((k : Int) + 8), g ((k : Int) + 12) - 1⟩) := ⟨by
            rw [hg, hg, hg, hg, ← HK.out, Int.toNat_natCast, show ((k : Int) + 4).toNat = k + 4 by omega, show ((k : Int) + 8).toNat = k + 8 by omega, show ((k : Int) + 12).toNat = k + 12 by omega]
            rfl⟩
          have hy : 0 ≤ g ((k : Int) + 12) ∧ g ((k : Int) + 12) ≤ 4294967295 := by rw [hg]; exact numAt_in _ _
          obtain ⟨y0, y1⟩ := hy
          clear hg
          go_wp2_with fail
          refine wp_region_quiet_tail 29 (by kernel_rfl) (by kernel_rfl) (fun _ _ _ h => h) (.inl ⟨rfl, fun _ => rfl⟩) ?_
          simp only [List.take_succ_cons, List.take_zero, List.drop_succ_cons, List.drop_zero]
          simp only [Act.put, List.setIfInBounds_toArray, List.set_cons_zero, List.set_cons_succ]
          repeat (go_big_quiet_step (exact HC.out _ _ (by omega)))
          refine wpQuiet_nil ?_
          intro _ hw'
          obtain ⟨nq, rfl⟩ := hw'
          have HRd := Aside.mk (show (wr.drewN nq).ownsRow w.heap.size 42 4 (.slice A10 m10 c10) (decP data i t).length (nodeCells (decP data i t)) from ownsRow_move HR.out fun _ _ => rfl)
          have HBd := Aside.mk (bdrew HB.out nq)
          clear HC HR HB k0 HS2
          generalize wr.drewN nq = wq at *
          generalize g (k : Int) = x0 at *
          generalize g ((k : Int) + 4) = x1 at *
          generalize g ((k : Int) + 8) = x2 at *
          generalize g ((k : Int) + 12) = x3 at *
          go_wp2_with (at_builtin; go_must (refine app_one w.heap.size rfl _ _ 30 42 _ 4 32 rfl Try.underlying30 Try.info42 rfl (by decide) (by decide) (.slice A10 m10 c10) (decP data i t).length _ [.int .i64 x0, .int .i64 x1, .int .i64 x2, .int .i64 (x3 - 1)] rfl rfl rfl (by simp [Value.oneCell']) HRd.out HBd.out.size (by omega) ?_; intro v1 w6 hown hg6 hat; have HB6 := Aside.mk (HBd.out.grown hg6 HBd.out.size fun q e => (HRd.out.lt q e).1); have HO6 := Aside.mk hown; clear hown hg6 hat))
          go_roundg (bs.length / 16 - (t + 1))
          case measure => exact HTM.out
          case rel => exact ⟨k + 16, t + 1, ⟨by have := HK.out; omega⟩, ⟨by have := HT.out; have := HTM.out; have := HK.out; omega⟩, by go_num, HB6, ⟨by rw [HX.out, HNode.out, nodeCells_snoc, List.length_append]; exact HO6.out⟩⟩
        · have HJe : Aside (decP data i t = decP data (i + 1) 0) := ⟨by rw [← HRow.out]; congr 1; have := HT.out; have := HK.out; omega⟩
          replace h16 : bs.length < k + 16 := by omega
          have f16 : decide ((k : Int) + 16 ≤ (bs.length : Int)) = false := decide_eq_false (by omega)
          rw [HJe.out] at HR
          clear HNx HRow HT HS2
          go_wp2
          go_roundg (data.length - (i + 1))
          case measure => exact HM.out
          case rel => exact ⟨i + 1, ⟨by have := HI.out; have := HM.out; omega⟩, by go_num, HB, HR⟩
    · have hie : decP data i 0 = decF data := by
        have : i = data.length := by have := HI.out; omega
        rw [this, decP_all]
      rw [hie] at HR
      replace hi : data.length ≤ i := by omega
      clear hie HLen HI
      obtain ⟨A1, m1, c1, rfl⟩ := own_slice HR.out
      go_wp2_with fail
      refine (refEncode_any gen n (own_nodes HR.out).sl HL.out).mono ?_
      rintro e w1 ⟨E1, E2, B1⟩
      have HB1 := Aside.mk (bthen HB.out HB.out.size B1)
      have HR1 := Aside.mk (ownsRow_move HR.out fun q e => B1.block q (HR.out.lt q e).2)
      have HH1 := Aside.mk (HH.out.below HB1.out)
      have HS1 := Aside.mk (HS.out.below HB1.out)
      clear B1 HR HB
      cases hE : encOk gen n (decF data) with
      | false =>
        obtain rfl := E2 hE
        have hq := SameBytes_any (Sl.nil kbyte w1 (fun _ => True)) HH1.out
        have HQ2 := Aside.mk (SameByteLists_any (Sl.nil (kslice kbyte) w1 (fun _ => True)) HS1.out)
        have hno : decOk gen n head data = false := by unfold decOk; rw [hE]; rfl
        have HNo := Aside.mk hno
        generalize eqB [] head = q1 at *
        generalize eqB [] data = q2 at *
        clear E1 E2 hE hno HH1 HS1 HH HS
        go_wp2_with fail
        refine hq.mono ?_
        clear hq
        rintro e w2 ⟨rfl, rfl⟩
        have hq := HQ2.out
        clear HQ2
        go_wp2_with fail
        refine hq.mono ?_
        clear hq
        rintro e w3 ⟨rfl, S3⟩
        have HP := Aside.mk (dec_no (gen := gen) (n := n) (head := head) (data := data) HNo.out (bthen HB1.out HB1.out.size (S3.below _)))
        clear S3 HB1 HR1
        go_wp2
        go_ret2
        exact HP.out
      | true =>
        obtain ⟨hv, dv, vs, rfl, ho, hbl⟩ := E1 hE
        have HE := Aside.mk hE
        have hq := SameBytes_any (own_u8s ho).sl HH1.out
        have HQ2 := Aside.mk (SameByteLists_any hbl.sl HS1.out)
        obtain ⟨A4, m4, c4, rfl⟩ := own_slice ho
        obtain ⟨A5, m5, c5, rfl⟩ := own_slice hbl.own
        clear E1 E2 hE ho hbl HH1 HS1 HH HS
        have HOk : Aside (decOk gen n head data = (eqB (headF gen n (decF data).length) head && eqB (dataF (decF data)) data)) := ⟨by unfold decOk; rw [HE.out]; rfl⟩
        generalize eqB (headF gen n (decF data).length) head = q1 at *
        generalize eqB (dataF (decF data)) data = q2 at *
        go_wp2_with fail
        refine hq.mono ?_
        clear hq
        rintro e w2 ⟨rfl, rfl⟩
        have hq := HQ2.out
        clear HQ2
        go_wp2_with fail
        refine hq.mono ?_
        clear hq
        rintro e w3 ⟨rfl, S3⟩
        have HB3 := Aside.mk (bthen HB1.out HB1.out.size (S3.below _))
        have HR3 := Aside.mk (ownsRow_move HR1.out fun q e => (S3.below _).block q (HR1.out.lt q e).2)
        clear S3 HB1 HR1
        cases q1 with
        | false =>
          have HP := Aside.mk (dec_no (gen := gen) (n := n) (head := head) (data := data) (by rw [HOk.out]; rfl) HB3.out)
          go_wp2
          go_ret2
          exact HP.out
        | true =>
          cases q2 with
          | false =>
            have HP := Aside.mk (dec_no (gen := gen) (n := n) (head := head) (data := data) (by rw [HOk.out]; rfl) HB3.out)
            go_wp2
            go_ret2
            exact HP.out
          | true =>
            have HP : Aside (DecPost w gen n head data (.returned (.tuple #[.slice A1 m1 c1, .int .i64 0])) w3) := ⟨fun _ => ⟨_, rfl, HR3.out⟩, fun e => absurd (HOk.out.symm.trans e) (by decide), HB3.out⟩
            go_wp2
            go_ret2
            exact HP.out
end Go.Proofs.Ytikgdhmnnnicmaa
