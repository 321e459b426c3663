/- The law NestBack walked: true at every input whose lists of bytes are of at most 1048576. -/
import Derived.Test.YtikgdhmnnnicmaaDe
import Derived.Test.Ytikgdhmnnnicmaa5
namespace Go.Proofs.Ytikgdhmnnnicmaa
open Go.RowKit
theorem decF_len (data : List (List UInt8)) : (decF data).length ≤ (data.map fun b => b.length + 1).sum := by
  induction data with
  | nil => simp [decF]
  | cons b data ih =>
    simp only [decF, List.flatMap_cons, List.length_append, List.map_cons, List.sum_cons, decB_length] at ih ⊢
    omega
set_option maxHeartbeats 8000000 in
set_option maxRecDepth 100000 in
theorem NestBack_any {w : World} {v hv dv : Value} {gen n m : Int} {nodes : List Node} {head : List UInt8} {data : List (List UInt8)} (hs : Sl knode w (fun _ => True) v nodes) (hh : Sl kbyte w (fun _ => True) hv head) (hd : Sl (kslice kbyte) w (fun _ => True) dv data) (_hlh : head.length ≤ 1048576) (hld0 : (data.map fun b => b.length + 1).sum ≤ 1048576) :
    Calls Try.prog 9 #[.int .i64 gen, .int .i64 n, v, .int .i64 m, hv, dv] w (LawPost w) := by
  have hld : (decF data).length ≤ 16777216 := by have := decF_len data; omega
  clear hld0
  obtain ⟨A, c, rfl, hc, hm⟩ := hs.slice
  obtain ⟨Ah, ch, rfl, hch, hmh⟩ := hh.slice
  obtain ⟨Ad, cd, rfl, hcd, hmd⟩ := hd.slice
  have HS := Aside.mk hs
  have HH := Aside.mk hh
  have HD := Aside.mk hd
  have HLD := Aside.mk hld
  clear hs hh hd hld
  go_enter Try.func9, Try.ntmps9
  go_wp2_with fail
  refine (first_any w).mono ?_
  rintro e w1 ⟨rfl, B1⟩
  have HB1 := Aside.mk B1
  clear B1
  by_cases hl : nodes.length ≤ 16384
  · have d1 : decide (16384 < (nodes.length : Int)) = false := by simp; omega
    by_cases hl2 : data.length ≤ 16384
    · have d2 : decide (16384 < (data.length : Int)) = false := by simp; omega
      have hl24 : nodes.length ≤ 16777216 := by omega
      have HEn := Aside.mk (pencode_any gen n (HS.out.below HB1.out) hl24)
      have HL24 := Aside.mk hl24
      clear hl hl2 hl24
      go_wp2_with fail
      refine HEn.out.mono ?_
      clear HEn
      rintro e w2 ⟨E1, E2, B2⟩
      have HB2 := Aside.mk (bthen HB1.out HB1.out.size B2)
      clear B2
      cases hE : encOk gen n nodes with
      | false =>
        obtain rfl := E2 hE
        clear E1 E2 hE HB1
        go_wp2_with fail
        refine (num_any 220 w2).mono ?_
        rintro e w3 ⟨rfl, rfl⟩
        go_wp2_with fail
        refine (num_any 220 w2).mono ?_
        rintro e w3 ⟨rfl, rfl⟩
        have HBx := HB2
        clear HB2
        go_wp2_with fail
        refine (pdecode_any gen m (HH.out.below HBx.out) (HD.out.below HBx.out) HLD.out).mono ?_
        rintro e wa ⟨D1, D2, BD⟩
        have HBa := Aside.mk (bthen HBx.out HBx.out.size BD)
        clear BD
        cases hEd : decOk gen m head data with
        | false =>
          obtain rfl := D2 hEd
          clear D1 D2 hEd HBx
          go_wp2_with fail
          refine (num_any 90 wa).mono ?_
          rintro e wb ⟨rfl, rfl⟩
          go_wp2_with fail
          refine (num_any 90 wa).mono ?_
          rintro e wb ⟨rfl, rfl⟩
          go_wp2
          go_ret
          exact ⟨rfl, HBa.out⟩
        | true =>
          obtain ⟨vd, rfl, hod⟩ := D1 hEd
          obtain ⟨x1, x2, x3⟩ := decOk_all hEd
          have HX1 := Aside.mk x1
          have HX2 := Aside.mk x2
          have HX3 := Aside.mk x3
          have HE9 := Aside.mk (pencode_any gen m (own_nodes hod).sl HLD.out)
          obtain ⟨A8, m8, c8, rfl⟩ := own_slice hod
          clear D1 D2 hEd HBx x1 x2 x3 hod
          go_wp2_with fail
          refine (num_any 0 wa).mono ?_
          rintro e wb ⟨rfl, rfl⟩
          go_wp2_with fail
          refine HE9.out.mono ?_
          rintro e wc ⟨E1, E2, BE⟩
          obtain ⟨hv9, dv9, vs9, rfl, ho9, hbl9⟩ := E1 HX1.out
          have HBc := Aside.mk (bthen HBa.out HBa.out.size BE)
          have hq := SameBytes_any (own_u8s ho9).sl (HH.out.below HBc.out)
          rw [eqB_yes HX2.out] at hq
          have HQ2 := Aside.mk (SameByteLists_any hbl9.sl (HD.out.below HBc.out))
          obtain ⟨A6, m6, c6, rfl⟩ := own_slice ho9
          obtain ⟨A7, m7, c7, rfl⟩ := own_slice hbl9.own
          clear E1 E2 BE ho9 hbl9 HE9 HBa
          go_wp2_with fail
          refine hq.mono ?_
          clear hq
          rintro e wd ⟨rfl, rfl⟩
          have hq := HQ2.out
          rw [eqB_yes HX3.out] at hq
          clear HQ2
          go_wp2_with fail
          refine hq.mono ?_
          clear hq
          rintro e we ⟨rfl, S9⟩
          have HBe := Aside.mk (bthen HBc.out HBc.out.size (S9.below _))
          clear S9 HBc
          go_wp2_with fail
          refine (num_any 0 we).mono ?_
          rintro e wf ⟨rfl, rfl⟩
          go_wp2
          go_ret
          exact ⟨rfl, HBe.out⟩
      | true =>
        obtain ⟨hv1, dv1, vs1, rfl, ho1, hbl1⟩ := E1 hE
        have hdf := decF_dataF HL24.out hE
        have HAh := Aside.mk (own_u8s ho1).sl
        have HAd := Aside.mk hbl1.sl
        have hlen : (decF (dataF nodes)).length ≤ 16777216 := by rw [hdf]; exact HL24.out
        have HDf := Aside.mk hdf
        have HLen := Aside.mk hlen
        have HOk := Aside.mk (back_ok HL24.out hE)
        have HNo1 := Aside.mk (back_no (gen' := gen + 1) (n' := n) HL24.out hE (by omega))
        have HNo2 := Aside.mk (back_no (gen' := gen) (n' := n + 1) HL24.out hE (by omega))
        have hrg : (1 ≤ gen ∧ gen ≤ 2147483647) ∧ 0 ≤ n ∧ n ≤ 16777216 := by
          unfold encOk at hE
          simp only [Bool.and_eq_true, decide_eq_true_eq] at hE
          omega
        obtain ⟨⟨g1, g2⟩, g3, g4⟩ := hrg
        obtain ⟨A4, c4, rfl⟩ : ∃ A c, hv1 = .slice A 12 c := by
          obtain ⟨A, c, e, _⟩ := (own_u8s ho1).sl.slice
          exact ⟨A, c, by rw [e, head_len]⟩
        obtain ⟨A5, m5, c5, rfl⟩ := own_slice hbl1.own
        clear E1 E2 hE HB1 ho1 hbl1 hdf hlen
        go_wp2_with fail
        refine (num_any 0 w2).mono ?_
        rintro e w3 ⟨rfl, rfl⟩
        go_wp2_with fail
        refine (pdecode_any gen n HAh.out HAd.out HLen.out).mono ?_
        rintro e w3 ⟨D1, _, B3⟩
        obtain ⟨v3, rfl, ho3⟩ := D1 HOk.out
        have HB3 := Aside.mk (bthen HB2.out HB2.out.size B3)
        have HAh3 := Aside.mk (HAh.out.below B3)
        have HAd3 := Aside.mk (HAd.out.below B3)
        have hq := SameNodes_any (own_nodes ho3).sl (HS.out.below HB3.out)
        rw [eqB_yes HDf.out] at hq
        obtain ⟨A6, m6, c6, rfl⟩ := own_slice ho3
        clear D1 B3 ho3 HB2 HAh HAd
        go_wp2_with fail
        refine hq.mono ?_
        clear hq
        rintro e w4 ⟨rfl, S4⟩
        have B4 := S4.below w3.heap.size
        have HB4 := Aside.mk (bthen HB3.out HB3.out.size B4)
        have HAh4 := Aside.mk (HAh3.out.below B4)
        have HAd4 := Aside.mk (HAd3.out.below B4)
        clear S4 B4 HB3 HAh3 HAd3
        go_wp2_with fail
        refine (pdecode_any (gen + 1) n HAh4.out HAd4.out HLen.out).mono ?_
        rintro e w5 ⟨_, D2, B5⟩
        obtain rfl := D2 HNo1.out
        have HB5 := Aside.mk (bthen HB4.out HB4.out.size B5)
        have HAh5 := Aside.mk (HAh4.out.below B5)
        have HAd5 := Aside.mk (HAd4.out.below B5)
        clear D2 B5 HB4 HAh4 HAd4
        go_wp2_with fail
        refine (pdecode_any gen (n + 1) HAh5.out HAd5.out HLen.out).mono ?_
        rintro e w6 ⟨_, D2, B6⟩
        obtain rfl := D2 HNo2.out
        have HBx := Aside.mk (bthen HB5.out HB5.out.size B6)
        clear D2 B6 HB5 HAh5 HAd5
        go_wp2_with fail
        refine (num_any 0 w6).mono ?_
        rintro e w7 ⟨rfl, rfl⟩
        go_wp2_with fail
        refine (num_any 90 w6).mono ?_
        rintro e w7 ⟨rfl, rfl⟩
        go_wp2_with fail
        refine (num_any 90 w6).mono ?_
        rintro e w7 ⟨rfl, rfl⟩
        go_wp2_with fail
        refine (pdecode_any gen m (HH.out.below HBx.out) (HD.out.below HBx.out) HLD.out).mono ?_
        rintro e wa ⟨D1, D2, BD⟩
        have HBa := Aside.mk (bthen HBx.out HBx.out.size BD)
        clear BD
        cases hEd : decOk gen m head data with
        | false =>
          obtain rfl := D2 hEd
          clear D1 D2 hEd HBx
          go_wp2_with fail
          refine (num_any 90 wa).mono ?_
          rintro e wb ⟨rfl, rfl⟩
          go_wp2_with fail
          refine (num_any 90 wa).mono ?_
          rintro e wb ⟨rfl, rfl⟩
          go_wp2
          go_ret
          exact ⟨rfl, HBa.out⟩
        | true =>
          obtain ⟨vd, rfl, hod⟩ := D1 hEd
          obtain ⟨x1, x2, x3⟩ := decOk_all hEd
          have HX1 := Aside.mk x1
          have HX2 := Aside.mk x2
          have HX3 := Aside.mk x3
          have HE9 := Aside.mk (pencode_any gen m (own_nodes hod).sl HLD.out)
          obtain ⟨A8, m8, c8, rfl⟩ := own_slice hod
          clear D1 D2 hEd HBx x1 x2 x3 hod
          go_wp2_with fail
          refine (num_any 0 wa).mono ?_
          rintro e wb ⟨rfl, rfl⟩
          go_wp2_with fail
          refine HE9.out.mono ?_
          rintro e wc ⟨E1, E2, BE⟩
          obtain ⟨hv9, dv9, vs9, rfl, ho9, hbl9⟩ := E1 HX1.out
          have HBc := Aside.mk (bthen HBa.out HBa.out.size BE)
          have hq := SameBytes_any (own_u8s ho9).sl (HH.out.below HBc.out)
          rw [eqB_yes HX2.out] at hq
          have HQ2 := Aside.mk (SameByteLists_any hbl9.sl (HD.out.below HBc.out))
          obtain ⟨A6, m6, c6, rfl⟩ := own_slice ho9
          obtain ⟨A7, m7, c7, rfl⟩ := own_slice hbl9.own
          clear E1 E2 BE ho9 hbl9 HE9 HBa
          go_wp2_with fail
          refine hq.mono ?_
          clear hq
          rintro e wd ⟨rfl, rfl⟩
          have hq := HQ2.out
          rw [eqB_yes HX3.out] at hq
          clear HQ2
          go_wp2_with fail
          refine hq.mono ?_
          clear hq
          rintro e we ⟨rfl, S9⟩
          have HBe := Aside.mk (bthen HBc.out HBc.out.size (S9.below _))
          clear S9 HBc
          go_wp2_with fail
          refine (num_any 0 we).mono ?_
          rintro e wf ⟨rfl, rfl⟩
          go_wp2
          go_ret
          exact ⟨rfl, HBe.out⟩
    · have d2 : decide (16384 < (data.length : Int)) = true := by simp; omega
      go_wp2_with fail
      go_ret
      exact ⟨rfl, HB1.out⟩
  · have d1 : decide (16384 < (nodes.length : Int)) = true := by simp; omega
    go_wp2_with fail
    go_ret
    exact ⟨rfl, HB1.out⟩
end Go.Proofs.Ytikgdhmnnnicmaa
