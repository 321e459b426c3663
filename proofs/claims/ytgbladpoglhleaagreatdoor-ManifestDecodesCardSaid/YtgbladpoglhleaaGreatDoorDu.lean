/- The law ManifestDecodes: true for every input. Condition: the program's tables read as they are laid. -/
import Derived.Test.YtgbladpoglhleaaGreatDoorDt
import Derived.Test.YtgbladpoglhleaaGreatDoorLa
namespace Go.Proofs.YtgbladpoglhleaaGreatDoor
open Go.RowKit Go.Shelf
theorem tabs_alloc {w : World} (T : Tabs w) (o : Obj) : Tabs (w.alloc o) :=
  ⟨var?_alloc T.crc, var?_alloc T.shapes, let ⟨b, off, h⟩ := T.err; ⟨b, off, var?_alloc h⟩⟩
theorem few_le' {m : Man} (h : fewB m = true) : m.Cuts.length ≤ 2000 ∧ m.Shards.length ≤ 2000 ∧ m.Degrees.length ≤ 5000 := by
  simpa [fewB, and_assoc] using h
theorem vI_len {d : Int} (h0 : 0 ≤ d) (h1 : d < 9223372036854775808) : (vI d).length ≤ 9 := by
  have h9 : (128 : Nat) ^ 9 = 9223372036854775808 := by decide
  have hv := vread_vform (x := d.toNat) (by omega) []
  exact (vread_le hv).2.2
theorem rowD_len : ∀ (c : List Int), (∀ d ∈ c, 0 ≤ d ∧ d < 9223372036854775808) → (rowD c).length ≤ 9 * c.length
  | [], _ => by simp [rowD]
  | d :: c, h => by
    have h1 := vI_len (h d List.mem_cons_self).1 (h d List.mem_cons_self).2
    have h2 := rowD_len c fun x hx => h x (List.mem_cons_of_mem _ hx)
    simp only [rowD, List.flatMap_cons, List.length_append, List.length_cons] at h2 ⊢
    omega
theorem dataD_sum (ds : List Int) (h : ∀ d ∈ ds, 0 ≤ d ∧ d < 9223372036854775808) : ∀ k, sumL ((List.range k).map fun j => rowD (chD ds j)) ≤ 9 * (ds.take (200 * k)).length
  | 0 => by simp [sumL]
  | k + 1 => by
    have ih := dataD_sum ds h k
    have h1 := rowD_len (chD ds k) fun d hd => h d (List.mem_of_mem_drop (List.mem_of_mem_take hd))
    rw [List.range_succ, List.map_append]
    rw [show 200 * (k + 1) = 200 * k + 200 by omega, List.take_add, List.length_append]
    simp only [sumL, List.map_append, List.sum_append, List.map_cons, List.map_nil, List.sum_cons, List.sum_nil] at ih ⊢
    have e : (chD ds k).length = ((ds.drop (200 * k)).take 200).length := rfl
    rw [e] at h1
    omega
theorem dataS_sum (m : Man) : ∀ k, sumL ((List.range k).map (rowS m)) ≤ 800 * k
  | 0 => by simp [sumL]
  | k + 1 => by
    have ih := dataS_sum m k
    have h1 : (rowS m k).length ≤ 800 := by unfold rowS; rw [segS_len]; omega
    rw [List.range_succ, List.map_append]
    simp only [sumL, List.map_append, List.sum_append, List.map_cons, List.map_nil, List.sum_cons, List.sum_nil] at ih ⊢
    omega
theorem dataM_sum {m : Man} (h : mayF m = true) (hd : m.Degrees.length ≤ 5000) : sumL (dataM m) ≤ 100000 ∧ (dataM m).length ≤ 1000 := by
  have hk := may_ok h
  have hns := hk.ns
  have h1 := dataS_sum m ((m.Shards.length + 49) / 50)
  have h2 := dataD_sum m.Degrees (fun d hd => by have := hk.deg d hd; have := hk.n; omega) (cnt m.Degrees.length)
  have h3 : sumL (dataM m) = sumL (dataS m) + sumL (dataD m.Degrees) := by unfold dataM sumL; rw [List.map_append, List.sum_append]
  have h4 : (m.Degrees.take (200 * cnt m.Degrees.length)).length ≤ 5000 := by rw [List.length_take]; omega
  have h5 : (dataM m).length = (m.Shards.length + 49) / 50 + cnt m.Degrees.length := by unfold dataM dataS dataD; simp
  have h6 : cnt m.Degrees.length ≤ 26 := by unfold cnt; omega
  unfold dataS at h3
  unfold dataD at h3
  omega
theorem sumL_bound : ∀ (data : List (List UInt8)), (∀ b ∈ data, b.length ≤ 4096) → sumL data ≤ 4096 * data.length
  | [], _ => by simp [sumL]
  | b :: l, h => by
    have ih := sumL_bound l fun x hx => h x (List.mem_cons_of_mem _ hx)
    have := h b List.mem_cons_self
    simp only [sumL, List.map_cons, List.sum_cons, List.length_cons] at ih ⊢
    omega
set_option maxHeartbeats 8000000 in
set_option maxRecDepth 100000 in
theorem ManifestDecodes_any {w : World} {ok : Nat → Prop} {hv dv mv lv : Value} {head : List UInt8} {data : List (List UInt8)} {m : Man} {l : List Edit} (T : Tabs w) (hh : Sl kbyte w ok hv head) (hd : Sl (kslice kbyte) w ok dv data) (hx : ManV w ok mv m) (he : Sl kedit w ok lv l) :
    Calls Tryz.prog 6 #[hv, dv, mv, lv] w fun e w' => e = .returned (.bool true) ∧ Below w.heap.size w w' := by
  have HX := Aside.mk hx
  obtain ⟨Ah, ch, rfl, hch, hmh⟩ := hh.slice
  obtain ⟨Ad, cd, rfl, hcd, hmd⟩ := hd.slice
  obtain ⟨Al, cl, rfl, hcl, hml⟩ := he.slice
  have HH : Aside (∀ W, Below w.heap.size w W → Sl kbyte W (fun k => ok k ∧ k < w.heap.size) (.slice Ah head.length ch) head) := ⟨fun W hW => hh.bound.move fun k hk => hW.block k hk.2⟩
  have HD : Aside (∀ W, Below w.heap.size w W → Sl (kslice kbyte) W (fun k => ok k ∧ k < w.heap.size) (.slice Ad data.length cd) data) := ⟨fun W hW => hd.bound.move fun k hk => hW.block k hk.2⟩
  have HE : Aside (∀ W, Below w.heap.size w W → Sl kedit W (fun k => ok k ∧ k < w.heap.size) (.slice Al l.length cl) l) := ⟨fun W hW => he.bound.move fun k hk => hW.block k hk.2⟩
  obtain ⟨a, b, c, rfl, h1, h2, h3⟩ := hx
  obtain ⟨Aa, ca, rfl, _⟩ := h1.slice
  obtain ⟨Ab, cb, rfl, _⟩ := h2.slice
  obtain ⟨Ac, cc, rfl, _⟩ := h3.slice
  clear h1 h2 h3 hh hd he
  have hb0 : Below w.heap.size w (w.alloc (.cells #[.int .i64 m.Gen, .int .i64 m.N, .slice Aa m.Cuts.length ca, .slice Ab m.Shards.length cb, .slice Ac m.Degrees.length cc] 33)) := (Below.refl _ w).alloc (Nat.le_refl _) _
  have hm0 := heap_alloc_new w (.cells #[.int .i64 m.Gen, .int .i64 m.N, .slice Aa m.Cuts.length ca, .slice Ab m.Shards.length cb, .slice Ac m.Degrees.length cc] 33)
  have hfirst := first_any (tabs_alloc T (.cells #[.int .i64 m.Gen, .int .i64 m.N, .slice Aa m.Cuts.length ca, .slice Ab m.Shards.length cb, .slice Ac m.Degrees.length cc] 33))
  have HB0 := Aside.mk hb0
  have HM0 := Aside.mk hm0
  clear T hb0 hm0
  go_enter Tryz.func6, Tryz.ntmps6
  go_wp2_with fail
  refine hfirst.mono ?_
  rintro e w1 ⟨rfl, B1⟩
  have HB1 := Aside.mk (bthen HB0.out HB0.out.size B1)
  have hm1 := bblk B1 HM0.out
  obtain ⟨k0, k1, k2, k3, k4⟩ := five hm1
  have HM1 := Aside.mk hm1
  have hfew := few_any (HX.out.below HB1.out)
  clear B1 hm1 hfirst HB0 HM0
  go_wp2_with fail
  refine hfew.mono ?_
  rintro e w2 ⟨rfl, B2⟩
  have HB2 := Aside.mk (bthen HB1.out HB1.out.size B2)
  have hm2 := bblk B2 HM1.out
  clear k0 k1 k2 k3 k4
  have HM2 := Aside.mk hm2
  clear B2 hm2 hfew HB1 HM1
  cases hq : fewB m with
  | false =>
    go_wp2
    go_ret
    exact ⟨rfl, HB2.out⟩
  | true =>
    obtain ⟨l1, l2, l3⟩ := few_le' hq
    by_cases hl1 : data.length ≤ 2000
    · have g1 : decide ((2000 : Int) < (data.length : Int)) = false := decide_eq_false (by omega)
      have g1' : decide (2000 < data.length) = false := decide_eq_false (by omega)
      by_cases hl2 : head.length ≤ 4096
      · have g2 : decide ((4096 : Int) < (head.length : Int)) = false := decide_eq_false (by omega)
        have g2' : decide (4096 < head.length) = false := decide_eq_false (by omega)
        go_wp2_with fail
        go_loopg [11] data.length (fun kq v11 wr => ∃ i : Nat, Aside (i + kq = data.length) ∧ v11 = .int .i64 i ∧ Aside (∀ b ∈ data.take i, b.length ≤ 4096) ∧ wr = w2)
        case atStart => exact ⟨0, ⟨by omega⟩, rfl, ⟨by simp⟩, rfl⟩
        case round =>
          obtain ⟨i, HI, rfl, HL, rfl⟩ := hrel
          by_cases hi : i < data.length
          · obtain ⟨bd, od, q1, e, hcb, s1⟩ := (HD.out wr HB2.out).row i hi
            cases e
            have hM : Aside (data.length - (i + 1) < gk ∧ i + 1 + (data.length - (i + 1)) = data.length) := ⟨by have := HI.out; omega⟩
            have hT := take_snoc hi
            have i0 : (0 : Int) ≤ (i : Int) := Int.natCast_nonneg _
            have i1 : (i : Int) < (data.length : Int) := by omega
            obtain ⟨Ax, cx, rfl, _⟩ := s1.slice
            by_cases hb : data[i].length ≤ 4096
            · have HL2 : Aside (∀ b ∈ data.take (i + 1), b.length ≤ 4096) := ⟨fun b hbm => by
                rw [hT] at hbm
                rcases List.mem_append.1 hbm with h | h
                · exact HL.out b h
                · rw [List.mem_singleton.1 h]; exact hb⟩
              have hb1 : decide ((4096 : Int) < (data[i].length : Int)) = false := decide_eq_false (by omega)
              clear hT HL s1
              generalize data[i].length = bl at *
              have hb2 : ¬ (4096 < bl) := by omega
              go_wp2_with fail
              go_roundg (data.length - (i + 1))
              case measure => exact hM.out.1
              case rel => exact ⟨i + 1, ⟨hM.out.2⟩, by go_num, HL2, rfl⟩
            · have hb1 : decide ((4096 : Int) < (data[i].length : Int)) = true := decide_eq_true (by omega)
              clear hT HL s1
              generalize data[i].length = bl at *
              have hb2 : 4096 < bl := by omega
              go_wp2_with fail
              go_ret
              exact ⟨rfl, HB2.out⟩
          · have hie : i = data.length := by have := HI.out; omega
            have HLa : Aside (∀ b ∈ data, b.length ≤ 4096) := ⟨fun b hb => HL.out b (by rw [hie, List.take_length]; exact hb)⟩
            have HSm : Aside (sumL data ≤ 8192000) := ⟨by have := sumL_bound data HLa.out; omega⟩
            have i1 : ¬ ((i : Int) < (data.length : Int)) := by omega
            have hcall := decodes_any (HH.out wr HB2.out) (HD.out wr HB2.out) (by have := HSm.out; omega) (by omega) (by omega)
            clear HI HL hi hie
            go_wp2_with fail
            refine hcall.mono ?_
            clear hcall
            rintro e w3 ⟨rfl, B3⟩
            have HB3 := Aside.mk (bthen HB2.out HB2.out.size B3)
            have hm3 := bblk B3 HM2.out
            obtain ⟨k0, k1, k2, k3, k4⟩ := five hm3
            have hcall := refEncode_any (HX.out.below HB3.out) (by omega) (by omega) (by omega)
            clear B3 hm3
            go_wp2_with fail
            refine hcall.mono ?_
            clear hcall k0 k1 k2 k3 k4
            rintro e w4 ⟨hy, hn, B4⟩
            have HB4 := Aside.mk (bthen HB3.out HB3.out.size B4)
            cases hmy : mayF m with
            | false =>
              have e1 := hn hmy
              subst e1
              clear hy hn
              go_wp2_with fail
              go_ret
              exact ⟨rfl, HB4.out⟩
            | true =>
              obtain ⟨hv2, dv2, vs, e1, ho, hbl⟩ := hy hmy
              subst e1
              have HSd := Aside.mk (dataM_sum hmy l3)
              have HHl := Aside.mk (headM_len m)
              have HO := Aside.mk (own_u8s ho).sl
              have HL4 := Aside.mk hbl.sl
              obtain ⟨A5, m5, c5, rfl⟩ := own_slice ho
              obtain ⟨A6, m6, c6, rfl⟩ := own_slice hbl.own
              have hcall := decodes_any HO.out HL4.out (by have := HSd.out.1; omega) (by have := HHl.out; omega) (by have := HSd.out.2; omega)
              clear hy hn ho hbl B4
              go_wp2_with fail
              refine hcall.mono ?_
              clear hcall
              rintro e w5 ⟨rfl, B5⟩
              have HB5 := Aside.mk (bthen HB4.out HB4.out.size B5)
              have hcall := edited_any ((HO.out.below B5).mono (ok' := fun _ => True) fun _ _ => trivial) ((HL4.out.below B5).mono (ok' := fun _ => True) fun _ _ => trivial) ((HE.out w5 HB5.out).mono (ok' := fun _ => True) fun _ _ => trivial) (by have := HSd.out.1; have := HHl.out; omega) (by have := HSd.out.2; omega)
              have HTb : Aside ((headM m).length + sumL (dataM m) ≤ 200000 ∧ (dataM m).length ≤ 1000) := ⟨by have := HSd.out; have := HHl.out; omega⟩
              go_wp2_with fail
              refine hcall.mono ?_
              clear hcall
              rintro e w6 ⟨hv3, dv3, head3, data3, rfl, hs3, hd3, hT3, hN3, B6⟩
              have HB6 := Aside.mk (bthen HB5.out HB5.out.size B6)
              have hcall := decodes_any hs3 hd3 (by have := HTb.out; omega) (by have := HTb.out; omega) (by have := HTb.out; omega)
              obtain ⟨A7, c7, rfl, _⟩ := hs3.slice
              obtain ⟨A8, c8, rfl, _⟩ := hd3.slice
              clear hs3 hd3 hT3 hN3 B6 B5
              go_wp2_with fail
              refine hcall.mono ?_
              clear hcall
              rintro e w7 ⟨rfl, B7⟩
              have HB7 := Aside.mk (bthen HB6.out HB6.out.size B7)
              go_wp2_with fail
              go_ret
              exact ⟨rfl, HB7.out⟩
      · have g2 : decide ((4096 : Int) < (head.length : Int)) = true := decide_eq_true (by omega)
        have g2' : decide (4096 < head.length) = true := decide_eq_true (by omega)
        have g2'' : 4096 < head.length := by omega
        go_wp2
        go_ret
        exact ⟨rfl, HB2.out⟩
    · have g1 : decide ((2000 : Int) < (data.length : Int)) = true := decide_eq_true (by omega)
      have g1' : decide (2000 < data.length) = true := decide_eq_true (by omega)
      have g1'' : 2000 < data.length := by omega
      go_wp2
      go_ret
      exact ⟨rfl, HB2.out⟩
end Go.Proofs.YtgbladpoglhleaaGreatDoor
