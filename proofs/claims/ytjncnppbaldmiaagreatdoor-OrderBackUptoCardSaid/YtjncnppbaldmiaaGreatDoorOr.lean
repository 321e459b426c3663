/- The law OrderBack: true, whatever comes in, if the payloads are few enough. Condition: the tables that the text lays, the payloads' bytes. -/
import Derived.Test.YtjncnppbaldmiaaGreatDoorOj
import Derived.Test.YtjncnppbaldmiaaGreatDoorLa
namespace Go.Proofs.YtjncnppbaldmiaaGreatDoor
open Go.RowKit Go.Shelf
theorem encO_sl {w w' : World} {gen : Int} {l : List Int} {e : Ending} (h : EncO w gen l e w') : ∃ hv dv, e = .returned (.tuple #[hv, dv, .int .i64 (encO gen l).2.2]) ∧ Sl kbyte w' (w.heap.size ≤ ·) hv (encO gen l).1 ∧ Sl (kslice kbyte) w' (w.heap.size ≤ ·) dv (encO gen l).2.1 ∧ Below w.heap.size w w' := by
  obtain ⟨h1, h2, h3⟩ := h
  unfold encO
  cases hm : ordB gen l with
  | true =>
    obtain ⟨hv, dv, vs, rfl, a, b⟩ := h1 hm
    exact ⟨hv, dv, rfl, (own_u8s a).sl, b.sl, h3⟩
  | false =>
    refine ⟨_, _, h2 hm, (own_u8s (xs := []) (World.ownsRow_nil w' w.heap.size 5 1)).sl, (BL.nil w' w.heap.size).sl, h3⟩
theorem encO_yes' {gen : Int} {l : List Int} (h : ordB gen l = true) : encO gen l = (headO gen l, dataD l, 0) := by unfold encO; rw [if_pos h]
theorem encO_no' {gen : Int} {l : List Int} (h : ordB gen l = false) : encO gen l = ([], [], 200) := by unfold encO; rw [if_neg (by rw [h]; decide)]
theorem decO_same {gen : Int} {l : List Int} (h : ordB gen l = true) : decO gen (l.length : Int) (headO gen l) (dataD l) = some l := decO_iff.2 ⟨h, rfl, rfl, rfl⟩
theorem frames_same {gen : Int} {l m : List Int} (h : ordB gen l = true) (h' : ordB gen m = true) : (eqB (headO gen l) (headO gen m) && eqB (dataD l) (dataD m)) = eqB l m := by
  by_cases e : l = m
  · subst e
    rw [eqB_yes rfl, eqB_yes rfl, eqB_yes rfl]; rfl
  · rw [eqB_no e, eqB_no (fun h2 => e (encO_inj h h' h2)), Bool.and_false]
theorem enc_small {gen : Int} {l : List Int} (h : ordB gen l = true) (hl : l.length ≤ 5000) : sumL (dataD l) ≤ 45000 ∧ (dataD l).length ≤ 26 := by
  obtain ⟨-, hp, -⟩ := ordB_parts h
  have h1 := dataD_sum l (fun d hd => by have := permB_nums hp d hd; omega) (cnt l.length)
  have h2 : (l.take (200 * cnt l.length)).length ≤ 5000 := by rw [List.length_take]; omega
  refine ⟨?_, by unfold dataD cnt; simp; omega⟩
  unfold dataD
  omega
theorem mayB {gen : Int} {l : List Int} (hl : l.length ≤ 5000) : ordB gen l = (decide (1 ≤ gen) && (decide (gen ≤ 2147483647) && permB l)) := by
  unfold ordB
  rw [decide_eq_true (show l.length ≤ 16777216 by omega), Bool.and_true]
  by_cases h1 : 1 ≤ gen
  · by_cases h2 : gen ≤ 2147483647
    · rw [decide_eq_true h1, decide_eq_true h2, decide_eq_true (And.intro h1 h2)]; rfl
    · rw [decide_eq_true h1, decide_eq_false h2, decide_eq_false (fun h => h2 h.2)]; rfl
  · rw [decide_eq_false h1, decide_eq_false (fun h => h1 h.1)]; rfl
set_option maxHeartbeats 16000000 in
set_option maxRecDepth 100000 in
theorem OrderBack_any {w : World} {ok : Nat → Prop} {lv mv hv dv : Value} {gen n : Int} {head : List UInt8} {data : List (List UInt8)} {l m : List Int} (T : Tabs w) (hs : Sl kint w ok lv l) (hm : Sl kint w ok mv m) (hh : Sl kbyte w ok hv head) (hd : Sl (kslice kbyte) w ok dv data) (hsum : sumL data ≤ 1073741824) :
    Calls Tryz.prog 5 #[.int .i64 gen, lv, mv, .int .i64 n, hv, dv] w fun e w' => e = .returned (.bool true) ∧ Below w.heap.size w w' := by
  obtain ⟨Ah, ch, rfl, hch, hmh⟩ := hh.slice
  obtain ⟨Ad, cd, rfl, hcd, hmd⟩ := hd.slice
  obtain ⟨Al, cl, rfl, hcl, hml⟩ := hs.slice
  obtain ⟨Am, cm, rfl, hcm, hmm⟩ := hm.slice
  have hfirst := first_any T
  have HH := Aside.mk hh
  have HD := Aside.mk hd
  have HL := Aside.mk hs
  have HM := Aside.mk hm
  have HS := Aside.mk hsum
  clear hh hd hs hm T hsum
  go_enter Tryz.func5, Tryz.ntmps5
  go_wp2_with fail
  refine hfirst.mono ?_
  rintro e w1 ⟨rfl, B1⟩
  have HB1 := Aside.mk B1
  clear B1 hfirst
  by_cases h1 : 5000 < l.length
  · have hd1 : decide ((5000 : Int) < (l.length : Int)) = true := decide_eq_true (by omega)
    go_wp2
    go_ret
    exact ⟨rfl, HB1.out⟩
  have hd1 : decide ((5000 : Int) < (l.length : Int)) = false := decide_eq_false (by omega)
  by_cases h2 : 5000 < m.length
  · have hd2 : decide ((5000 : Int) < (m.length : Int)) = true := decide_eq_true (by omega)
    go_wp2
    go_ret
    exact ⟨rfl, HB1.out⟩
  have hd2 : decide ((5000 : Int) < (m.length : Int)) = false := decide_eq_false (by omega)
  by_cases h3 : 5000 < data.length
  · have hd3 : decide ((5000 : Int) < (data.length : Int)) = true := decide_eq_true (by omega)
    go_wp2
    go_ret
    exact ⟨rfl, HB1.out⟩
  have hd3 : decide ((5000 : Int) < (data.length : Int)) = false := decide_eq_false (by omega)
  by_cases h4 : 5000 < n
  · have hd4 : decide ((5000 : Int) < n) = true := decide_eq_true (by omega)
    go_wp2
    go_ret
    exact ⟨rfl, HB1.out⟩
  have hd4 : decide ((5000 : Int) < n) = false := decide_eq_false (by omega)
  have HBd : Aside (l.length ≤ 5000 ∧ m.length ≤ 5000 ∧ n ≤ 5000) := ⟨by omega⟩
  clear h1 h2 h3 h4
  have hcall := encode_any (gen := gen) (HL.out.below HB1.out) (by have := HBd.out; omega)
  go_wp2_with fail
  clear hd1 hd2 hd3 hd4
  refine hcall.mono ?_
  clear hcall
  intro e w2 hp
  obtain ⟨ha, da, rfl, hsa, hda, B2⟩ := encO_sl hp
  have HB2 := Aside.mk (bthen HB1.out HB1.out.size B2)
  have HSa := Aside.mk hsa
  have HDa := Aside.mk hda
  clear hp hsa hda B2
  have hcall := encode_any (gen := gen) (HM.out.below HB2.out) (by have := HBd.out; omega)
  generalize hel : encO gen l = eL at *
  have HEL := Aside.mk hel
  clear hel
  obtain ⟨eL1, eL2, eL3⟩ := eL
  go_wp2_with fail
  refine hcall.mono ?_
  clear hcall
  intro e w3 hp
  obtain ⟨hc, dc, rfl, hsc, hdc, B3⟩ := encO_sl hp
  have HB3 := Aside.mk (bthen HB2.out HB2.out.size B3)
  have HSa3 := Aside.mk (HSa.out.below B3)
  have HDa3 := Aside.mk (HDa.out.below B3)
  have HSc := Aside.mk hsc
  have HDc := Aside.mk hdc
  generalize hem : encO gen m = eM at *
  have HEM := Aside.mk hem
  clear hem hp hsc hdc B3 HSa HDa
  obtain ⟨eM1, eM2, eM3⟩ := eM
  obtain ⟨ob, hob⟩ : ∃ ob, ob = ordB gen l := ⟨_, rfl⟩
  have HOb := Aside.mk hob
  have HMay : Aside (ob = (decide (1 ≤ gen) && (decide (gen ≤ 2147483647) && permB l))) := ⟨by rw [hob]; exact mayB HBd.out.1⟩
  have hperm := permutation_any (HL.out.below HB3.out) (by have := HBd.out; omega)
  clear hob
  go_upto_region 6 with (fail)
  go_cut [20] (fun v20 wx => v20 = .bool ob ∧ Aside (Below w3.heap.size w3 wx))
  case first =>
    by_cases g1 : 1 ≤ gen
    · have d1 : decide ((1 : Int) ≤ gen) = true := decide_eq_true g1
      by_cases g2 : gen ≤ 2147483647
      · have d2 : decide (gen ≤ (2147483647 : Int)) = true := decide_eq_true g2
        have HM2 : Aside (ob = permB l) := ⟨by rw [HMay.out, d1, d2]; rfl⟩
        generalize permB l = pb at *
        go_wp2_with fail
        refine hperm.mono ?_
        clear hperm
        rintro e w4 ⟨rfl, B4⟩
        have HB4 := Aside.mk B4
        clear B4
        go_wp2_with fail
        go_meet
        case rel => exact ⟨by rw [HM2.out], HB4⟩
      · have d2 : decide (gen ≤ (2147483647 : Int)) = false := decide_eq_false g2
        have HM2 : Aside (ob = false) := ⟨by rw [HMay.out, d1, d2]; rfl⟩
        clear hperm
        go_wp2_with fail
        go_meet
        case rel => exact ⟨by rw [HM2.out], ⟨Below.refl _ _⟩⟩
    · have d1 : decide ((1 : Int) ≤ gen) = false := decide_eq_false g1
      have HM2 : Aside (ob = false) := ⟨by rw [HMay.out, d1]; rfl⟩
      clear hperm
      go_wp2_with fail
      go_meet
      case rel => exact ⟨by rw [HM2.out], ⟨Below.refl _ _⟩⟩
  case rest =>
    obtain ⟨rfl, HC4⟩ := hcut
    obtain ⟨w4, hw4⟩ : ∃ w4, w4 = wc := ⟨_, rfl⟩
    subst hw4
    clear hperm
    have HB4 := Aside.mk (bthen HB3.out HB3.out.size HC4.out)
    have HSa4 := Aside.mk (HSa3.out.below HC4.out)
    have HDa4 := Aside.mk (HDa3.out.below HC4.out)
    have HSc4 := Aside.mk (HSc.out.below HC4.out)
    have HDc4 := Aside.mk (HDc.out.below HC4.out)
    clear HC4 HSa3 HDa3 HSc HDc HB2 HB3 HMay
    have hq3 : (eL3 == 0) = ob := by
      have h := HEL.out
      cases ob with
      | true => rw [encO_yes' HOb.out.symm] at h; cases h; rfl
      | false => rw [encO_no' HOb.out.symm] at h; cases h; rfl
    have hbb : (ob != ob) = false := by cases ob <;> rfl
    go_wp2_with fail
    refine (num_any eL3).mono ?_
    rintro e w5 ⟨rfl, hw5⟩
    subst hw5
    go_wp2_with fail
    refine (num_any eL3).mono ?_
    rintro e w6 ⟨rfl, hw6⟩
    subst hw6
    go_upto_if 84 with (fail)
    go_cut [] (fun wx => Aside (Below w.heap.size w wx))
    case first =>
      cases ob with
      | false =>
        go_wp2_with fail
        go_meet
        case rel => exact HB4
      | true =>
        have hE : eL1 = headO gen l ∧ eL2 = dataD l ∧ eL3 = 0 := by have h := HEL.out; rw [encO_yes' HOb.out.symm] at h; cases h; exact ⟨rfl, rfl, rfl⟩
        obtain ⟨rfl, rfl, rfl⟩ := hE
        have HSm := Aside.mk (enc_small HOb.out.symm HBd.out.1)
        have hcall := decode_any (gen := gen) (n := (l.length : Int)) HSa4.out HDa4.out (by have := HSm.out; omega)
        rw [decO_same HOb.out.symm] at hcall
        obtain ⟨A4, c4, rfl, _⟩ := HSa4.out.slice
        obtain ⟨A5, c5, rfl, _⟩ := HDa4.out.slice
        have h8 := headO_len gen l
        have H8 := Aside.mk h8
        clear h8
        go_wp2_with fail
        refine hcall.mono ?_
        clear hcall
        intro e w7 hp
        obtain ⟨hp1, -, B7⟩ := hp
        obtain ⟨v7, rfl, ho7⟩ := hp1 l rfl
        have HB7 := Aside.mk (bthen HB4.out HB4.out.size B7)
        have HSa7 := Aside.mk (HSa4.out.below B7)
        have HDa7 := Aside.mk (HDa4.out.below B7)
        have HSc7 := Aside.mk (HSc4.out.below B7)
        have HDc7 := Aside.mk (HDc4.out.below B7)
        have hcall := SameInts_any (own_ints ho7).sl (HL.out.below HB7.out)
        rw [eqB_yes rfl] at hcall
        obtain ⟨A7, c7, rfl⟩ := own_len ho7
        clear hp1 ho7 B7 HSa4 HDa4 HSc4 HDc4
        go_wp2_with fail
        refine hcall.mono ?_
        clear hcall
        rintro e w8 ⟨rfl, ⟨⟨q8, rfl⟩⟩⟩
        have B8 : Below w7.heap.size w7 (w7.drewN q8) := bdrew (Below.refl _ _) q8
        have HB8 := Aside.mk (bthen HB7.out HB7.out.size B8)
        have HSa8 := Aside.mk (HSa7.out.below B8)
        have HDa8 := Aside.mk (HDa7.out.below B8)
        have HSc8 := Aside.mk (HSc7.out.below B8)
        have HDc8 := Aside.mk (HDc7.out.below B8)
        clear B8 HSa7 HDa7 HSc7 HDc7 HB7
        generalize w7.drewN q8 = w9 at *
        obtain ⟨A6, c6, rfl, _⟩ := HSc8.out.slice
        obtain ⟨A7', c7', rfl, _⟩ := HDc8.out.slice
        have hsb := SameBytes_any HSa8.out HSc8.out
        have hsl := SameByteLists_any HDa8.out HDc8.out
        have HFr : Aside (ordB gen m = true → (eqB (headO gen l) eM1 && eqB (dataD l) eM2) = eqB l m) := ⟨fun h => by
          have he := HEM.out
          rw [encO_yes' h] at he
          cases he
          exact frames_same HOb.out.symm h⟩
        have HEb : Aside ((eM3 == 0) = ordB gen m) := ⟨by
          have he := HEM.out
          cases h : ordB gen m with
          | true => rw [encO_yes' h] at he; cases he; rfl
          | false => rw [encO_no' h] at he; cases he; rfl⟩
        generalize eqB (headO gen l) eM1 = f1 at *
        generalize eqB (dataD l) eM2 = f2 at *
        generalize ordB gen m = om at *
        go_wp2_with fail
        refine (num_any 0).mono ?_
        rintro e wa ⟨rfl, hwa⟩
        subst hwa
        go_upto_region 14 with (fail)
        go_cut [24] (fun v24 wx => v24 = .bool (f1 && f2) ∧ Aside (Below wa.heap.size wa wx))
        case first =>
          go_wp2_with fail
          refine hsb.mono ?_
          clear hsb
          rintro e wb ⟨rfl, hwb⟩
          subst hwb
          cases f1 with
          | false =>
            go_wp2_with fail
            go_meet
            case rel => exact ⟨rfl, ⟨Below.refl _ _⟩⟩
          | true =>
            go_wp2_with fail
            refine hsl.mono ?_
            clear hsl
            rintro e wc2 ⟨rfl, ⟨⟨qc, rfl⟩⟩⟩
            have Bc : Aside (Below wb.heap.size wb (wb.drewN qc)) := ⟨bdrew (Below.refl _ _) qc⟩
            go_wp2_with fail
            go_meet
            case rel => exact ⟨by cases f2 <;> rfl, Bc⟩
        case rest =>
          obtain ⟨rfl, HCd⟩ := hcut
          obtain ⟨wd, hwd⟩ : ∃ wd, wd = wc := ⟨_, rfl⟩
          subst hwd
          have HBdd := Aside.mk (bthen HB8.out HB8.out.size HCd.out)
          have hsi := SameInts_any (HL.out.below HBdd.out) (HM.out.below HBdd.out)
          have hem3 := HEb.out
          clear hsb hsl HCd HSa8 HDa8 HSc8 HDc8
          go_wp2_with fail
          refine (num_any eM3).mono ?_
          rintro e we ⟨rfl, hwe⟩
          subst hwe
          cases om with
          | false =>
            go_wp2_with fail
            go_meet
            case rel => exact HBdd
          | true =>
            have hfr := HFr.out rfl
            rw [hfr]
            generalize eqB l m = lm at *
            have hlm : (lm != lm) = false := by cases lm <;> rfl
            clear hfr
            go_wp2_with fail
            refine hsi.mono ?_
            clear hsi
            rintro e wf ⟨rfl, ⟨⟨qf, rfl⟩⟩⟩
            have HBf := Aside.mk (bthen HBdd.out HBdd.out.size (bdrew (Below.refl _ _) qf))
            go_wp2_with fail
            go_meet
            case rel => exact HBf
    case rest =>
      have HB5 := hcut
      obtain ⟨w7, hw7⟩ : ∃ w7, w7 = wc := ⟨_, rfl⟩
      subst hw7
      clear hcut HSa4 HDa4 HSc4 HDc4 HB4 HEL HEM hq3 hbb HOb
      have hcall := decode_any (gen := gen) (n := n) (HH.out.below HB5.out) (HD.out.below HB5.out) HS.out
      cases hdc : decO gen n head data with
      | none =>
        rw [hdc] at hcall
        clear hdc
        go_wp2_with fail
        refine hcall.mono ?_
        clear hcall
        intro e w8 hp
        obtain ⟨-, hp2, B8⟩ := hp
        obtain rfl := hp2 rfl
        have HB8 := Aside.mk (bthen HB5.out HB5.out.size B8)
        clear hp2 B8
        go_wp2_with fail
        refine (num_any 90).mono ?_
        rintro e w9 ⟨rfl, hw9⟩
        subst hw9
        go_wp2_with fail
        refine (num_any 90).mono ?_
        rintro e wa ⟨rfl, hwa⟩
        subst hwa
        go_wp2_with fail
        go_ret
        exact ⟨rfl, HB8.out⟩
      | some y =>
        rw [hdc] at hcall
        obtain ⟨y1, y2, y3, y4⟩ := decO_iff.1 hdc
        have HY := Aside.mk (And.intro y1 (And.intro y3 y4))
        have hyn : ((y.length : Int) == n) = true := by rw [y2]; exact beq_self_eq_true _
        have HYl : Aside (y.length ≤ 16777216) := ⟨(ordB_parts y1).2.2⟩
        clear hdc y1 y2 y3 y4
        go_wp2_with fail
        refine hcall.mono ?_
        clear hcall
        intro e w8 hp
        obtain ⟨hp1, -, B8⟩ := hp
        obtain ⟨v8, rfl, ho8⟩ := hp1 y rfl
        have HB8 := Aside.mk (bthen HB5.out HB5.out.size B8)
        obtain ⟨A8, c8, rfl⟩ := own_len ho8
        have hcall := encode_any (gen := gen) (own_ints ho8).sl (by have := HYl.out; omega)
        clear hp1 B8 ho8
        go_wp2_with fail
        refine (num_any 0).mono ?_
        rintro e w9 ⟨rfl, hw9⟩
        subst hw9
        go_wp2_with fail
        refine hcall.mono ?_
        clear hcall
        intro e wa hp
        obtain ⟨hx, dx, rfl, hsx, hdx, Ba⟩ := encO_sl hp
        rw [encO_yes' HY.out.1]
        rw [encO_yes' HY.out.1] at hsx hdx
        have HBa := Aside.mk (bthen HB8.out HB8.out.size Ba)
        have HDx := Aside.mk hdx
        have hsb := SameBytes_any hsx (HH.out.below HBa.out)
        rw [eqB_yes HY.out.2.1] at hsb
        obtain ⟨Ax, cx, rfl, _⟩ := hsx.slice
        obtain ⟨Ay, cy, rfl, _⟩ := hdx.slice
        clear hp hsx hdx Ba
        go_wp2_with fail
        refine (num_any 0).mono ?_
        rintro e wb ⟨rfl, hwb⟩
        subst hwb
        go_wp2_with fail
        refine hsb.mono ?_
        clear hsb
        rintro e wd ⟨rfl, hwd⟩
        subst hwd
        have hsl := SameByteLists_any HDx.out (HD.out.below HBa.out)
        rw [eqB_yes HY.out.2.2] at hsl
        go_wp2_with fail
        refine hsl.mono ?_
        clear hsl
        rintro e we ⟨rfl, ⟨⟨qe, rfl⟩⟩⟩
        have HBe := Aside.mk (bthen HBa.out HBa.out.size (bdrew (Below.refl _ _) qe))
        go_wp2_with fail
        go_ret
        exact ⟨rfl, HBe.out⟩
theorem sumL_bulk : ∀ (data : List (List UInt8)), sumL data ≤ (data.map fun b => b.length + 1).sum
  | [] => by simp [sumL]
  | b :: l => by
    have := sumL_bulk l
    simp only [sumL, List.map_cons, List.sum_cons] at this ⊢
    omega
end Go.Proofs.YtjncnppbaldmiaaGreatDoor
