/- The law OrderDecodes: true, whatever comes in. Condition: the tables that the text lays. -/
import Derived.Test.YtjncnppbaldmiaaGreatDoorOy
namespace Go.Proofs.YtjncnppbaldmiaaGreatDoor
open Go.RowKit Go.Shelf
theorem drop_one {w : World} {ok : Nat → Prop} {g c : Nat} {data : List (List UInt8)} (h : Sl (kslice kbyte) w ok (.slice (some ⟨g, 0, none⟩) data.length c) data) (h0 : 0 < data.length) : Sl (kslice kbyte) w ok (.slice (some ⟨g, 1, none⟩) (data.length - 1) (c - 1)) (data.drop 1) := by
  have := Sl.drop (i := 1) h (by omega)
  simpa [kslice] using this
theorem one_list {w : World} {ok : Nat → Prop} {g : Nat} {v : Value} {bs : List UInt8} (h : Sl kbyte w ok v bs) (hb : w.heap[g]? = some (.cells #[v] 25 (0, 0))) : Sl (kslice kbyte) w (fun _ => True) (.slice (some ⟨g, 0, none⟩) 1 1) [bs] := by
  refine ⟨_, 1, rfl, Nat.le_refl _, by decide, fun _ => ⟨g, 0, rfl, trivial, blk_lt hb, fun i x hx => ?_⟩⟩
  cases i with
  | succ i => simp at hx
  | zero =>
    cases hx
    refine ⟨[v], ⟨v, rfl, h.mono fun _ _ => trivial⟩, fun j u hj => ?_⟩
    cases j with
    | zero =>
      cases hj
      have := (store_at hb 0 (show 0 < 1 by decide)).1
      simpa [kslice] using this
    | succ j => simp at hj
theorem sumL_drop (data : List (List UInt8)) : sumL (data.drop 1) ≤ sumL data := by
  cases data with
  | nil => simp
  | cons b r => simp [sumL]
theorem enc_small {gen : Int} {l : List Int} (h : ordB gen l = true) (hl : l.length ≤ 5000) : sumL (dataD l) ≤ 45000 ∧ (dataD l).length ≤ 26 := by
  obtain ⟨-, hp, -⟩ := ordB_parts h
  have h1 := dataD_sum l (fun d hd => by have := permB_nums hp d hd; omega) (cnt l.length)
  have h2 : (l.take (200 * cnt l.length)).length ≤ 5000 := by rw [List.length_take]; omega
  refine ⟨?_, by unfold dataD cnt; simp; omega⟩
  unfold dataD
  omega
set_option maxHeartbeats 16000000 in
set_option maxRecDepth 100000 in
theorem OrderDecodes_any {w : World} {ok : Nat → Prop} {hv dv lv : Value} {gen n no at_ : Int} {x : UInt8} {head : List UInt8} {data : List (List UInt8)} {l : List Int} (T : Tabs w) (hh : Sl kbyte w ok hv head) (hd : Sl (kslice kbyte) w ok dv data) (hs : Sl kint w ok lv l) :
    Calls Tryz.prog 4 #[.int .i64 gen, .int .i64 n, hv, dv, lv, .int .i64 no, .int .i64 at_, .int .u8 (x.toNat : Int)] w fun e w' => e = .returned (.bool true) ∧ Below w.heap.size w w' := by
  obtain ⟨Ah, ch, rfl, hch, hmh⟩ := hh.slice
  obtain ⟨Ad, cd, rfl, hcd, hmd⟩ := hd.slice
  obtain ⟨Al, cl, rfl, hcl, hml⟩ := hs.slice
  have hfirst := first_any T
  have HH := Aside.mk hh
  have HD := Aside.mk hd
  have HL := Aside.mk hs
  clear hh hd hs T
  go_enter Tryz.func4, Tryz.ntmps4
  go_wp2_with fail
  refine hfirst.mono ?_
  rintro e w1 ⟨rfl, B1⟩
  have HB1 := Aside.mk B1
  clear B1 hfirst
  by_cases h1 : 5000 < l.length
  · have hd1 : decide ((5000 : Int) < (l.length : Int)) = true := decide_eq_true (by omega)
    go_wp2
    go_ret
    exact ⟨rfl, HB1.out⟩
  have hd1 : decide ((5000 : Int) < (l.length : Int)) = false := decide_eq_false (by omega)
  by_cases h2 : 5000 < data.length
  · have hd2 : decide ((5000 : Int) < (data.length : Int)) = true := decide_eq_true (by omega)
    go_wp2
    go_ret
    exact ⟨rfl, HB1.out⟩
  have hd2 : decide ((5000 : Int) < (data.length : Int)) = false := decide_eq_false (by omega)
  by_cases h3 : 5000 < head.length
  · have hd3 : decide ((5000 : Int) < (head.length : Int)) = true := decide_eq_true (by omega)
    go_wp2
    go_ret
    exact ⟨rfl, HB1.out⟩
  have hd3 : decide ((5000 : Int) < (head.length : Int)) = false := decide_eq_false (by omega)
  by_cases h4 : 5000 < n
  · have hd4 : decide ((5000 : Int) < n) = true := decide_eq_true (by omega)
    go_wp2
    go_ret
    exact ⟨rfl, HB1.out⟩
  have hd4 : decide ((5000 : Int) < n) = false := decide_eq_false (by omega)
  have HBd : Aside (l.length ≤ 5000 ∧ data.length ≤ 5000 ∧ head.length ≤ 5000 ∧ n ≤ 5000) := ⟨by omega⟩
  clear h1 h2 h3 h4
  go_wp2_with fail
  clear hd1 hd2 hd3 hd4
  go_loopg [18] data.length (fun kq v18 wr => ∃ (i : Nat), Aside (i + kq = data.length) ∧ v18 = .int .i64 i ∧ Aside (∀ b ∈ data.take i, b.length ≤ 5000) ∧ wr = w1)
  case atStart => exact ⟨0, ⟨by omega⟩, rfl, ⟨by simp⟩, rfl⟩
  case round =>
    obtain ⟨i, HI, rfl, HR, hwr⟩ := hrel
    subst hwr
    by_cases hi : i < data.length
    · obtain ⟨b, o, q1, e, h1, s1⟩ := (HD.out.below HB1.out).row i hi
      cases e
      have hM : Aside (data.length - (i + 1) < gk ∧ i + 1 + (data.length - (i + 1)) = data.length) := ⟨by have := HI.out; omega⟩
      have hi1 : (i : Int) < (data.length : Int) := by omega
      have hi0 : (0 : Int) ≤ (i : Int) := by omega
      have HT := Aside.mk (take_snoc hi)
      obtain ⟨A3, c3, rfl, _⟩ := s1.slice
      clear s1
      generalize data[i] = bs at *
      by_cases h5 : 5000 < bs.length
      · have hd5 : decide ((5000 : Int) < (bs.length : Int)) = true := decide_eq_true (by omega)
        go_wp2
        go_ret
        exact ⟨rfl, HB1.out⟩
      · have hd5 : decide ((5000 : Int) < (bs.length : Int)) = false := decide_eq_false (by omega)
        have HR1 : Aside (∀ b ∈ data.take (i + 1), b.length ≤ 5000) := ⟨fun b hb => by
          rw [HT.out] at hb
          rcases List.mem_append.1 hb with hb | hb
          · exact HR.out b hb
          · rw [List.mem_singleton.1 hb]; omega⟩
        clear h5
        go_wp2
        go_roundg (data.length - (i + 1))
        case measure => exact hM.out.1
        case rel => exact ⟨i + 1, ⟨hM.out.2⟩, by go_num, HR1, rfl⟩
    · have HSum : Aside (sumL data ≤ 25000000) := ⟨by
        have e : data.take i = data := List.take_of_length_le (by omega)
        have h := sumL_bound5 data (by rw [← e]; exact HR.out)
        have := HBd.out.2.1
        omega⟩
      replace hi : data.length ≤ i := by omega
      have hcall := decodes_any (gen := gen) (n := n) (HH.out.below HB1.out) (HD.out.below HB1.out) (by have := HSum.out; omega) (by have := HBd.out; omega) (by have := HBd.out; omega) (by have := HBd.out; omega)
      clear HI HR
      go_wp2_with fail
      refine hcall.mono ?_
      clear hcall
      rintro e w2 ⟨rfl, B2⟩
      have HB2 := Aside.mk (bthen HB1.out HB1.out.size B2)
      have hcall := refEncode_any (gen := gen) (HL.out.below HB2.out) (by have := HBd.out; omega)
      clear B2 hi
      go_wp2_with fail
      refine hcall.mono ?_
      clear hcall
      intro e w3 hp
      obtain ⟨he1, he2, B3⟩ := hp
      have HB3 := Aside.mk (bthen HB2.out HB2.out.size B3)
      have HZ23 : Aside (w2.heap.size ≤ w3.heap.size) := ⟨B3.size⟩
      clear B3
      cases hob : ordB gen l with
      | false =>
        obtain rfl := he2 hob
        clear he1 he2 hob
        go_wp2_with fail
        go_ret
        exact ⟨rfl, HB3.out⟩
      | true =>
        obtain ⟨hw, dw, vs, rfl, ho, hbl⟩ := he1 hob
        have HSm := Aside.mk (enc_small hob HBd.out.1)
        have HHo := Aside.mk (own_u8s ho).sl
        have HBl := Aside.mk hbl
        obtain ⟨A1, c1, rfl⟩ := own_len ho
        obtain ⟨A2, c2, rfl⟩ := own_len hbl.own
        have hA2 : 0 < (dataD l).length → ∃ g, A2 = some ⟨g, 0, none⟩ ∧ (dataD l).length ≤ c2 ∧ c2 ≤ 9223372036854775807 := fun h0 => by
          obtain ⟨g, cap, e, h1, h2⟩ := own_pos hbl.own h0
          cases e
          exact ⟨g, rfl, h1, h2⟩
        have HA2 := Aside.mk hA2
        have hh8 := headO_len gen l
        generalize hho : headO gen l = ho8 at *
        clear he1 he2 hob ho hbl hA2 hho
        generalize hdd : dataD l = dd at *
        clear hdd
        have HLl : Aside (l.length ≤ 5000) := ⟨HBd.out.1⟩
        have hcall := decodes_any (gen := gen) (n := (l.length : Int)) HHo.out HBl.out.sl (by have := HSm.out; omega) (by have := HLl.out; omega) (by omega) (by have := HSm.out; omega)
        have HH8 := Aside.mk hh8
        clear hh8
        have HDec : Aside (∀ (g' n' : Int) (W : World), n' ≤ 5000 → Below w3.heap.size w3 W → Calls Tryz.prog 16 #[.int .i64 g', .int .i64 n', .slice A1 ho8.length c1, .slice A2 dd.length c2] W fun e w' => e = .returned (.bool true) ∧ Below W.heap.size W w') :=
          ⟨fun g' n' W hn hW => decodes_any (HHo.out.below hW) (HBl.out.sl.below hW) (by have := HSm.out; omega) (by omega) (by have := HH8.out; omega) (by have := HSm.out; omega)⟩
        have hll : (l.length : Int) ≤ 5000 := by have := HLl.out; omega
        go_wp2_with fail
        refine hcall.mono ?_
        clear hcall
        rintro e w4 ⟨rfl, B4⟩
        have HB4 := Aside.mk B4
        have hcall := HDec.out gen n w4 HBd.out.2.2.2 B4
        clear B4
        go_wp2_with fail
        refine hcall.mono ?_
        clear hcall
        rintro e w5 ⟨rfl, B5⟩
        have HB5 := Aside.mk (bthen HB4.out HB4.out.size B5)
        have hcall := HDec.out (wrap64 (gen + 1)) (l.length : Int) w5 hll HB5.out
        clear B5
        go_wp2_with fail
        refine hcall.mono ?_
        clear hcall
        rintro e w6 ⟨rfl, B6⟩
        have HB6 := Aside.mk (bthen HB5.out HB5.out.size B6)
        clear B6
        have HDec1 : Aside (∀ (W : World) (A : Option Addr) (n9 c9 : Nat) (dd9 : List (List UInt8)), Below w3.heap.size w3 W → dd9.length = n9 → Sl (kslice kbyte) W (fun _ => True) (.slice A n9 c9) dd9 → sumL dd9 ≤ 50000 → n9 ≤ 5000 → Calls Tryz.prog 16 #[.int .i64 gen, .int .i64 (l.length : Int), .slice A1 ho8.length c1, .slice A n9 c9] W fun e w' => e = .returned (.bool true) ∧ Below W.heap.size W w') :=
          ⟨fun W A n9 c9 dd9 hW hl9 hd9 hs9 hn9 => decodes_any (ok := fun _ => True) ((HHo.out.below hW).mono (fun _ _ => trivial)) hd9 (by omega) (by omega) (by have := HH8.out; omega) (by omega)⟩
        have hk1 : (0 : Int) ≤ (dd.length : Int) := Int.natCast_nonneg _
        go_upto_region 15 with (fail)
        go_cut [25] (fun v25 wx => v25 = .bool true ∧ Aside (Below w3.heap.size w3 wx))
        case first =>
          by_cases h0 : dd.length = 0
          · have h00 : ((dd.length : Int) == 0) = true := by simp [h0]
            go_wp2_with fail
            go_meet
            case rel => exact ⟨rfl, HB6⟩
          · have h00 : ((dd.length : Int) == 0) = false := beq_false_of_ne (by omega)
            have h01 : dd ≠ [] := fun e => h0 (by rw [e]; rfl)
            obtain ⟨g, rfl, hc1, hc2⟩ := HA2.out (by omega)
            have hk2 : (1 : Int) ≤ (dd.length : Int) := by omega
            have hk3 : (dd.length : Int) ≤ (c2 : Int) := by omega
            by_cases hcc : c2 = 1
            · subst hcc
              have hcall := HDec1.out w6 (some ⟨g, 0, none⟩) 0 0 [] HB6.out rfl ⟨_, 0, rfl, Nat.le_refl _, by decide, fun h => absurd h (Nat.lt_irrefl 0)⟩ (by simp [sumL]) (by omega)
              go_wp2_with fail
              refine hcall.mono ?_
              clear hcall
              rintro e w7 ⟨rfl, B7⟩
              have HB7 := Aside.mk (bthen HB6.out HB6.out.size B7)
              clear B7
              go_wp2_with fail
              go_meet
              case rel => exact ⟨rfl, HB7⟩
            · have hcall := HDec1.out w6 (some ⟨g, 1, none⟩) (dd.length - 1) (c2 - 1) (dd.drop 1) HB6.out (by simp) ((drop_one (HBl.out.sl.below HB6.out) (by omega)).mono fun _ _ => trivial) (by have := sumL_drop dd; have := HSm.out; omega) (by have := HSm.out; omega)
              go_wp2_with fail
              refine hcall.mono ?_
              clear hcall
              rintro e w7 ⟨rfl, B7⟩
              have HB7 := Aside.mk (bthen HB6.out HB6.out.size B7)
              clear B7
              go_wp2_with fail
              go_meet
              case rel => exact ⟨rfl, HB7⟩
        case rest =>
          obtain ⟨rfl, HB7⟩ := hcut
          obtain ⟨w7, hw7⟩ : ∃ w7, w7 = wc := ⟨_, rfl⟩
          subst hw7
          clear hk1
          have hcall := all_any (HBl.out.sl.below HB7.out) (by have := HSm.out; omega)
          go_wp2_with fail
          refine hcall.mono ?_
          clear hcall
          rintro e w8 ⟨v8, rfl, ho8r, B8⟩
          have HB8 := Aside.mk (bthen HB7.out HB7.out.size B8)
          have bal : Below w8.heap.size w8 (w8.alloc (.cells #[v8] 25)) := (Below.refl _ _).alloc (Nat.le_refl _) _
          have hs9 := one_list ((own_u8s ho8r).sl.below bal) (heap_alloc_new w8 (.cells #[v8] 25))
          have HB9 := Aside.mk (bthen HB8.out HB8.out.size bal)
          have hcall := HDec1.out _ _ 1 1 _ HB9.out rfl hs9 (by have := HSm.out; rw [show sumL [dd.flatten] = dd.flatten.length by simp [sumL], flat_len]; omega) (by omega)
          obtain ⟨A8, m8, c8, rfl⟩ := own_slice ho8r
          clear hs9 bal ho8r B8 HB8 HB7 HDec HDec1
          go_wp2_with fail
          refine hcall.mono ?_
          clear hcall
          rintro e wa ⟨rfl, Ba⟩
          have HBa := Aside.mk (bthen HB9.out HB9.out.size Ba)
          clear Ba HB9
          generalize hq8 : w8.heap.size = q8 at *
          clear hq8
          have hcall := Bytes_any (HHo.out.below HBa.out) (by have := HH8.out; omega)
          go_wp2_with fail
          refine hcall.mono ?_
          clear hcall
          rintro e wb ⟨vb, rfl, hob, Bb⟩
          have KO := Aside.mk hob
          have KB := Aside.mk Bb
          obtain ⟨A9, c9, rfl⟩ := own_len hob
          have KRw : Aside (∀ g, wb.heap.size ≤ g → Rwv wb wa.heap.size g (.slice A9 ho8.length c9)) := ⟨fun g hg => Rwv.own KO.out fun e => by have := (KO.out.lt g e).2; omega⟩
          clear hob Bb
          have KB2 := Aside.mk (KB.out.alloc KB.out.size (.cells #[.slice A9 ho8.length c9] 25))
          have KNw := Aside.mk (heap_alloc_new wb (.cells #[.slice A9 ho8.length c9] 25))
          have KRw2 : Aside (Rwv (wb.alloc (.cells #[.slice A9 ho8.length c9] 25)) wa.heap.size wb.heap.size (.slice A9 ho8.length c9)) := ⟨(KRw.out _ (Nat.le_refl _)).move fun b _ hb _ => Below.heap_alloc _ _ _ hb⟩
          have hcall := ByteLists_any (HBl.out.sl.below (bthen HBa.out HBa.out.size KB2.out)) (by have := HSm.out; omega) (fun b hb => by have := mem_sumL hb; have := HSm.out; omega)
          go_wp2_with fail
          refine hcall.mono ?_
          clear hcall
          rintro e wd ⟨v3, vs3, rfl, hbl, B3⟩
          have KBL := Aside.mk hbl
          have KB3 := Aside.mk (bthen KB2.out KB2.out.size B3)
          have hszl : (wb.alloc (.cells #[.slice A9 ho8.length c9] 25)).heap.size = wb.heap.size + 1 := by simp
          have KN3 := Aside.mk (bblk B3 KNw.out)
          have KR3 : Aside (Rwv wd wa.heap.size wb.heap.size (.slice A9 ho8.length c9)) := ⟨KRw2.out.move fun b _ hb _ => B3.block b hb⟩
          have KSz : Aside (wa.heap.size ≤ wb.heap.size ∧ wb.heap.size < wd.heap.size) := ⟨by have := KB.out.size; have := B3.size; omega⟩
          have KOw : Aside (wd.ownsRow wa.heap.size 25 1 (.slice (some ⟨wb.heap.size, 0, none⟩) 1 1) 1 [.slice A9 ho8.length c9]) := ⟨⟨rfl, .inr ⟨wb.heap.size, 1, _, rfl, KSz.out.1, KN3.out, by decide, by simp [maxLen], rfl, rfl⟩⟩⟩
          obtain ⟨A3, c3, rfl⟩ := own_len hbl.own
          have KA3 : Aside (A3 = none → dd.length = 0) := ⟨fun e => by
            subst e
            rcases KBL.out.own.2 with ⟨_, h⟩ | ⟨g, cap, cur, e, _⟩
            · exact h
            · cases e⟩
          have KC3 : Aside (∀ ad, A3 = some ad → ∀ (j : Nat) (u : Value), vs3[j]? = some u → wd.cell? (ad.add j) = some u) := ⟨fun ad e j u hu => by
            subst e
            rcases KBL.out.own.2 with ⟨e, _⟩ | ⟨g, cap, cur, e, _⟩
            · cases e
            · cases e
              exact KBL.out.own.cells rfl j u hu⟩
          have KOn : Aside (∀ u ∈ vs3, u.oneCell' = true) := ⟨fun u hu => by
            obtain ⟨i, hi, rfl⟩ := List.mem_iff_getElem.1 hu
            have hb : dd[i]? = some (dd[i]'(by have := KBL.out.len; omega)) := List.getElem?_eq_getElem _
            obtain ⟨A, c, e⟩ := own_len (KBL.out.row i _ _ (List.getElem?_eq_getElem hi) hb)
            rw [e]; rfl⟩
          clear hbl B3 KB2 KNw KRw2 KO KB KRw hszl
          have hl3 : vs3.length = dd.length := KBL.out.len
          go_wp2_with (at_builtin; go_must (refine app_vals wa.heap.size rfl _ _ rfl _ 1 [.slice A9 ho8.length c9] A3 c3 dd.length vs3 (by first | rfl | (simp [Act.eval])) rfl hl3 KA3.out KOw.out KC3.out KOn.out KB3.out.size (by have := HSm.out; omega) ?_; intro v4 we hown hg hat; have KOw4 := Aside.mk hown; have KGr := Aside.mk hg; have KAt := Aside.mk hat; clear hown hg hat))
          obtain ⟨gA, cA, rfl, hcA, hcAm⟩ := own_pos KOw4.out (by omega)
          have KB4 := Aside.mk (KB3.out.grown KGr.out KB3.out.size fun q e => by have := KSz.out; cases e; exact this.1)
          have KAL : Aside (AL we wa.heap.size gA cA ([Value.slice A9 ho8.length c9] ++ vs3)) := ⟨by
            have hng : gA = wb.heap.size ∨ wd.heap.size ≤ gA := by
              rcases KAt.out with e | e
              · exact .inl (Option.some.inj e)
              · exact .inr (Nat.le_of_eq (Option.some.inj e).symm)
            have hmv : ∀ b, b < wd.heap.size → b ≠ wb.heap.size → we.heap[b]? = wd.heap[b]? := fun b hb hn => KGr.out.block b hb fun e => hn (Option.some.inj e)
            refine ⟨by rw [List.length_append, hl3]; exact KOw4.out, fun u hu => ?_⟩
            rcases List.mem_append.1 hu with hu | hu
            · rw [List.mem_singleton.1 hu]
              exact KR3.out.to (fun b _ hb hn => hmv b hb hn) hng (Nat.le_refl _)
            · obtain ⟨j, hj, rfl⟩ := List.mem_iff_getElem.1 hu
              have hv : vs3[j]? = some vs3[j] := List.getElem?_eq_getElem hj
              have hlo : wb.heap.size + 1 ≤ (wb.alloc (.cells #[.slice A9 ho8.length c9] 25)).heap.size := by simp
              obtain ⟨hr, -⟩ := KBL.out.rwv (ng := wb.heap.size) hv (fun e => by
                have hb : dd[j]? = some (dd[j]'(by omega)) := List.getElem?_eq_getElem _
                have := ((KBL.out.row j _ _ hv hb).lt _ e).1
                omega)
              exact hr.to (fun b _ hb hn => hmv b hb hn) hng (by have := KSz.out; omega)⟩
          have KSm : Aside (0 < ([Value.slice A9 ho8.length c9] ++ vs3).length ∧ ([Value.slice A9 ho8.length c9] ++ vs3).length ≤ dd.length + 1 + 0 ∧ sumV ([Value.slice A9 ho8.length c9] ++ vs3) ≤ ho8.length + sumL dd + 2000 * 0 ∧ 0 ≤ 20) := ⟨by
            rw [sumV_append, KBL.out.sumV, List.length_append, hl3]
            simp [sumV, lenV]
            omega⟩
          have hv8 : (Value.slice (some ⟨gA, 0, none⟩) (1 + dd.length) cA) = .slice (some ⟨gA, 0, none⟩) ([Value.slice A9 ho8.length c9] ++ vs3).length cA := by rw [List.length_append, hl3]; rfl
          rw [hv8]
          clear KOw4 KGr KAt KR3 KBL KN3 KSz KOw KA3 KC3 KOn hl3 KB3 hcA hcAm hv8 HH HD
          generalize hvs : [Value.slice A9 ho8.length c9] ++ vs3 = vs at *
          clear hvs

          have KBe := Aside.mk (bthen HBa.out HBa.out.size KB4.out)
          clear HA2 HBl
          obtain ⟨hp, hn1, hn2, -⟩ := KSm.out
          obtain ⟨kno, hkno, hk⟩ := idx_ok no hp (by have := HSm.out; omega)
          obtain ⟨cur, hgA, hcs, hcA1, hcA2, hgl, hcell⟩ := KAL.out.blk
          have hu := hcell kno vs[kno] (List.getElem?_eq_getElem hkno)
          have hr := KAL.out.row vs[kno] (List.getElem_mem hkno)
          have HVu : Aside (vs[kno]? = some vs[kno]) := ⟨List.getElem?_eq_getElem hkno⟩
          have hmu := mem_sumV (List.getElem_mem hkno)
          generalize hug : vs[kno] = u at *
          clear hug
          obtain ⟨Au, nu, cu, rfl, hnc, hcm, hrr⟩ := hr
          have hnS : nu ≤ sumV vs := hmu
          clear hmu
          have n0 : ((vs.length : Int) == 0) = false := beq_false_of_ne (by omega)
          have n1 : vs ≠ [] := fun e => by rw [e] at hp; simp at hp
          have no0 : (0 : Int) ≤ (kno : Int) := Int.natCast_nonneg _
          have no1 : (kno : Int) < (vs.length : Int) := by omega
          have HCel := Aside.mk hcell
          have HGA := Aside.mk hgA
          have HRr := Aside.mk hrr
          clear hcell hgA hrr
          go_wp2_with fail
          go_simp
          go_upto_if 142 with (fail)
          obtain ⟨lb, hlb⟩ : ∃ lb, decide (0 < nu) = lb := ⟨_, rfl⟩
          have HLb : Aside (lb = true → 0 < nu) := ⟨fun h => by rw [← hlb] at h; simpa using h⟩
          simp only [hlb]
          clear hlb
          go_cut [] (fun wx => Aside (Below w3.heap.size w3 wx) ∧ Aside (AL wx wa.heap.size gA cA vs))
          case first =>
            cases lb with
            | false =>
              go_wp2_with fail
              go_meet
              case rel => exact ⟨KBe, KAL⟩
            | true =>
              have hn := HLb.out rfl
              obtain ⟨b, o, cur9, rfl, hlob, hbg, hcur, hby⟩ := HRr.out hn
              obtain ⟨ka, hka, hk2⟩ := idx_ok at_ hn (by have := HSm.out; have := HH8.out; omega)
              have hnB : nu ≤ 1099511627776 := by have := HSm.out; have := HH8.out; omega
              obtain ⟨z, hz⟩ := hby ka hka
              have kb : we.cell? ⟨b, o + ka, none⟩ = some (.int .u8 (z.toNat : Int)) := by
                obtain ⟨hlt, hz⟩ := Array.getElem?_eq_some_iff.1 hz
                simp [World.cell?, hcur, hlt, hz]
              have kf := (store_at hcur (o + ka) (Array.getElem?_eq_some_iff.1 hz).1).2.1
              have kl := blk_lt hcur
              obtain ⟨y, hy⟩ : ∃ y, y = z ^^^ x := ⟨_, rfl⟩
              have hxor := xor8 z x
              rw [← hy] at hxor
              clear hy
              have hn0 : ((nu : Int) == 0) = false := beq_false_of_ne (by omega)
              have hn1 : ¬ ((nu : Int) = 0) := by omega
              have hn2 : ¬ (nu = 0) := by omega
              have ka0 : (0 : Int) ≤ (ka : Int) := Int.natCast_nonneg _
              have ka1 : (ka : Int) < (nu : Int) := by omega
              have KALb : Aside (AL (we.setCell ⟨b, o + ka, none⟩ (.int .u8 (y.toNat : Int))) wa.heap.size gA cA vs) := ⟨KAL.out.byte (o := o + ka) hbg y⟩
              have KBb : Aside (Below w3.heap.size w3 (we.setCell ⟨b, o + ka, none⟩ (.int .u8 (y.toNat : Int)))) := ⟨KBe.out.setCell (p := ⟨b, o + ka, none⟩) (by have := HBa.out.size; show w3.heap.size ≤ b; omega) (.int .u8 (y.toNat : Int))⟩
              clear hby hz hcur
              go_wp2_with fail
              go_meet
              case rel => exact ⟨KBb, KALb⟩
          case rest =>
            obtain ⟨KBf, KAf⟩ := hcut
            obtain ⟨wf, hwf⟩ : ∃ wf, wf = wc := ⟨_, rfl⟩
            subst hwf
            clear HCel HGA HRr HLb hk hu HVu hnc hcm hnS n0 n1 no0 no1 hcs hkno hgl cur KB4 KBe KAL
            obtain ⟨hd0, tl, hsh, hst, hsum, htl⟩ := KAf.out.out hp
            obtain ⟨curf, hgf, hcsf, hcf1, hcf2, hgl2, hcellf⟩ := KAf.out.blk
            have k0 := hcellf 0 _ (List.getElem?_eq_getElem hp)
            have bf1 : Below wf.heap.size wf wf.drew := bdrew1 (Below.refl _ _)
            generalize vs[0] = u0 at *
            obtain ⟨A0, c0, rfl, _, _⟩ := hsh.slice
            have HTot : Aside (hd0.length + sumL tl ≤ 46000 ∧ vs.length ≤ 27 ∧ tl.length = vs.length - 1) := ⟨by have := HSm.out; have := HH8.out; omega⟩
            have HCon1 := Aside.mk (decodes_any (gen := gen) (n := (l.length : Int)) (hsh.below bf1) (hst.below bf1) (by have := HTot.out; omega) (by omega) (by have := HTot.out; omega) (by have := HTot.out; omega))
            have hnl : Sl (kslice kbyte) wf.drew (wa.heap.size ≤ ·) (.slice (some ⟨gA, 0, none⟩) 0 0) [] := ⟨_, 0, rfl, Nat.le_refl _, by decide, fun h => absurd h (Nat.lt_irrefl 0)⟩
            have HCon2 := Aside.mk (decodes_any (gen := gen) (n := (l.length : Int)) (hsh.below bf1) hnl (by simp [sumL]) (by omega) (by have := HTot.out; omega) (by simp))
            have k0d : wf.drew.cell? ⟨gA, 0, none⟩ = some (.slice A0 hd0.length c0) := k0
            have v1 : (1 : Int) ≤ (vs.length : Int) := by omega
            have v2 : (vs.length : Int) ≤ (cA : Int) := by omega
            have v3 : (0 : Int) < (vs.length : Int) := by omega
            have HBf1 := Aside.mk bf1
            have HHt := Aside.mk htl
            clear hsh hst hsum hcellf hgf k0 bf1 hnl htl hcsf KAf KSm hn1 hn2
            by_cases hc1 : cA = 1
            · subst hc1
              have hv1 : vs.length = 1 := by omega
              clear HCon1
              go_wp2_with fail
              go_region_held3 (fun w' => w'.cell? ⟨gA, 0, none⟩ = some (.slice A0 hd0.length c0)) (first | (go_keep; done) | assumption) (first | (go_at_call 16; refine HCon2.out.mono ?_; rintro e w9 ⟨rfl, B9⟩; have HB9 := Aside.mk (bthen KBf.out KBf.out.size (bthen HBf1.out HBf1.out.size B9)); have k9 := bcell B9 k0d; clear B9))
              all_goals (go_wp2_with fail; go_ret; exact ⟨rfl, bthen HB3.out HB3.out.size HB9.out⟩)
            · clear HCon2
              go_wp2_with fail
              go_region_held3 (fun w' => w'.cell? ⟨gA, 0, none⟩ = some (.slice A0 hd0.length c0)) (first | (go_keep; done) | assumption) (first | (go_at_call 16; refine HCon1.out.mono ?_; rintro e w9 ⟨rfl, B9⟩; have HB9 := Aside.mk (bthen KBf.out KBf.out.size (bthen HBf1.out HBf1.out.size B9)); have k9 := bcell B9 k0d; clear B9))
              all_goals (go_wp2_with fail; go_ret; exact ⟨rfl, bthen HB3.out HB3.out.size HB9.out⟩)
end Go.Proofs.YtjncnppbaldmiaaGreatDoor
