/- The law ManifestApart: true, whatever the names and numbers. Condition: the tables that the text lays. -/
import Derived.Test.YtgbladpoglhleaaGreatDoorAp
import Derived.Test.YtgbladpoglhleaaGreatDoorNl
namespace Go.Proofs.YtgbladpoglhleaaGreatDoor
open Go.RowKit Go.Lib
set_option maxHeartbeats 2000000 in
set_option maxRecDepth 100000 in
theorem has_any {w : World} {ok : Nat → Prop} {v : Value} {xs : List (List UInt8)} {y : List UInt8} (hs : Sl kstr w ok v xs) : Calls Tryz.prog 34 #[v, strV y] w fun e w' => e = .returned (.bool (standsB xs y)) ∧ Same w w' := by
  obtain ⟨A, c, rfl, hc, hm⟩ := hs.slice
  have HS := Aside.mk hs
  clear hs
  unfold strV
  go_enter Tryz.func34, Tryz.ntmps34
  go_wp2
  go_loopg [5] xs.length (fun kq v3 wr => ∃ (i : Nat), Aside (i + kq = xs.length) ∧ v3 = .int .i64 i ∧ Aside (standsB (xs.take i) y = false) ∧ Same w wr)
  case atStart => exact ⟨0, ⟨by omega⟩, rfl, ⟨rfl⟩, Same.refl _⟩
  case round =>
    obtain ⟨i, HI, rfl, HA, ⟨⟨q, rfl⟩⟩⟩ := hrel
    by_cases hi : i < xs.length
    · obtain ⟨b, o, e, k0⟩ := HS.out.str i hi
      cases e
      have HM : Aside (xs.length - (i + 1) < gk ∧ i + 1 + (xs.length - (i + 1)) = xs.length) := ⟨by have := HI.out; omega⟩
      by_cases hx : xs[i] = y
      · have HP : Aside (standsB xs y = true) := ⟨by unfold standsB; rw [List.any_eq_true]; exact ⟨xs[i], List.getElem_mem hi, by simpa using hx⟩⟩
        have hb : (xs[i] == y) = true := by simpa using hx
        generalize xs[i] = x at *
        clear hx
        go_wp2
        go_ret
        exact ⟨retb HP.out, ⟨⟨_, rfl⟩⟩⟩
      · have HP : Aside (standsB (xs.take (i + 1)) y = false) := ⟨by rw [take_snoc' hi]; unfold standsB at HA ⊢; rw [List.any_append, HA.out]; simpa using hx⟩
        have hb : (xs[i] == y) = false := by simpa using hx
        generalize xs[i] = x at *
        clear hx
        go_wp2
        go_roundg (xs.length - (i + 1))
        case measure => exact HM.out.1
        case rel => exact ⟨i + 1, ⟨HM.out.2⟩, by go_num, HP, ⟨⟨_, rfl⟩⟩⟩
    · have ht : xs.take i = xs := List.take_of_length_le (by omega)
      rw [ht] at HA
      replace hi : xs.length ≤ i := by omega
      clear ht
      go_wp2
      go_ret
      exact ⟨retb HA.out, ⟨⟨_, rfl⟩⟩⟩
set_option maxHeartbeats 8000000 in
set_option maxRecDepth 100000 in
theorem ManifestApart_any {w : World} {ok : Nat → Prop} {v : Value} {names : List (List UInt8)} {g h s t : Int} (T : ATabs w) (hn : Sl kstr w ok v names) :
    Calls Tryz.prog 8 #[v, .int .i64 g, .int .i64 h, .int .i64 s, .int .i64 t] w fun e w' => e = .returned (.bool true) ∧ Below w.heap.size w w' := by
  obtain ⟨A, c, rfl, hc, hm⟩ := hn.slice
  have HS := Aside.mk hn
  have hfirst := first_any T.t
  have HT := Aside.mk T.n
  clear T hn
  go_enter Tryz.func8, Tryz.ntmps8
  go_wp2_with fail
  refine hfirst.mono ?_
  clear hfirst
  rintro e w1 ⟨rfl, B1⟩
  have HB1 := Aside.mk B1
  clear B1
  by_cases hl : names.length ≤ 2000
  · have hl' : ¬ ((2000 : Int) < (names.length : Int)) := by omega
    go_wp2
    go_loopg [12] names.length (fun kq v12 wr => ∃ (k : Nat), Aside (k + kq = names.length) ∧ v12 = .int .i64 k ∧ Aside (Below w.heap.size w wr) ∧ Aside (∀ x ∈ names.take k, x.length ≤ 4096))
    case atStart => exact ⟨0, ⟨by omega⟩, rfl, HB1, ⟨by simp⟩⟩
    case round =>
      clear HB1
      obtain ⟨k, HI, rfl, HB, HR⟩ := hrel
      by_cases hk : k < names.length
      · obtain ⟨b, o, e, k0⟩ := (HS.out.below HB.out).str k hk
        cases e
        have HM : Aside (names.length - (k + 1) < gk ∧ k + 1 + (names.length - (k + 1)) = names.length) := ⟨by have := HI.out; omega⟩
        have HR2 : Aside (names[k].length ≤ 4096 → ∀ x ∈ names.take (k + 1), x.length ≤ 4096) := ⟨fun h x hx => by
          rw [take_snoc' hk] at hx
          rcases List.mem_append.1 hx with hx | hx
          · exact HR.out x hx
          · rw [List.mem_singleton.1 hx]; exact h⟩
        generalize names[k] = x at *
        obtain ⟨w2, hw2⟩ : ∃ w2, w2 = wr := ⟨_, rfl⟩
        subst hw2
        have hsz : (⟨x.toArray⟩ : ByteArray).size = x.length := rfl
        by_cases hx : x.length ≤ 4096
        · have HRn := Aside.mk (HR2.out hx)
          have hx' : ¬ ((4096 : Int) < (x.length : Int)) := by omega
          clear HR2
          go_wp2
          go_roundg (names.length - (k + 1))
          case measure => exact HM.out.1
          case rel => exact ⟨k + 1, ⟨HM.out.2⟩, by go_num, HB, HRn⟩
        · have hx' : (4096 : Int) < (x.length : Int) := by omega
          clear HR2
          go_wp2
          go_ret
          exact ⟨rfl, HB.out⟩
      · have ht : names.take k = names := List.take_of_length_le (by omega)
        have HR2 := Aside.mk HR.out
        rw [ht] at HR2
        replace hk : names.length ≤ k := by omega
        clear ht HR
        obtain ⟨w2, hw2⟩ : ∃ w2, w2 = wr := ⟨_, rfl⟩
        subst hw2
        have ha := owned_any (HT.out.below HB.out) g s (HS.out.below HB.out) hl HR2.out
        go_wp2_with fail
        refine ha.mono ?_
        clear ha
        rintro e w3 ⟨va, rfl, hoa, B3⟩
        have HB3 := Aside.mk (bthen HB.out HB.out.size B3)
        have HA3 := Aside.mk (own_strs hoa).sl
        obtain ⟨Aa, ca, rfl, hca, hma⟩ := HA3.out.slice
        clear hoa B3
        have hb := owned_any (HT.out.below HB3.out) h t (HS.out.below HB3.out) hl HR2.out
        go_wp2_with fail
        refine hb.mono ?_
        clear hb
        rintro e w4 ⟨vb, rfl, hob, B4⟩
        have HB4 := Aside.mk (bthen HB3.out HB3.out.size B4)
        have HA4 := Aside.mk (HA3.out.below B4)
        have HBb4 := Aside.mk (own_strs hob).sl
        obtain ⟨Ab, cb, rfl, hcb, hmb⟩ := HBb4.out.slice
        clear hob B4 HA3
        have hc2 := owned_any (HT.out.below HB4.out) g (max s t) (HS.out.below HB4.out) hl HR2.out
        go_wp2_with fail
        refine hc2.mono ?_
        clear hc2
        rintro e w5 ⟨vc, rfl, hoc, B5⟩
        have HB5 := Aside.mk (bthen HB4.out HB4.out.size B5)
        have HA5 := Aside.mk (HA4.out.below B5)
        have HBb5 := Aside.mk (HBb4.out.below B5)
        have HC5 := Aside.mk (own_strs hoc).sl
        obtain ⟨Ac, cc, rfl, hcc, hmc⟩ := HC5.out.slice
        clear hoc B5 HA4 HBb4
        have HX : Aside ((∀ x ∈ ownF names g s, oursF x = true ∧ x.length ≤ 4096 ∧ standsB (ownF names g (max s t)) x = true ∧ (g ≠ h → x ≠ bManifest → standsB (ownF names h t) x = false)) ∧ (ownF names g s).length ≤ (ownF names g (max s t)).length ∧ (ownF names g s).Sublist names ∧ (ownF names g s).length ≤ 2000) := ⟨by
          refine ⟨fun x hx => ?_, filter_le (fun x hx => owned_mono (Int.le_max_left s t) hx) names, List.filter_sublist, Nat.le_trans (List.length_filter_le _ _) hl⟩
          obtain ⟨hm, ho⟩ := List.mem_filter.1 hx
          refine ⟨owned_ours ho, HR2.out x hm, stands_mem (List.mem_filter.2 ⟨hm, owned_mono (Int.le_max_left s t) ho⟩), fun hg hne => stands_not fun hb => ?_⟩
          exact hg (owned_gen ho (List.mem_filter.1 hb).2 hne)⟩
        generalize ownF names g s = la at *
        generalize ownF names h t = lb at *
        generalize ownF names g (max s t) = lc at *
        have HS0 : Aside ((la.drop 0).Sublist (names.drop 0)) := ⟨HX.out.2.2.1⟩
        have hll : la.length ≤ lc.length := HX.out.2.1
        have hlz : decide ((la.length : Int) ≤ (lc.length : Int)) = true := decide_eq_true (by omega)
        have hla2 : la.length ≤ 2000 := HX.out.2.2.2
        clear hll HB3 HB4 HR2 HB
        obtain ⟨W, hW⟩ : ∃ W, W = w5 := ⟨_, rfl⟩
        subst hW
        have HW0 : Aside (Below W.heap.size W W) := ⟨Below.refl _ _⟩
        go_wp2
        go_loopg [16, 17] la.length (fun kq v16 v17 wr => ∃ (i k : Nat), Aside (i + kq = la.length) ∧ v17 = .int .i64 i ∧ v16 = .int .i64 k ∧ Aside (Below W.heap.size W wr) ∧ Aside ((la.drop i).Sublist (names.drop k)) ∧ Aside (k ≤ names.length))
        case atStart => exact ⟨0, 0, ⟨by omega⟩, rfl, rfl, HW0, HS0, ⟨Nat.zero_le _⟩⟩
        case round =>
          clear HS0 HW0
          obtain ⟨i, k, HI, rfl, rfl, HBr, HSb, HKn⟩ := hrel
          by_cases hi : i < la.length
          · have HM : Aside (la.length - (i + 1) < gk ∧ i + 1 + (la.length - (i + 1)) = la.length) := ⟨by have := HI.out; omega⟩
            obtain ⟨b, o, e, k0⟩ := (HA5.out.below HBr.out).str i hi
            cases e
            have HAi := Aside.mk k0
            have HXi := Aside.mk (HX.out.1 la[i] (List.getElem_mem hi))
            have hkn := HKn.out
            clear k0
            obtain ⟨w6, hw6⟩ : ∃ w6, w6 = wr := ⟨_, rfl⟩
            subst hw6
            have HW6 : Aside (Below w6.heap.size w6 w6) := ⟨Below.refl _ _⟩
            go_wp2
            go_loopg [16] (names.length - k) (fun kq v16 wr => ∃ (k2 : Nat), Aside (k2 + kq = names.length) ∧ v16 = .int .i64 k2 ∧ Aside (Below w6.heap.size w6 wr) ∧ Aside ((la.drop i).Sublist (names.drop k2)))
            case atStart => exact ⟨k, ⟨by omega⟩, rfl, HW6, HSb⟩
            case round =>
              clear HSb HW6
              obtain ⟨k2, HI2, rfl, HBi, HS2⟩ := hrel
              have hk2 : k2 < names.length := scan_room hi HS2.out
              obtain ⟨bn, on, e, kn⟩ := (HS.out.below (bthen (bthen HB5.out HB5.out.size HBr.out) (bthen HB5.out HB5.out.size HBr.out).size HBi.out)).str k2 hk2
              cases e
              have ka := bcell HBi.out HAi.out
              have HM2 : Aside (names.length - (k2 + 1) < gk ∧ k2 + 1 + (names.length - (k2 + 1)) = names.length) := ⟨by have := HI2.out; omega⟩
              by_cases he : names[k2] = la[i]
              · have HS3 := Aside.mk (scan_hit_at hi hk2 HS2.out he)
                have e1 : (names[k2] == la[i]) = true := beq_iff_eq.2 he
                have e2 : (names[k2] != la[i]) = false := by simp [he]
                generalize names[k2] = y at *
                generalize la[i] = x at *
                clear he HS2
                go_wp2
                go_quiet (fail)
                obtain ⟨w7, hw7⟩ : ∃ w7, w7 = wr.drewN nq := ⟨_, rfl⟩
                have B7 : Below w6.heap.size w6 w7 := by rw [hw7]; exact bdrew HBi.out nq
                rw [← hw7]
                clear hw7 ka kn HBi
                have hB7 : Below w.heap.size w w7 := bthen (bthen HB5.out HB5.out.size HBr.out) (bthen HB5.out HB5.out.size HBr.out).size B7
                have hW7 : Below W.heap.size W w7 := bthen HBr.out HBr.out.size B7
                have HB7 := Aside.mk hB7
                have HW7 := Aside.mk hW7
                have ka := bcell B7 HAi.out
                obtain ⟨x1, x2, x3, x4⟩ := HXi.out
                have hour := ours_any (HT.out.below hB7) ⟨x.toArray⟩ x2
                have HOb : Aside (oursF (⟨x.toArray⟩ : ByteArray).data.toList = true) := ⟨x1⟩
                have HX34 := Aside.mk (And.intro x3 x4)
                have hne : (k2 == names.length) = false := beq_false_of_ne (by omega)
                have hne2 : ((k2 : Int) == (names.length : Int)) = false := beq_false_of_ne (by omega)
                clear x1 x2 x3 x4 hB7 hW7 B7
                go_wp2_with fail
                refine hour.mono ?_
                rw [HOb.out]
                clear hour
                rintro e w8 ⟨rfl, B8⟩
                have HB8 := Aside.mk (bthen HB7.out HB7.out.size B8)
                have HW8 := Aside.mk (bthen HW7.out HW7.out.size B8)
                have ka8 := bcell B8 ka
                have hhas := has_any (y := x) (HC5.out.below HW8.out)
                rw [HX34.out.1] at hhas
                unfold strV at hhas
                clear ka B8 HB7 HW7
                go_wp2_with fail
                refine hhas.mono ?_
                clear hhas
                rintro e w9 ⟨rfl, ⟨⟨n9, rfl⟩⟩⟩
                by_cases hg : g = h
                · have g1 : (g != h) = false := by simpa using hg
                  have g2 : (g == h) = true := by simpa using hg
                  clear hg
                  go_wp2
                  go_roundg (la.length - (i + 1))
                  case measure => exact HM.out.1
                  case rel => exact ⟨i + 1, k2 + 1, ⟨HM.out.2⟩, by go_num, by go_num, ⟨bdrew HW8.out _⟩, HS3, ⟨hk2⟩⟩
                · have g1 : (g != h) = true := by simpa using hg
                  have g2 : (g == h) = false := by simpa using hg
                  have hb4 := HX34.out.2 hg
                  clear hg
                  by_cases hm : x = bManifest
                  · have m1 : (x == [109, 97, 110, 105, 102, 101, 115, 116]) = true := by unfold bManifest at hm; simpa using hm
                    have m2 : (x != [109, 97, 110, 105, 102, 101, 115, 116]) = false := by unfold bManifest at hm; simpa using hm
                    clear hm hb4
                    go_wp2
                    go_roundg (la.length - (i + 1))
                    case measure => exact HM.out.1
                    case rel => exact ⟨i + 1, k2 + 1, ⟨HM.out.2⟩, by go_num, by go_num, ⟨bdrew HW8.out _⟩, HS3, ⟨hk2⟩⟩
                  · have hb5 := hb4 hm
                    have m1 : (x == [109, 97, 110, 105, 102, 101, 115, 116]) = false := by unfold bManifest at hm; simpa using hm
                    have m2 : (x != [109, 97, 110, 105, 102, 101, 115, 116]) = true := by unfold bManifest at hm; simpa using hm
                    have hhas := has_any (y := x) ((HBb5.out.below HW8.out).below (bdrew (Below.refl _ _) n9))
                    rw [hb5] at hhas
                    unfold strV at hhas
                    clear hm hb4 hb5
                    go_wp2_with fail
                    refine hhas.mono ?_
                    clear hhas
                    rintro e w10 ⟨rfl, ⟨⟨n10, rfl⟩⟩⟩
                    rw [World.drewN_drewN]
                    go_wp2
                    go_roundg (la.length - (i + 1))
                    case measure => exact HM.out.1
                    case rel => exact ⟨i + 1, k2 + 1, ⟨HM.out.2⟩, by go_num, by go_num, ⟨bdrew HW8.out _⟩, HS3, ⟨hk2⟩⟩
              · have HS3 := Aside.mk (scan_skip_at hi hk2 HS2.out he)
                have e1 : (names[k2] == la[i]) = false := beq_false_of_ne he
                have e2 : (names[k2] != la[i]) = true := by simpa using he
                generalize names[k2] = y at *
                generalize la[i] = x at *
                clear he HS2
                go_wp2
                go_quiet (fail)
                go_wp2
                go_roundg (names.length - (k2 + 1))
                case measure => exact HM2.out.1
                case rel => exact ⟨k2 + 1, ⟨HM2.out.2⟩, by go_num, ⟨bdrew HBi.out _⟩, HS3⟩
          · replace hi : la.length ≤ i := by omega
            go_wp2
            go_ret
            exact ⟨retb (by have := HX.out.2.1; first | exact hlz.symm | (simp; omega)), bthen HB5.out HB5.out.size HBr.out⟩
  · have hl' : 2000 < names.length := by omega
    go_wp2
    go_ret
    exact ⟨rfl, HB1.out⟩
end Go.Proofs.YtgbladpoglhleaaGreatDoor
