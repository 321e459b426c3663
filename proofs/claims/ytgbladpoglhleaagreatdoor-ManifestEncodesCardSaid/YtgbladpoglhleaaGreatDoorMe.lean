/- The law ManifestEncodes: true, whatever the manifest and the turn. Condition: the tables that the text lays. -/
import Derived.Test.YtgbladpoglhleaaGreatDoorMu
import Derived.Test.YtgbladpoglhleaaGreatDoorLa
namespace Go.Proofs.YtgbladpoglhleaaGreatDoor
open Go.RowKit
theorem Tabs.alloc' {w : World} (T : Tabs w) (o : Obj) : Tabs (w.alloc o) :=
  ⟨var?_alloc T.crc, var?_alloc T.shapes, let ⟨b, off, h⟩ := T.err; ⟨b, off, var?_alloc h⟩⟩
theorem few_le {m : Man} (h : fewB m = true) : m.Cuts.length ≤ 2000 ∧ m.Shards.length ≤ 2000 ∧ m.Degrees.length ≤ 5000 := by
  simpa [fewB, and_assoc] using h
theorem idx_ok (i : Int) {n : Nat} (h : 0 < n) (hn : n ≤ 5000) : ∃ j : Nat, j < n ∧ (wrap64 (i.tmod n + n)).tmod n = (j : Int) := by
  have h0 : (0 : Int) < (n : Int) := by omega
  have h1 := Int.tmod_lt_of_pos i h0
  have h2 : -(n : Int) < i.tmod n := Int.lt_tmod_of_pos i h0
  have e : wrap64 (i.tmod n + n) = i.tmod n + n := by unfold wrap64; omega
  rw [e, Int.tmod_eq_emod_of_nonneg (by omega)]
  have h3 := Int.emod_nonneg (i.tmod n + n) (show (n : Int) ≠ 0 by omega)
  have h4 := Int.emod_lt_of_pos (i.tmod n + n) h0
  exact ⟨((i.tmod n + n) % n).toNat, by omega, by omega⟩
set_option maxHeartbeats 8000000 in
set_option maxRecDepth 100000 in
theorem ManifestEncodes_any {w : World} {ok : Nat → Prop} {v : Value} {m : Man} {i by_ : Int} (T : Tabs w) (hx : ManV w ok v m) : Calls Tryz.prog 5 #[v, .int .i64 i, .int .i64 by_] w fun e w' => e = .returned (.bool true) ∧ Below w.heap.size w w' := by
  have HX := Aside.mk hx
  obtain ⟨a, b, c, rfl, h1, h2, h3⟩ := hx
  obtain ⟨Aa, ca, rfl, _⟩ := h1.slice
  obtain ⟨Ab, cb, rfl, _⟩ := h2.slice
  obtain ⟨Ac, cc, rfl, _⟩ := h3.slice
  clear h1 h2 h3
  have hb0 : Below w.heap.size w (w.alloc (.cells #[.int .i64 m.Gen, .int .i64 m.N, .slice Aa m.Cuts.length ca, .slice Ab m.Shards.length cb, .slice Ac m.Degrees.length cc] 33)) := (Below.refl _ w).alloc (Nat.le_refl _) _
  have hm0 := heap_alloc_new w (.cells #[.int .i64 m.Gen, .int .i64 m.N, .slice Aa m.Cuts.length ca, .slice Ab m.Shards.length cb, .slice Ac m.Degrees.length cc] 33)
  have hfirst := first_any (T.alloc' (.cells #[.int .i64 m.Gen, .int .i64 m.N, .slice Aa m.Cuts.length ca, .slice Ab m.Shards.length cb, .slice Ac m.Degrees.length cc] 33))
  have HB0 := Aside.mk hb0
  have HM0 := Aside.mk hm0
  clear T hb0 hm0
  go_enter Tryz.func5, Tryz.ntmps5
  go_wp2_with fail
  refine hfirst.mono ?_
  rintro e w1 ⟨rfl, B1⟩
  have HB1 := Aside.mk (bthen HB0.out HB0.out.size B1)
  have hm1 := bblk B1 HM0.out
  obtain ⟨k0, k1, k2, k3, k4⟩ := five hm1
  have HM1 := Aside.mk hm1
  have hfew := few_any (HX.out.below HB1.out)
  clear B1 hm1 hfirst HB0 HM0
  go_wp2_with fail
  refine hfew.mono ?_
  rintro e w2 ⟨rfl, B2⟩
  have HB2 := Aside.mk (bthen HB1.out HB1.out.size B2)
  have hm2 := bblk B2 HM1.out
  clear k0 k1 k2 k3 k4
  obtain ⟨k0, k1, k2, k3, k4⟩ := five hm2
  have HM2 := Aside.mk hm2
  clear B2 hm2 hfew HB1 HM1
  cases hq : fewB m with
  | false =>
    go_wp2
    go_ret
    exact ⟨rfl, HB2.out⟩
  | true =>
    obtain ⟨l1, l2, l3⟩ := few_le hq
    have hlent := lent_any (HX.out.below HB2.out) l1 l2 l3
    have HL := Aside.mk (And.intro l1 (And.intro l2 l3))
    clear hq l1 l2 l3
    go_wp2_with fail
    refine hlent.mono ?_
    intro e w3 hp
    obtain ⟨u, rfl, HL3, B3⟩ := hp.lent
    have HB3 := Aside.mk (bthen HB2.out HB2.out.size B3)
    have HLe := Aside.mk HL3
    have HBs := Aside.mk HB2.out.size
    obtain ⟨u1, u2, u3, s1, s2, rfl, _, _, _, h3, h4, h5⟩ := HL3
    obtain ⟨g1, c1, rfl, _⟩ := h3
    obtain ⟨g2, c2, rfl, _⟩ := h4
    obtain ⟨g3, c3, rfl, _⟩ := h5
    clear hlent k0 k1 k2 k3 k4 HB2 HM2 B3 hp HX
    have ba := (Below.refl w3.heap.size w3).alloc (Nat.le_refl _) (.cells #[.int .i64 m.Gen, .int .i64 m.N, .slice (some ⟨g1, 0, none⟩) m.Cuts.length c1, .slice (some ⟨g2, 0, none⟩) m.Shards.length c2, .slice (some ⟨g3, 0, none⟩) m.Degrees.length c3] 33)
    have HE0 : Aside (LE w w3.heap.size w2.heap.size w3.heap.size g1 c1 g2 c2 g3 c3 m (w3.alloc (.cells #[.int .i64 m.Gen, .int .i64 m.N, .slice (some ⟨g1, 0, none⟩) m.Cuts.length c1, .slice (some ⟨g2, 0, none⟩) m.Shards.length c2, .slice (some ⟨g3, 0, none⟩) m.Degrees.length c3] 33))) := ⟨⟨bthen HB3.out HB3.out.size ba, HBs.out, Nat.le_refl _, heap_alloc_new _ _, HLe.out.keep fun k _ hk => ba.block k hk, HL.out.1, HL.out.2.1, HL.out.2.2⟩⟩
    clear ba HLe HB3
    go_wp2_with fail
    generalize w3.alloc (.cells #[.int .i64 m.Gen, .int .i64 m.N, .slice (some ⟨g1, 0, none⟩) m.Cuts.length c1, .slice (some ⟨g2, 0, none⟩) m.Shards.length c2, .slice (some ⟨g3, 0, none⟩) m.Degrees.length c3] 33) = W0 at *
    generalize w3.heap.size = C at *
    generalize w2.heap.size = lo at *
    clear HBs
    have HCh := Aside.mk HE0.out.qh
    go_loopg [10] 2 (fun kq v10 wr => ∃ (r : Nat) (mr : Man), Aside (r + kq = 2) ∧ v10 = .int .i64 r ∧ Aside (LE w C lo C g1 c1 g2 c2 g3 c3 mr wr))
    case atStart => exact ⟨0, m, ⟨by omega⟩, rfl, HE0⟩
    case round =>
      clear HE0 HL
      obtain ⟨r, mr, HR, rfl, HE⟩ := hrel
      by_cases hr : r < 2
      · have HM : Aside (2 - (r + 1) < gk ∧ r + 1 + (2 - (r + 1)) = 2) := ⟨by have := HR.out; omega⟩
        have hr' : (r : Int) < 2 := by omega
        have hl1 := HE.out.l1
        have hl2 := HE.out.l2
        have hl3 := HE.out.l3
        obtain ⟨k0, k1, k2, k3, k4⟩ := five HE.out.cb
        have hcall := refMan_any HE.out.man (by omega) (by omega) (by omega)
        obtain ⟨w4, hw4⟩ : ∃ w4, w4 = wr := ⟨_, rfl⟩
        subst hw4
        go_wp2_with fail
        refine hcall.mono ?_
        clear hcall k0 k1 k2 k3 k4
        rintro e w5 ⟨vn, rfl, hmn, B5⟩
        have HE5 := Aside.mk (HE.out.below B5)
        have HMn := Aside.mk hmn
        obtain ⟨n1, n2, n3, rfl, hn1, hn2, hn3⟩ := hmn
        obtain ⟨Na, na, rfl, _⟩ := hn1.slice
        obtain ⟨Nb, nb, rfl, _⟩ := hn2.slice
        obtain ⟨Nc, nc, rfl, _⟩ := hn3.slice
        have bn := (Below.refl w5.heap.size w5).alloc (Nat.le_refl _) (.cells #[.int .i64 mr.Gen, .int .i64 mr.N, .slice Na mr.Cuts.length na, .slice Nb mr.Shards.length nb, .slice Nc mr.Degrees.length nc] 33)
        have HE6 := Aside.mk (HE5.out.below bn)
        have HN6 := Aside.mk (HMn.out.below bn)
        have HD6 := Aside.mk (heap_alloc_new w5 (.cells #[.int .i64 mr.Gen, .int .i64 mr.N, .slice Na mr.Cuts.length na, .slice Nb mr.Shards.length nb, .slice Nc mr.Degrees.length nc] 33))
        have hcall := pencode_any HE6.out.man (by omega) (by omega) (by omega)
        obtain ⟨k0, k1, k2, k3, k4⟩ := five HE6.out.cb
        clear hn1 hn2 hn3 B5 bn HE5 HMn HE
        go_wp2_with fail
        refine hcall.mono ?_
        intro e w7 hp
        obtain ⟨ha, da, rfl, hsa, hda, B7⟩ := enc_sl hp
        have HE7 := Aside.mk (HE6.out.below B7)
        have HN7 := Aside.mk (HN6.out.below B7)
        have HD7 := Aside.mk (bblk B7 HD6.out)
        have HSa := Aside.mk hsa
        have HDa := Aside.mk hda
        clear hsa hda B7 hp hcall k0 k1 k2 k3 k4 HE6 HN6 HD6
        obtain ⟨k0, k1, k2, k3, k4⟩ := five HD7.out
        have hcall := refEncode_any HN7.out (by omega) (by omega) (by omega)
        obtain ⟨en, hen⟩ : ∃ en, en = (encF mr).2.2 := ⟨_, rfl⟩
        rw [← hen]
        have HEn := Aside.mk hen
        clear hen
        go_wp2_with fail
        refine hcall.mono ?_
        intro e w8 hp
        obtain ⟨hb, db, rfl, hsb, hdb, B8⟩ := enc_sl hp
        rw [← HEn.out]
        have HE8 := Aside.mk (HE7.out.below B8)
        have HN8 := Aside.mk (HN7.out.below B8)
        have HD8 := Aside.mk (bblk B8 HD7.out)
        have HSa8 := Aside.mk (HSa.out.below B8)
        have HDa8 := Aside.mk (HDa.out.below B8)
        have HDb8 := Aside.mk hdb
        have hcall := SameBytes_any HSa8.out hsb
        rw [eqB_yes rfl] at hcall
        clear hsb hdb B8 hp k0 k1 k2 k3 k4 HE7 HN7 HD7 HSa HDa HSa8
        go_wp2_with fail
        refine hcall.mono ?_
        rintro e w9 ⟨rfl, rfl⟩
        have hcall := SameByteLists_any HDa8.out HDb8.out
        rw [eqB_yes rfl] at hcall
        clear HDa8 HDb8
        go_wp2_with fail
        refine hcall.mono ?_
        rintro e w10 ⟨rfl, ⟨⟨q10, rfl⟩⟩⟩
        have B10 : Below w9.heap.size w9 (w9.drewN q10) := bdrew (Below.refl _ _) q10
        have HE10 := Aside.mk (HE8.out.below B10)
        have HN10 := Aside.mk (HN8.out.below B10)
        have HD10 := Aside.mk (bblk B10 HD8.out)
        clear B10 HE8 HN8 HD8
        generalize w9.drewN q10 = w11 at *
        obtain ⟨k0, k1, k2, k3, k4⟩ := five HE10.out.cb
        obtain ⟨d0, d1, d2, d3, d4⟩ := five HD10.out
        have hcall := stays_any HE10.out.lent HN10.out hl1 hl2 hl3
        go_wp2_with fail
        refine hcall.mono ?_
        clear hcall k0 k1 k2 k3 k4 d0 d1 d2 d3 d4 HD10 HN10
        rintro e w12 ⟨rfl, B12⟩
        have HE12 := Aside.mk (HE10.out.below B12)
        have hne : (en != en) = false := by simp
        have hnum := num_any (w := w12) en
        clear B12 HE10 HEn
        go_wp2_with fail
        refine hnum.mono ?_
        clear hnum
        rintro e w13 ⟨rfl, rfl⟩
        obtain ⟨k0, k1, k2, k3, k4⟩ := five HE12.out.cb
        have hl1 := HE12.out.l1
        go_upto_if 83 with (fail)
        obtain ⟨lb, hlb⟩ : ∃ lb, decide (0 < mr.Cuts.length) = lb := ⟨_, rfl⟩
        have HLb : Aside (lb = true → 0 < mr.Cuts.length) := ⟨fun h => by rw [← hlb] at h; simpa using h⟩
        simp only [hlb]
        clear hlb
        go_cut [] from 83 to 97 (fun wx => ∃ mx : Man, Aside (LE w C lo C g1 c1 g2 c2 g3 c3 mx wx))
        case first =>
          cases lb with
          | false =>
            go_wp2
            go_meet
            case rel => exact ⟨_, HE12⟩
          | true =>
            obtain ⟨j, hj, hidx⟩ := idx_ok i (HLb.out rfl) (by omega)
            have hjn : (j : Int) < (mr.Cuts.length : Int) := by omega
            have hj0 : (0 : Int) ≤ (j : Int) := by omega
            have hn0 : mr.Cuts ≠ [] := fun e => by rw [e] at hj; simp at hj
            have bl1 : Below w13.heap.size w13 w13.drew := bdrew1 (Below.refl _ _)
            obtain ⟨q1, q2, q3⟩ := (HE12.out.below bl1).cut hj (wrap64 (mr.Cuts[j] + by_))
            obtain ⟨d0, d1, d2, d3, d4⟩ := five (HE12.out.below bl1).cb
            have HQ := Aside.mk q3
            clear q3 bl1 k0 k1 k2 k3 k4
            go_upto_region 19 with (fail)
            go_region
            all_goals go_wp2
            all_goals go_meet
            all_goals exact ⟨_, HQ⟩
        case rest =>
          obtain ⟨m1, HF1⟩ := hcut
          obtain ⟨y1, rfl⟩ : ∃ y, y = wc := ⟨_, rfl⟩
          clear k0 k1 k2 k3 k4 HLb
          obtain ⟨k0, k1, k2, k3, k4⟩ := five HF1.out.cb
          have hl2 := HF1.out.l2
          go_upto_if 102 with (fail)
          obtain ⟨lb, hlb⟩ : ∃ lb, decide (0 < m1.Shards.length) = lb := ⟨_, rfl⟩
          have HLb : Aside (lb = true → 0 < m1.Shards.length) := ⟨fun h => by rw [← hlb] at h; simpa using h⟩
          simp only [hlb]
          clear hlb
          go_cut [] from 102 to 118 (fun wx => ∃ mx : Man, Aside (LE w C lo C g1 c1 g2 c2 g3 c3 mx wx))
          case first =>
            cases lb with
            | false =>
              go_wp2
              go_meet
              case rel => exact ⟨_, HF1⟩
            | true =>
              obtain ⟨j, hj, hidx⟩ := idx_ok i (HLb.out rfl) (by omega)
              have hjn : (j : Int) < (m1.Shards.length : Int) := by omega
              have hj0 : (0 : Int) ≤ (j : Int) := by omega
              have hn0 : m1.Shards ≠ [] := fun e => by rw [e] at hj; simp at hj
              have bl1 : Below y1.heap.size y1 y1.drew := bdrew1 (Below.refl _ _)
              obtain ⟨q1, q2, q3⟩ := (HF1.out.below bl1).shard hj (wrap64 (m1.Shards[j].Size + by_))
              obtain ⟨d0, d1, d2, d3, d4⟩ := five (HF1.out.below bl1).cb
              have HQ := Aside.mk q3
              clear q3 bl1 k0 k1 k2 k3 k4
              go_upto_region 22 with (fail)
              go_region
              all_goals go_wp2
              all_goals go_meet
              all_goals exact ⟨_, HQ⟩
          case rest =>
            obtain ⟨m2, HF2⟩ := hcut
            obtain ⟨y2, rfl⟩ : ∃ y, y = wc := ⟨_, rfl⟩
            clear k0 k1 k2 k3 k4 HLb
            obtain ⟨k0, k1, k2, k3, k4⟩ := five HF2.out.cb
            have hl3 := HF2.out.l3
            go_upto_if 123 with (fail)
            obtain ⟨lb, hlb⟩ : ∃ lb, decide (0 < m2.Degrees.length) = lb := ⟨_, rfl⟩
            have HLb : Aside (lb = true → 0 < m2.Degrees.length) := ⟨fun h => by rw [← hlb] at h; simpa using h⟩
            simp only [hlb]
            clear hlb
            cases lb with
            | false =>
              go_wp2
              go_roundg (2 - (r + 1))
              case measure => exact HM.out.1
              case rel => exact ⟨r + 1, _, ⟨HM.out.2⟩, by go_num, HF2⟩
            | true =>
              obtain ⟨j, hj, hidx⟩ := idx_ok i (HLb.out rfl) (by omega)
              have hjn : (j : Int) < (m2.Degrees.length : Int) := by omega
              have hj0 : (0 : Int) ≤ (j : Int) := by omega
              have hn0 : m2.Degrees ≠ [] := fun e => by rw [e] at hj; simp at hj
              have bl1 : Below y2.heap.size y2 y2.drew := bdrew1 (Below.refl _ _)
              obtain ⟨q1, q2, q3⟩ := (HF2.out.below bl1).deg hj (wrap64 (m2.Degrees[j] + by_))
              obtain ⟨d0, d1, d2, d3, d4⟩ := five (HF2.out.below bl1).cb
              have HQ := Aside.mk q3
              clear q3 bl1 k0 k1 k2 k3 k4
              go_upto_region 25 with (fail)
              go_region
              all_goals go_wp2
              go_roundg (2 - (r + 1))
              case measure => exact HM.out.1
              case rel => exact ⟨r + 1, _, ⟨HM.out.2⟩, by go_num, HQ⟩
      · replace hr : ¬ ((r : Int) < 2) := by omega
        have HP := Aside.mk HE.out.bel
        go_wp2
        go_ret
        exact ⟨rfl, HP.out⟩
end Go.Proofs.YtgbladpoglhleaaGreatDoor
