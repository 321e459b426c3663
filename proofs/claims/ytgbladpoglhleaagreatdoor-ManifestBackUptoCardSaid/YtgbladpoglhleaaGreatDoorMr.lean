/- The document's May. No condition. -/
import Derived.Test.YtgbladpoglhleaaGreatDoorMw
namespace Go.Proofs.YtgbladpoglhleaaGreatDoor
open Go.RowKit
set_option maxHeartbeats 1000000 in
theorem refCount_any {w : World} (n : Int) : Calls Tryz.prog 83 #[.int .i64 n] w fun e w' => e = .returned (.bool (cntOk n)) ∧ w' = w := by
  have HE : Aside (cntOk n = (decide (0 ≤ n) && decide (n ≤ 2147483647))) := ⟨rfl⟩
  generalize cntOk n = q at *
  by_cases h0 : 0 ≤ n
  · by_cases h1 : n ≤ 2147483647
    · go_enter Tryz.func83, Tryz.ntmps83
      go_wp2
      go_ret
      exact ⟨retb (by rw [HE.out, decide_eq_true h0, decide_eq_true h1]; first | rfl | simp), rfl⟩
    · have f1 : decide (n ≤ 2147483647) = false := decide_eq_false h1
      rw [f1] at HE
      replace h1 : 2147483647 < n := by omega
      go_enter Tryz.func83, Tryz.ntmps83
      go_wp2
      go_ret
      exact ⟨retb (by rw [HE.out]; simp), rfl⟩
  · have f0 : decide (0 ≤ n) = false := decide_eq_false h0
    rw [f0] at HE
    replace h0 : n < 0 := by omega
    go_enter Tryz.func83, Tryz.ntmps83
    go_wp2
    go_ret
    exact ⟨retb (by rw [HE.out]; rfl), rfl⟩
set_option maxHeartbeats 1000000 in
set_option maxRecDepth 100000 in
theorem range_any {w : World} {ok : Nat → Prop} {A : Option Addr} {c : Nat} {cuts : List Int} {i : Nat} (hs : Sl kint w ok (.slice A cuts.length c) cuts) (hi : i < cuts.length) (hl : cuts.length ≤ 16777216) :
    Calls Tryz.prog 84 #[.slice A cuts.length c, .int .i64 i] w fun e w' => e = .returned (.tuple #[.int .i64 (loF cuts i), .int .i64 (cuts.getD i 0)]) ∧ Same w w' := by
  obtain ⟨b, o, e, k⟩ := hs.int i hi
  cases e
  have HP : Aside (cuts.getD i 0 = cuts[i]) := ⟨by rw [List.getD_eq_getElem?_getD, List.getElem?_eq_getElem hi]; rfl⟩
  rw [HP.out]
  have hS : Aside (∀ n, Same w (w.drewN n)) := ⟨fun n => ⟨⟨n, rfl⟩⟩⟩
  cases i with
  | zero =>
    have HL : Aside (loF cuts 0 = 0) := ⟨rfl⟩
    rw [HL.out]
    have hne : cuts ≠ [] := by intro h; simp [h] at hi
    rw [Nat.add_zero] at k
    generalize cuts[0] = x at *
    clear hs
    go_enter Tryz.func84, Tryz.ntmps84
    go_wp2
    go_quiet (fail)
    go_wp2
    go_ret2
    exact ⟨rfl, hS.out _⟩
  | succ i =>
    obtain ⟨b', o', e, k'⟩ := hs.int i (by omega)
    cases e
    have HL : Aside (loF cuts (i + 1) = cuts[i]) := ⟨by rw [lo_succ, List.getD_eq_getElem?_getD, List.getElem?_eq_getElem (by omega)]; rfl⟩
    rw [HL.out]
    generalize cuts[i + 1] = x at *
    generalize cuts[i] = y at *
    clear hs
    have e0 : (((i + 1 : Nat) : Int) == 0) = false := beq_false_of_ne (by omega)
    have e1 : ((i + 1 : Nat) : Int) - 1 = (i : Int) := by omega
    go_enter Tryz.func84, Tryz.ntmps84
    go_wp2
    go_quiet (fail)
    go_wp2
    go_ret2
    exact ⟨rfl, hS.out _⟩
set_option maxHeartbeats 8000000 in
set_option maxRecDepth 100000 in
theorem refMay_any {w : World} {ok : Nat → Prop} {v : Value} {m : Man} (hx : ManV w ok v m) (hl1 : m.Cuts.length ≤ 16777216) (hl2 : m.Shards.length ≤ 16777216) (hl3 : m.Degrees.length ≤ 16777216) : Calls Tryz.prog 53 #[v] w (MayPost w m) := by
  have HX := Aside.mk hx
  obtain ⟨a, b, c, rfl, h1, h2, h3⟩ := hx
  obtain ⟨Aa, ca, rfl, _⟩ := h1.slice
  obtain ⟨Ab, cb, rfl, _⟩ := h2.slice
  obtain ⟨Ac, cc, rfl, _⟩ := h3.slice
  have H1 := Aside.mk h1
  have H2 := Aside.mk h2
  have H3 := Aside.mk h3
  have HL := Aside.mk (And.intro hl1 (And.intro hl2 hl3))
  clear h1 h2 h3 hl1 hl2 hl3
  go_enter Tryz.func53, Tryz.ntmps53
  go_upto_region 0 with (fail)
  go_cut [1] (fun v1 wx => v1 = .pointer (some ⟨w.heap.size, 0, none⟩) ∧ wx = w.alloc (.cells #[.int .i64 m.Gen, .int .i64 m.N, .slice Aa m.Cuts.length ca, .slice Ab m.Shards.length cb, .slice Ac m.Degrees.length cc] 33))
  case first =>
    go_wp2
    go_meet
    case rel => exact ⟨rfl, rfl⟩
  case rest =>
    obtain ⟨rfl, hwc⟩ := hcut
    have hb0 : Below w.heap.size w wc := by rw [hwc]; exact (Below.refl _ w).alloc (Nat.le_refl _) _
    have hm0 : wc.heap[w.heap.size]? = some (.cells #[.int .i64 m.Gen, .int .i64 m.N, .slice Aa m.Cuts.length ca, .slice Ab m.Shards.length cb, .slice Ac m.Degrees.length cc] 33 (0, 0)) := by rw [hwc]; exact heap_alloc_new w _
    clear hwc
    obtain ⟨k0, k1, k2, k3, k4⟩ := five hm0
    have HB0 := Aside.mk hb0
    have HM0 := Aside.mk hm0
    clear hb0 hm0
    have hcall := refNew_any (n := m.N) (H1.out.below HB0.out) HL.out.1
    go_wp2_with fail
    refine hcall.mono ?_
    clear hcall
    rintro e w1 ⟨⟨hyes, hno⟩, B1⟩
    have HB1 := Aside.mk (bthen HB0.out HB0.out.size B1)
    have hm1 := bblk B1 HM0.out
    clear k0 k1 k2 k3 k4
    have hsz0 := B1.size
    have hszm := HB0.out.size
    clear B1 HB0 HM0
    obtain ⟨k0, k1, k2, k3, k4⟩ := five hm1
    have HM1 := Aside.mk hm1
    clear hm1
    by_cases g5 : layErr m.N m.Cuts = 0
    · have HLy := Aside.mk (lay_ok g5)
      have HG5 := Aside.mk g5
      obtain ⟨vc, rfl, hoc⟩ := hyes g5
      clear hno hyes g5
      have HC := Aside.mk (own_ints hoc).sl
      obtain ⟨A1, c1, rfl, _⟩ := HC.out.slice
      clear hoc hsz0 hszm
      by_cases g1 : m.Gen < 1
      · have HP : Aside (MayPost w m (.returned (.bool false)) w1) := ⟨may_no (may_gen (by omega)) HB1.out⟩
        go_wp2
        go_ret
        exact HP.out
      have f1 : decide (m.Gen < 1) = false := decide_eq_false g1
      by_cases g2 : 2147483647 < m.Gen
      · have HP : Aside (MayPost w m (.returned (.bool false)) w1) := ⟨may_no (may_gen (by omega)) HB1.out⟩
        clear g1
        go_wp2
        go_ret
        exact HP.out
      have f2 : decide (2147483647 < m.Gen) = false := decide_eq_false g2
      have HG : Aside (1 ≤ m.Gen ∧ m.Gen ≤ 2147483647) := ⟨by omega⟩
      clear g1 g2
      by_cases g3 : m.Shards.length = m.Cuts.length
      · obtain ⟨e1, e2, e3, e4⟩ := natEq g3
        have HG3 := Aside.mk g3
        clear g3
        by_cases g4 : (m.Degrees.length : Int) = m.N
        · have e5 : ((m.Degrees.length : Int) != m.N) = false := by simpa using g4
          have e6 : ((m.Degrees.length : Int) == m.N) = true := by simpa using g4
          have HG4 := Aside.mk g4
          clear g4
          have HI0 : Aside (∀ x ∈ m.Degrees.take 0, 0 ≤ x ∧ x < m.N) := ⟨by simp⟩
          obtain ⟨W1, hW1⟩ : ∃ W1, W1 = w1 := ⟨_, rfl⟩
          subst hW1
          have HW0 : Aside (Below W1.heap.size W1 W1) := ⟨Below.refl _ _⟩
          have Hh4 := Aside.mk (fun (q : Nat) (hq : q < m.Degrees.length) (hb : ¬ (0 ≤ m.Degrees[q] ∧ m.Degrees[q] < m.N)) => may_deg (m := m) hq hb)
          go_wp2
          clear k0 k1 k2 k3 k4
          go_loopg [5] m.Degrees.length (fun kq v5 wr => ∃ (u : Nat), Aside (u + kq = m.Degrees.length) ∧ v5 = .int .i64 u ∧ Aside (Below W1.heap.size W1 wr) ∧ Aside (∀ x ∈ m.Degrees.take u, 0 ≤ x ∧ x < m.N))
          case atStart => exact ⟨0, ⟨by omega⟩, rfl, HW0, HI0⟩
          case round =>
            clear HI0 HW0
            obtain ⟨u, HIu, rfl, HBr, HVu⟩ := hrel
            have hmr := bblk HBr.out HM1.out
            obtain ⟨k0, k1, k2, k3, k4⟩ := five hmr
            clear hmr
            have HBf := Aside.mk (bthen HB1.out HB1.out.size HBr.out)
            by_cases hu : u < m.Degrees.length
            · obtain ⟨bd, od, e, kd⟩ := (H3.out.below HBf.out).int u hu
              cases e
              have HTk := Aside.mk (take_snoc hu)
              have HBad := Aside.mk (Hh4.out u hu)
              have hM2 : m.Degrees.length - (u + 1) < gk ∧ u + 1 + (m.Degrees.length - (u + 1)) = m.Degrees.length := by have := HIu.out; omega
              have HM2 := Aside.mk hM2
              have huN : (u : Int) < m.N := by have := HG4.out; omega
              generalize m.Degrees[u] = d at *
              clear hM2
              by_cases hd0 : d < 0
              · have HP : Aside (∀ n, MayPost w m (.returned (.bool false)) (wr.drewN n)) := ⟨fun n => may_no (HBad.out (by omega)) (bdrew HBf.out n)⟩
                have e10 : decide (d < 0) = true := decide_eq_true hd0
                clear hd0
                go_wp2
                go_quiet (fail)
                go_wp2
                go_ret
                exact HP.out _
              by_cases hd1 : m.N ≤ d
              · have HP : Aside (∀ n, MayPost w m (.returned (.bool false)) (wr.drewN n)) := ⟨fun n => may_no (HBad.out (by omega)) (bdrew HBf.out n)⟩
                have e10 : decide (d < 0) = false := decide_eq_false hd0
                have e11 : decide (m.N ≤ d) = true := decide_eq_true hd1
                clear hd0 hd1
                go_wp2
                go_quiet (fail)
                go_wp2
                go_ret
                exact HP.out _
              · have e10 : decide (d < 0) = false := decide_eq_false hd0
                have e11 : decide (m.N ≤ d) = false := decide_eq_false hd1
                have HV2 : Aside (∀ x ∈ m.Degrees.take (u + 1), 0 ≤ x ∧ x < m.N) := ⟨fun y hy => by
                  rw [HTk.out] at hy
                  rcases List.mem_append.1 hy with hy | hy
                  · exact HVu.out y hy
                  · rw [List.mem_singleton.1 hy]; omega⟩
                clear hd0 hd1
                go_wp2
                go_quiet (fail)
                go_wp2
                go_roundg (m.Degrees.length - (u + 1))
                case measure => exact HM2.out.1
                case rel => exact ⟨u + 1, ⟨HM2.out.2⟩, by go_num, ⟨bdrew HBr.out _⟩, HV2⟩
            · have huN : m.N ≤ (u : Int) := by have := HG4.out; omega
              have HD : Aside (∀ x ∈ m.Degrees, 0 ≤ x ∧ x < m.N) := ⟨by have := HVu.out; rw [List.take_of_length_le (by omega)] at this; exact this⟩
              have HI0 : Aside ((List.range 0).all (shAt m) = true) := ⟨rfl⟩
              obtain ⟨W2, hW2⟩ : ∃ W2, W2 = wr := ⟨_, rfl⟩
              subst hW2
              have HW0 : Aside (Below W2.heap.size W2 W2) := ⟨Below.refl _ _⟩
              have HM2 := Aside.mk (bblk HBr.out HM1.out)
              clear HVu
              go_wp2
              clear k0 k1 k2 k3 k4
              go_loopg [6] m.Shards.length (fun kq v6 wr => ∃ (i : Nat), Aside (i + kq = m.Shards.length) ∧ v6 = .int .i64 i ∧ Aside (Below W2.heap.size W2 wr) ∧ Aside ((List.range i).all (shAt m) = true))
              case atStart => exact ⟨0, ⟨by omega⟩, rfl, HW0, HI0⟩
              case round =>
                clear HI0 HW0
                obtain ⟨i, HI, rfl, HB, HV⟩ := hrel
                have hmr := bblk HB.out HM2.out
                obtain ⟨k0, k1, k2, k3, k4⟩ := five hmr
                clear hmr
                have HB2 := Aside.mk (bthen HBf.out HBf.out.size HB.out)
                by_cases hi : i < m.Shards.length
                · obtain ⟨bs, os, e, s0, s1, s2⟩ := (H2.out.below HB2.out).info i hi
                  cases e
                  have HM : Aside (m.Shards.length - (i + 1) < gk ∧ i + 1 + (m.Shards.length - (i + 1)) = m.Shards.length) := ⟨by have := HI.out; omega⟩
                  have HSh : Aside (shAt m i = shOk m.Degrees (loF m.Cuts i) (m.Cuts.getD i 0) m.Shards[i]) := ⟨by unfold shAt; rw [show m.Shards.getD i iD = m.Shards[i] by rw [List.getD_eq_getElem?_getD, List.getElem?_eq_getElem hi]; rfl]⟩
                  have HNo := Aside.mk (fun h => may_shard (m := m) hi h)
                  generalize m.Shards[i] = sh at *
                  have hic : i < m.Cuts.length := by have := HG3.out; omega
                  obtain ⟨hly1, hly2, hly3, hly4, hly5, hly6⟩ := HLy.out
                  have q1 := hly5 i hic
                  have q2 := hly6 i (by omega)
                  have q3 := hly6 (i + 1) (by omega)
                  rw [lo_succ] at q3
                  have hrange := range_any ((HC.out.below HBr.out).below HB.out) hic (by omega)
                  have HNN := Aside.mk (And.intro hly2 hly3)
                  obtain ⟨xn, hxn⟩ : ∃ xn : Nat, m.Cuts.getD i 0 = (xn : Int) := ⟨(m.Cuts.getD i 0).toNat, by omega⟩
                  obtain ⟨lo, hlo⟩ : ∃ lo : Nat, loF m.Cuts i = (lo : Int) := ⟨(loF m.Cuts i).toNat, by omega⟩
                  rw [hxn, hlo] at hrange HSh
                  rw [hxn] at q1 q3
                  rw [hlo] at q1 q2
                  have hxN : xn ≤ m.Degrees.length := by have := HG4.out; omega
                  have hxM : xn ≤ 16777216 := by omega
                  have HLoX := Aside.mk (And.intro (by omega : lo ≤ xn) (And.intro hxN hxM))
                  have HS0 : Aside ((lo ≤ lo ∧ lo ≤ xn) ∧ (0 : Int) = segSum m.Degrees lo lo ∧ (0 : Int) ≤ 0 ∧ (0 : Int) ≤ (lo : Int) * 16777216) := ⟨⟨Nat.le_refl _, by omega⟩, (seg_none _ _).symm, Int.le_refl _, by omega⟩
                  have HShE : Aside (shAt m i = ((cntOk sh.Size && cntOk sh.Arcs) && decide (sh.Arcs = segSum m.Degrees lo xn))) := ⟨by rw [HSh.out]; unfold shOk; rw [Int.toNat_natCast, Int.toNat_natCast]⟩
                  clear hly1 hly2 hly3 hly4 hly5 hly6 q1 q2 q3 hxn hlo hxN hxM
                  have HPn : Aside (∀ w', shAt m i = false → Below w.heap.size w w' → MayPost w m (.returned (.bool false)) w') := ⟨fun w' h hb => may_no (HNo.out h) hb⟩
                  have HNx : Aside (shAt m i = true → ((List.range (i + 1)).all (shAt m) = true)) := ⟨fun h => by rw [range_all_succ, HV.out, h]; rfl⟩
                  have hc1 := refCount_any (w := wr) sh.Size
                  have hc2 := refCount_any (w := wr) sh.Arcs
                  generalize cntOk sh.Size = b1 at *
                  generalize cntOk sh.Arcs = b2 at *
                  generalize sh.Size = z0 at *
                  generalize sh.Arcs = z2 at *
                  obtain ⟨w3, hw3⟩ : ∃ w3, w3 = wr := ⟨_, rfl⟩
                  subst hw3
                  have HS2 := Aside.mk s2
                  have HK := Aside.mk (And.intro k1 (And.intro k3 k4))
                  cases b1 with
                  | false =>
                    have HPz := Aside.mk (HPn.out w3 HShE.out HB2.out)
                    go_wp2_with fail
                    refine hc1.mono ?_
                    rintro e wa ⟨rfl, hwa⟩
                    subst wa
                    go_wp2_with fail
                    refine hc2.mono ?_
                    rintro e wa ⟨rfl, hwa⟩
                    subst wa
                    go_wp2
                    go_ret
                    exact HPz.out
                  | true =>
                    cases b2 with
                    | false =>
                      have HPz := Aside.mk (HPn.out w3 HShE.out HB2.out)
                      go_wp2_with fail
                      refine hc1.mono ?_
                      rintro e wa ⟨rfl, hwa⟩
                      subst wa
                      go_wp2_with fail
                      refine hc2.mono ?_
                      rintro e wa ⟨rfl, hwa⟩
                      subst wa
                      go_wp2
                      go_ret
                      exact HPz.out
                    | true =>
                      go_wp2_with fail
                      refine hc1.mono ?_
                      rintro e wa ⟨rfl, hwa⟩
                      subst wa
                      go_wp2_with fail
                      refine hc2.mono ?_
                      rintro e wa ⟨rfl, hwa⟩
                      subst wa
                      go_wp2_with fail
                      refine hrange.mono ?_
                      rintro e w5 ⟨rfl, ⟨⟨nn, rfl⟩⟩⟩
                      have HBw : Aside (Below w3.heap.size w3 (w3.drewN nn)) := ⟨bdrew (Below.refl _ _) nn⟩
                      clear hc1 hc2 hrange
                      go_wp2
                      clear k0 k1 k2 k3 k4 s0 s1 s2
                      go_loopg [11, 12] (xn - lo) (fun kq v11 v12 wr => ∃ (u : Nat) (arcs : Int), Aside (u + kq = xn) ∧ v12 = .int .i64 u ∧ v11 = .int .i64 arcs ∧ Aside (Below w3.heap.size w3 wr) ∧ Aside ((lo ≤ u ∧ u ≤ xn) ∧ arcs = segSum m.Degrees lo u ∧ 0 ≤ arcs ∧ arcs ≤ (u : Int) * 16777216))
                      case atStart => exact ⟨lo, 0, ⟨by have := HLoX.out; omega⟩, rfl, rfl, HBw, HS0⟩
                      case round =>
                        clear HBw HS0
                        obtain ⟨u, arcs, HIu, rfl, rfl, HBu, HVu⟩ := hrel
                        have k1 := bcell HBu.out HK.out.1
                        have k3 := bcell HBu.out HK.out.2.1
                        have k4 := bcell HBu.out HK.out.2.2
                        have s2 := bcell HBu.out HS2.out
                        have HBz := Aside.mk (bthen HB2.out HB2.out.size HBu.out)
                        by_cases hu : u < xn
                        · have hud : u < m.Degrees.length := by have := HLoX.out; omega
                          obtain ⟨bd, od, e, kd⟩ := (H3.out.below HBz.out).int u hud
                          cases e
                          have hsg := seg_step hud HVu.out.1.1
                          have hdd := HD.out m.Degrees[u] (List.getElem_mem hud)
                          obtain ⟨_, hv2, hv3, hv4⟩ := HVu.out
                          rw [← hv2] at hsg
                          have hM2 : xn - (u + 1) < gk ∧ u + 1 + (xn - (u + 1)) = xn := by have := HIu.out; omega
                          have HM2 := Aside.mk hM2
                          generalize m.Degrees[u] = d at *
                          obtain ⟨hn0, hn1⟩ := HNN.out
                          have hxM := HLoX.out.2.2
                          have HV2 : Aside ((lo ≤ u + 1 ∧ u + 1 ≤ xn) ∧ arcs + d = segSum m.Degrees lo (u + 1) ∧ 0 ≤ arcs + d ∧ arcs + d ≤ ((u + 1 : Nat) : Int) * 16777216) := ⟨⟨by have := HVu.out.1; omega, by omega⟩, hsg.symm, by omega, by omega⟩
                          have r1 : -9223372036854775808 ≤ arcs + d := by omega
                          have r2 : arcs + d ≤ 9223372036854775807 := by omega
                          clear hsg hM2 hv2 hv3 hv4 hdd hn0 hn1 hxM
                          go_wp2
                          go_roundg (xn - (u + 1))
                          case measure => exact HM2.out.1
                          case rel => exact ⟨u + 1, arcs + d, ⟨HM2.out.2⟩, by go_num, rfl, HBu, HV2⟩
                        · have hux : u = xn := by have := HVu.out.1.2; omega
                          subst hux
                          have HBW := Aside.mk (bthen HB.out HB.out.size HBu.out)
                          by_cases hz : z2 = arcs
                          · have HNz := Aside.mk (HNx.out (by rw [HShE.out, ← HVu.out.2.1, decide_eq_true hz]; rfl))
                            have e12 : (arcs == z2) = true := by simpa using hz.symm
                            have e13 : (arcs != z2) = false := by simpa using hz.symm
                            clear hz
                            go_wp2
                            go_roundg (m.Shards.length - (i + 1))
                            case measure => exact HM.out.1
                            case rel => exact ⟨i + 1, ⟨HM.out.2⟩, by go_num, HBW, HNz⟩
                          · have HPz := Aside.mk (HPn.out wr (by rw [HShE.out, ← HVu.out.2.1, decide_eq_false hz]; rfl) HBz.out)
                            have e12 : (arcs == z2) = false := by simpa using Ne.symm hz
                            have e13 : (arcs != z2) = true := by simpa using Ne.symm hz
                            clear hz
                            go_wp2
                            go_ret
                            exact HPz.out
                · have hie : i = m.Shards.length := by have := HI.out; omega
                  have HP : Aside (MayPost w m (.returned (.bool true)) wr) := ⟨⟨retb (may_yes HG.out HG5.out HG3.out HG4.out HD.out (by have := HV.out; rw [hie] at this; exact this)), HB2.out⟩⟩
                  clear hie
                  replace hi : m.Shards.length ≤ i := by omega
                  go_wp2
                  go_ret
                  exact HP.out
        · have HP : Aside (MayPost w m (.returned (.bool false)) w1) := ⟨may_no (may_dl g4) HB1.out⟩
          have e5 : ((m.Degrees.length : Int) != m.N) = true := by simpa using g4
          have e6 : ((m.Degrees.length : Int) == m.N) = false := by simpa using g4
          clear g4
          go_wp2
          go_ret
          exact HP.out
      · have HP : Aside (MayPost w m (.returned (.bool false)) w1) := ⟨may_no (may_sh g3) HB1.out⟩
        obtain ⟨e1, e2, e3, e4⟩ := natNe g3
        clear g3
        go_wp2
        go_ret
        exact HP.out
    · have e := hno g5
      subst e
      have HP : Aside (∀ n, MayPost w m (.returned (.bool false)) (w1.drewN n)) := ⟨fun n => may_no (may_lay g5) (bdrew HB1.out n)⟩
      have HP0 : Aside (MayPost w m (.returned (.bool false)) w1) := ⟨may_no (may_lay g5) HB1.out⟩
      obtain ⟨le, hle⟩ : ∃ le, le = layErr m.N m.Cuts := ⟨_, rfl⟩
      rw [← hle] at g5 ⊢
      have e7 : (le != 0) = true := by simpa using g5
      have e8 : (le == 0) = false := by simpa using g5
      clear g5 hle hyes hno hsz0 hszm
      by_cases g1 : m.Gen < 1
      · go_wp2
        go_ret
        exact HP0.out
      · by_cases g2 : 2147483647 < m.Gen
        · have f1 : decide (m.Gen < 1) = false := decide_eq_false g1
          clear g1
          go_wp2
          go_ret
          exact HP0.out
        · have f1 : decide (m.Gen < 1) = false := decide_eq_false g1
          have f2 : decide (2147483647 < m.Gen) = false := decide_eq_false g2
          clear g1 g2
          go_wp2
          go_ret
          exact HP0.out
end Go.Proofs.YtgbladpoglhleaaGreatDoor
