/- The law's own word on which manifests may be (chapter 14) walked: it answers as the program's does. No condition but the lists' lengths. -/
import Derived.Test.YtgbladpoglhleaaGreatDoorMw
namespace Go.Proofs.YtgbladpoglhleaaGreatDoor
open Go.RowKit
theorem shAt_eq {m : Man} {i : Nat} (hi : i < m.Shards.length) : shAt m i = shOk m.Degrees (loF m.Cuts i) (m.Cuts.getD i 0) m.Shards[i] := by
  unfold shAt
  rw [show m.Shards.getD i iD = m.Shards[i] by rw [List.getD_eq_getElem?_getD, List.getElem?_eq_getElem hi]; rfl]
theorem sh_size {ds : List Int} {lo hi : Int} {s : Info} (h : s.Size < 0 ∨ 2147483647 < s.Size ∨ 2147483647 < s.Arcs) : shOk ds lo hi s = false := by
  unfold shOk cntOk
  rcases h with h | h | h
  · rw [decide_eq_false (show ¬ 0 ≤ s.Size by omega)]; simp
  · rw [decide_eq_false (show ¬ s.Size ≤ 2147483647 by omega)]; simp
  · rw [decide_eq_false (show ¬ s.Arcs ≤ 2147483647 by omega)]; simp
/-- What holds behind i shards: the last cut is v. -/
structure LInvM (m : Man) (i v : Nat) : Prop where
  lo : (v : Int) = loF m.Cuts i
  le : v ≤ m.Degrees.length
  rise : (m.Cuts.take i).foldlM riseStep 0 = some (v : Int)
  deg : ∀ x ∈ m.Degrees.take v, 0 ≤ x ∧ x < m.N
  sh : (List.range i).all (shAt m) = true
set_option maxHeartbeats 8000000 in
set_option maxRecDepth 100000 in
theorem lmay_any {w : World} {ok : Nat → Prop} {v : Value} {m : Man} (hx : ManV w ok v m) (hl1 : m.Cuts.length ≤ 2000) (hl2 : m.Shards.length ≤ 2000) (hl3 : m.Degrees.length ≤ 5000) : Calls Tryz.prog 31 #[v] w (MayPost w m) := by
  obtain ⟨a, b, c, rfl, h1, h2, h3⟩ := hx
  obtain ⟨Aa, ca, rfl, _⟩ := h1.slice
  obtain ⟨Ab, cb, rfl, _⟩ := h2.slice
  obtain ⟨Ac, cc, rfl, _⟩ := h3.slice
  have H1 := Aside.mk h1
  have H2 := Aside.mk h2
  have H3 := Aside.mk h3
  have HL := Aside.mk (And.intro hl1 (And.intro hl2 hl3))
  clear h1 h2 h3 hl1 hl2 hl3
  go_enter Tryz.func31, Tryz.ntmps31
  go_upto_region 0 with (fail)
  go_cut [1] (fun v1 wx => v1 = .pointer (some ⟨w.heap.size, 0, none⟩) ∧ wx = w.alloc (.cells #[.int .i64 m.Gen, .int .i64 m.N, .slice Aa m.Cuts.length ca, .slice Ab m.Shards.length cb, .slice Ac m.Degrees.length cc] 33))
  case first =>
    go_wp2
    go_meet
    case rel => exact ⟨rfl, rfl⟩
  case rest =>
    obtain ⟨rfl, hwc⟩ := hcut
    have hb0 : Below w.heap.size w wc := by rw [hwc]; exact (Below.refl _ w).alloc (Nat.le_refl _) _
    have hm0 : wc.heap[w.heap.size]? = some (.cells #[.int .i64 m.Gen, .int .i64 m.N, .slice Aa m.Cuts.length ca, .slice Ab m.Shards.length cb, .slice Ac m.Degrees.length cc] 33 (0, 0)) := by rw [hwc]; exact heap_alloc_new w _
    clear hwc
    obtain ⟨k0, k1, k2, k3, k4⟩ := five hm0
    have HB0 := Aside.mk hb0
    have HM0 := Aside.mk hm0
    clear hb0 hm0
    by_cases g1 : m.Gen < 1
    · have HP : Aside (MayPost w m (.returned (.bool false)) wc) := ⟨may_no (may_gen (by omega)) HB0.out⟩
      go_wp2
      go_ret
      exact HP.out
    have f1 : decide (m.Gen < 1) = false := decide_eq_false g1
    by_cases g2 : 2147483647 < m.Gen
    · have HP : Aside (MayPost w m (.returned (.bool false)) wc) := ⟨may_no (may_gen (by omega)) HB0.out⟩
      clear g1
      go_wp2
      go_ret
      exact HP.out
    have f2 : decide (2147483647 < m.Gen) = false := decide_eq_false g2
    have HG : Aside (1 ≤ m.Gen ∧ m.Gen ≤ 2147483647) := ⟨by omega⟩
    clear g1 g2
    by_cases g3 : m.N < 0
    · have HP : Aside (MayPost w m (.returned (.bool false)) wc) := ⟨may_no (may_lay fun h => by have := lay_ok h; omega) HB0.out⟩
      go_wp2
      go_ret
      exact HP.out
    have f3 : decide (m.N < 0) = false := decide_eq_false g3
    have HN0 : Aside (0 ≤ m.N) := ⟨by omega⟩
    clear g3
    by_cases g4 : (m.Degrees.length : Int) = m.N
    · have e5 : ((m.Degrees.length : Int) != m.N) = false := by simpa using g4
      have e6 : ((m.Degrees.length : Int) == m.N) = true := by simpa using g4
      have HG4 := Aside.mk g4
      clear g4
      by_cases g3 : m.Cuts.length = m.Shards.length
      · obtain ⟨e1, e2, e3, e4⟩ := natEq g3
        have HG3 := Aside.mk g3
        clear g3
        by_cases g6 : 1000 < m.Cuts.length
        · have HP : Aside (MayPost w m (.returned (.bool false)) wc) := ⟨may_no (may_lay fun h => by have := lay_ok h; omega) HB0.out⟩
          have d1 : decide ((1000 : Int) < (m.Cuts.length : Int)) = true := decide_eq_true (by omega)
          have d2 : decide (1000 < m.Cuts.length) = true := decide_eq_true g6
          go_wp2
          go_ret
          exact HP.out
        · have d1 : decide ((1000 : Int) < (m.Cuts.length : Int)) = false := decide_eq_false (by omega)
          have d2 : decide (1000 < m.Cuts.length) = false := decide_eq_false g6
          have HG6 : Aside (m.Cuts.length ≤ 1000) := ⟨by omega⟩
          replace g6 : m.Cuts.length ≤ 1000 := by omega
          have HI0 : Aside (LInvM m 0 0) := ⟨⟨rfl, Nat.zero_le _, rfl, by simp, rfl⟩⟩
          obtain ⟨W1, hW1⟩ : ∃ W1, W1 = wc := ⟨_, rfl⟩
          subst hW1
          have HW0 : Aside (Below W1.heap.size W1 W1) := ⟨Below.refl _ _⟩
          go_wp2
          clear k0 k1 k2 k3 k4
          go_loopg [3, 4] m.Cuts.length (fun kq v3 v4 wr => ∃ (i v : Nat), Aside (i + kq = m.Cuts.length) ∧ v4 = .int .i64 i ∧ v3 = .int .i64 v ∧ Aside (Below W1.heap.size W1 wr) ∧ Aside (LInvM m i v))
          case atStart => exact ⟨0, 0, ⟨by omega⟩, rfl, rfl, HW0, HI0⟩
          case round =>
            clear HI0 HW0
            obtain ⟨i, v, HI, rfl, rfl, HB, HV⟩ := hrel
            by_cases hi : i < m.Cuts.length
            · have his : i < m.Shards.length := by have := HG3.out; omega
              obtain ⟨bs, os, e, s0, s1, s2⟩ := ((H2.out.below HB0.out).below HB.out).info i his
              cases e
              obtain ⟨bc, oc, e, kc⟩ := ((H1.out.below HB0.out).below HB.out).int i hi
              cases e
              have HM : Aside (m.Cuts.length - (i + 1) < gk ∧ i + 1 + (m.Cuts.length - (i + 1)) = m.Cuts.length) := ⟨by have := HI.out; omega⟩
              have hgd : m.Cuts.getD i 0 = m.Cuts[i] := by rw [List.getD_eq_getElem?_getD, List.getElem?_eq_getElem hi]; rfl
              have hSh := shAt_eq his
              rw [← HV.out.lo, hgd] at hSh
              have HSh := Aside.mk hSh
              have HNo := Aside.mk (fun h => may_shard (m := m) his h)
              have hNl : (m.Cuts[i] ≤ (v : Int) ∨ m.N < m.Cuts[i]) → mayF m = false := fun h => may_lay fun hl => by
                have q := lay_ok hl
                have q1 := q.2.2.2.2.1 i hi
                have q2 := q.2.2.2.2.2 (i + 1) hi
                rw [lo_succ] at q2
                rw [hgd, ← HV.out.lo] at q1
                rw [hgd] at q2
                omega
              have HNl := Aside.mk hNl
              have hT := fm_take riseStep hi 0
              rw [HV.out.rise] at hT
              have HT := Aside.mk hT
              have HLo : Aside (loF m.Cuts (i + 1) = m.Cuts[i]) := ⟨by rw [lo_succ, hgd]⟩
              clear hgd hSh hNl hT
              generalize m.Shards[i] = sh at *
              generalize m.Cuts[i] = x at *
              have hm1 := bblk HB.out HM0.out
              obtain ⟨k0, k1, k2, k3, k4⟩ := five hm1
              clear hm1
              have HBf := Aside.mk (bthen HB0.out HB0.out.size HB.out)
              have hF : mayF m = false → Aside (∀ n, MayPost w m (.returned (.bool false)) (wr.drewN n)) := fun h => ⟨fun n => may_no h (bdrew HBf.out n)⟩
              have HF := Aside.mk hF
              clear hF
              have i1 : (i : Int) < (m.Cuts.length : Int) := by omega
              have i2 : (i : Int) < (m.Shards.length : Int) := by omega
              have i0 : (0 : Int) ≤ (i : Int) := by omega
              by_cases t1 : x ≤ (v : Int)
              · have HP := HF.out (HNl.out (.inl t1))
                have d5 : decide (x ≤ (v : Int)) = true := decide_eq_true t1
                clear t1
                go_wp2
                go_quiet (fail)
                go_wp2
                go_ret
                exact HP.out _
              have d5 : decide (x ≤ (v : Int)) = false := decide_eq_false t1
              by_cases t2 : m.N < x
              · have HP := HF.out (HNl.out (.inr t2))
                have d6 : decide (m.N < x) = true := decide_eq_true t2
                clear t1 t2
                go_wp2
                go_quiet (fail)
                go_wp2
                go_ret
                exact HP.out _
              have d6 : decide (m.N < x) = false := decide_eq_false t2
              by_cases t3 : sh.Size < 0
              · have HP := HF.out (HNo.out (HSh.out.trans (sh_size (.inl t3))))
                have d7 : decide (sh.Size < 0) = true := decide_eq_true t3
                clear t1 t2 t3
                go_wp2
                go_quiet (fail)
                go_wp2
                go_ret
                exact HP.out _
              have d7 : decide (sh.Size < 0) = false := decide_eq_false t3
              by_cases t4 : 2147483647 < sh.Size
              · have HP := HF.out (HNo.out (HSh.out.trans (sh_size (.inr (.inl t4)))))
                have d8 : decide (2147483647 < sh.Size) = true := decide_eq_true t4
                clear t1 t2 t3 t4
                go_wp2
                go_quiet (fail)
                go_wp2
                go_ret
                exact HP.out _
              have d8 : decide (2147483647 < sh.Size) = false := decide_eq_false t4
              by_cases t5 : 2147483647 < sh.Arcs
              · have HP := HF.out (HNo.out (HSh.out.trans (sh_size (.inr (.inr t5)))))
                have d9 : decide (2147483647 < sh.Arcs) = true := decide_eq_true t5
                clear t1 t2 t3 t4 t5
                go_wp2
                go_quiet (fail)
                go_wp2
                go_ret
                exact HP.out _
              have d9 : decide (2147483647 < sh.Arcs) = false := decide_eq_false t5
              obtain ⟨xn, rfl⟩ : ∃ xn : Nat, x = (xn : Int) := ⟨x.toNat, by omega⟩
              have HSz : Aside ((0 ≤ sh.Size ∧ sh.Size ≤ 2147483647) ∧ sh.Arcs ≤ 2147483647) := ⟨by omega⟩
              have HLoX : Aside (v ≤ xn ∧ v < xn ∧ xn ≤ m.Degrees.length ∧ xn ≤ 5000) := ⟨by have := HG4.out; have := HL.out; omega⟩
              have HT2 : Aside ((m.Cuts.take (i + 1)).foldlM riseStep 0 = some (xn : Int)) := ⟨by rw [HT.out]; simp only [Option.bind_some]; rw [riseStep, if_neg t1]⟩
              clear t1 t2 t3 t4 t5
              have HI1 : Aside ((v ≤ v ∧ v ≤ xn) ∧ (0 : Int) = segSum m.Degrees v v ∧ (∀ x ∈ m.Degrees.take v, 0 ≤ x ∧ x < m.N) ∧ (0 : Int) ≤ 0 ∧ (0 : Int) ≤ (v : Int) * 16777216) := ⟨⟨Nat.le_refl _, HLoX.out.1⟩, (seg_none _ _).symm, HV.out.deg, Int.le_refl _, by omega⟩
              have HKc := Aside.mk kc
              have HS2 := Aside.mk s2
              have d5' : decide (xn ≤ v) = false := decide_eq_false (by have := HLoX.out; omega)
              go_wp2
              go_quiet (fail)
              obtain ⟨w3, hw3⟩ : ∃ w3, w3 = wr.drewN nq := ⟨_, rfl⟩
              rw [← hw3]
              have HB3 : Aside (Below W1.heap.size W1 w3) := ⟨by rw [hw3]; exact bdrew HB.out _⟩
              have HBf3 := Aside.mk (bthen HB0.out HB0.out.size HB3.out)
              have HK3 : Aside (w3.cell? ⟨bc, oc + i, none⟩ = some (.int .i64 (xn : Int))) := ⟨by rw [hw3]; exact HKc.out⟩
              have HS3 : Aside (w3.cell? ⟨bs, os + i * 3 + 2, none⟩ = some (.int .i64 sh.Arcs)) := ⟨by rw [hw3]; exact HS2.out⟩
              have HM3 := Aside.mk (bblk HB3.out HM0.out)
              have HBw : Aside (Below w3.heap.size w3 w3) := ⟨Below.refl _ _⟩
              clear hw3 k0 k1 k2 k3 k4 kc s0 s1 s2 d5 d5' d6 d7 d8 d9 HF HBf HKc HS2 HB HNl HT
              obtain ⟨k0, k1, k2, k3, k4⟩ := five HM3.out
              have Hh4 := Aside.mk (fun (q : Nat) (hq : q < m.Degrees.length) (hb : ¬ (0 ≤ m.Degrees[q] ∧ m.Degrees[q] < m.N)) => may_deg (m := m) hq hb)
              go_wp2
              clear k0 k1 k2 k3 k4
              go_loopg [5, 6] (xn - v) (fun kq v5 v6 wr => ∃ (u : Nat) (arcs : Int), Aside (u + kq = xn) ∧ v6 = .int .i64 u ∧ v5 = .int .i64 arcs ∧ Aside (Below w3.heap.size w3 wr) ∧ Aside ((v ≤ u ∧ u ≤ xn) ∧ arcs = segSum m.Degrees v u ∧ (∀ x ∈ m.Degrees.take u, 0 ≤ x ∧ x < m.N) ∧ 0 ≤ arcs ∧ arcs ≤ (u : Int) * 16777216))
              case atStart => exact ⟨v, 0, ⟨by have := HLoX.out; omega⟩, rfl, rfl, HBw, HI1⟩
              case round =>
                clear HBw HI1
                obtain ⟨u, arcs, HIu, rfl, rfl, HBr, HVu⟩ := hrel
                obtain ⟨k0, k1, k2, k3, k4⟩ := five (bblk HBr.out HM3.out)
                have kc := bcell HBr.out HK3.out
                have HBf := Aside.mk (bthen HBf3.out HBf3.out.size HBr.out)
                by_cases hu : u < xn
                · have hud : u < m.Degrees.length := by have := HLoX.out; omega
                  obtain ⟨bd, od, e, kd⟩ := ((H3.out.below HB0.out).below HB3.out |>.below HBr.out).int u hud
                  cases e
                  have hsg := seg_step hud HVu.out.1.1
                  have HTk := Aside.mk (take_snoc hud)
                  have HBad := Aside.mk (Hh4.out u hud)
                  have HM2 : Aside (xn - (u + 1) < gk ∧ u + 1 + (xn - (u + 1)) = xn) := ⟨by have := HIu.out; omega⟩
                  obtain ⟨_, hv2, hv3, hv4, hv5⟩ := HVu.out
                  rw [← hv2] at hsg
                  have HSg := Aside.mk hsg
                  generalize m.Degrees[u] = d at *
                  have hn0 : m.N ≤ 5000 := by have := HG4.out; have := HL.out; omega
                  have hxM := HLoX.out.2.2.2
                  clear hsg hv2 hv3
                  have u1 : (u : Int) < (m.Degrees.length : Int) := by omega
                  have u0 : (0 : Int) ≤ (u : Int) := by omega
                  by_cases hd0 : d < 0
                  · have HP : Aside (∀ n, MayPost w m (.returned (.bool false)) (wr.drewN n)) := ⟨fun n => may_no (HBad.out (by omega)) (bdrew HBf.out n)⟩
                    have e10 : decide (d < 0) = true := decide_eq_true hd0
                    clear hd0
                    go_wp2
                    go_quiet (fail)
                    go_wp2
                    go_ret
                    exact HP.out _
                  by_cases hd1 : m.N ≤ d
                  · have HP : Aside (∀ n, MayPost w m (.returned (.bool false)) (wr.drewN n)) := ⟨fun n => may_no (HBad.out (by omega)) (bdrew HBf.out n)⟩
                    have e10 : decide (d < 0) = false := decide_eq_false hd0
                    have e11 : decide (m.N ≤ d) = true := decide_eq_true hd1
                    clear hd0 hd1
                    go_wp2
                    go_quiet (fail)
                    go_wp2
                    go_ret
                    exact HP.out _
                  · have e10 : decide (d < 0) = false := decide_eq_false hd0
                    have e11 : decide (m.N ≤ d) = false := decide_eq_false hd1
                    have HV2 : Aside ((v ≤ u + 1 ∧ u + 1 ≤ xn) ∧ arcs + d = segSum m.Degrees v (u + 1) ∧ (∀ x ∈ m.Degrees.take (u + 1), 0 ≤ x ∧ x < m.N) ∧ 0 ≤ arcs + d ∧ arcs + d ≤ ((u + 1 : Nat) : Int) * 16777216) := ⟨⟨by have := HVu.out.1; omega, by omega⟩, HSg.out.symm, fun y hy => by
                      rw [HTk.out] at hy
                      rcases List.mem_append.1 hy with hy | hy
                      · exact HVu.out.2.2.1 y hy
                      · rw [List.mem_singleton.1 hy]; omega, by omega, by omega⟩
                    have r1 : -9223372036854775808 ≤ arcs + d := by omega
                    have r2 : arcs + d ≤ 9223372036854775807 := by omega
                    clear hd0 hd1 hv4 hv5 hn0
                    go_wp2
                    go_quiet (fail)
                    go_wp2
                    go_roundg (xn - (u + 1))
                    case measure => exact HM2.out.1
                    case rel => exact ⟨u + 1, arcs + d, ⟨HM2.out.2⟩, by go_num, rfl, ⟨bdrew HBr.out _⟩, HV2⟩
                · have hux : u = xn := by have := HVu.out.1.2; omega
                  subst hux
                  have ks := bcell HBr.out HS3.out
                  have HBW := Aside.mk (bthen HB3.out HB3.out.size HBr.out)
                  have HShE : Aside (shAt m i = ((cntOk sh.Size && cntOk sh.Arcs) && decide (sh.Arcs = arcs))) := ⟨by rw [HSh.out]; unfold shOk; rw [Int.toNat_natCast, Int.toNat_natCast, ← HVu.out.2.1]⟩
                  have hu2 : ¬ ((u : Int) < (u : Int)) := by omega
                  by_cases hz : arcs = sh.Arcs
                  · have HV2 : Aside (LInvM m (i + 1) u) := ⟨⟨HLo.out.symm, HLoX.out.2.2.1, HT2.out, HVu.out.2.2.1, by
                      rw [range_all_succ, HV.out.sh, HShE.out]
                      unfold cntOk
                      have p0 := HVu.out.2.2.2.1
                      have p1 := HSz.out
                      rw [decide_eq_true hz.symm, decide_eq_true p1.1.1, decide_eq_true p1.1.2, decide_eq_true p1.2, decide_eq_true (show 0 ≤ sh.Arcs by omega)]
                      rfl⟩⟩
                    have e12 : (arcs == sh.Arcs) = true := by simpa using hz
                    have e13 : (arcs != sh.Arcs) = false := by simpa using hz
                    clear hz
                    go_wp2
                    go_roundg (m.Cuts.length - (i + 1))
                    case measure => exact HM.out.1
                    case rel => exact ⟨i + 1, u, ⟨HM.out.2⟩, by go_num, rfl, HBW, HV2⟩
                  · have HP : Aside (MayPost w m (.returned (.bool false)) wr) := ⟨may_no (HNo.out (by rw [HShE.out, decide_eq_false fun h => hz h.symm]; simp)) HBf.out⟩
                    have e12 : (arcs == sh.Arcs) = false := by simpa using hz
                    have e13 : (arcs != sh.Arcs) = true := by simpa using hz
                    clear hz
                    go_wp2
                    go_ret
                    exact HP.out
            · have hie : i = m.Cuts.length := by have := HI.out; omega
              subst hie
              obtain ⟨k0, k1, k2, k3, k4⟩ := five (bblk HB.out HM0.out)
              have HBf := Aside.mk (bthen HB0.out HB0.out.size HB.out)
              have hi1 : ¬ ((m.Cuts.length : Int) < (m.Cuts.length : Int)) := by omega
              have hr := HV.out.rise
              rw [List.take_of_length_le (Nat.le_refl _)] at hr
              have HR : Aside (riseF m.Cuts = some (v : Int)) := ⟨hr⟩
              clear hr
              by_cases hz : (v : Int) = m.N
              · have HP : Aside (MayPost w m (.returned (.bool true)) wr) := ⟨⟨retb (may_yes HG.out (by
                  have := HN0.out
                  have := HG4.out
                  have := HL.out
                  unfold layErr
                  rw [if_neg (by omega), HR.out]
                  simp only
                  rw [if_neg (by have := HG6.out; omega)]) HG3.out.symm HG4.out (by
                    intro y hy
                    refine HV.out.deg y ?_
                    rw [List.take_of_length_le (by have := HG4.out; omega)]
                    exact hy) (by rw [← HG3.out]; exact HV.out.sh)), HBf.out⟩⟩
                have e12 : ((v : Int) == m.N) = true := by simpa using hz
                clear hz
                go_wp2
                go_ret
                exact HP.out
              · have HP : Aside (MayPost w m (.returned (.bool false)) wr) := ⟨may_no (may_lay fun h => by
                  have q := (lay_ok h).2.2.2.1
                  rw [← HV.out.lo] at q
                  exact hz q) HBf.out⟩
                have e12 : ((v : Int) == m.N) = false := by simpa using hz
                clear hz
                go_wp2
                go_ret
                exact HP.out
      · have HP : Aside (MayPost w m (.returned (.bool false)) wc) := ⟨may_no (may_sh fun h => g3 h.symm) HB0.out⟩
        obtain ⟨e1, e2, e3, e4⟩ := natNe g3
        clear g3
        go_wp2
        go_ret
        exact HP.out
    · have HP : Aside (MayPost w m (.returned (.bool false)) wc) := ⟨may_no (may_dl g4) HB0.out⟩
      have e5 : ((m.Degrees.length : Int) != m.N) = true := by simpa using g4
      have e6 : ((m.Degrees.length : Int) == m.N) = false := by simpa using g4
      clear g4
      go_wp2
      go_ret
      exact HP.out
end Go.Proofs.YtgbladpoglhleaaGreatDoor
