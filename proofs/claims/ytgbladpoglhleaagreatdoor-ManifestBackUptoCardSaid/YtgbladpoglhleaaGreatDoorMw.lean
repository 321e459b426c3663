/- What a manifest may be, and the program's may. No condition. -/
import Derived.Test.YtgbladpoglhleaaGreatDoorLy
import Derived.Test.YtgbladpoglhleaaGreatDoorMn
namespace Go.Proofs.YtgbladpoglhleaaGreatDoor
open Go.RowKit
/-! ### pure -/
def loF (cuts : List Int) (i : Nat) : Int := (0 :: cuts).getD i 0
theorem rise_spec : ∀ (cuts : List Int) (a l : Int), cuts.foldlM riseStep a = some l → (∀ i, i < cuts.length → (a :: cuts).getD i 0 < cuts.getD i 0) ∧ (a :: cuts).getD cuts.length 0 = l ∧ ∀ i, i ≤ cuts.length → a ≤ (a :: cuts).getD i 0 ∧ (a :: cuts).getD i 0 ≤ l
  | [], a, l, h => by
    simp only [List.foldlM_nil, Option.pure_def, Option.some.injEq] at h
    subst h
    refine ⟨fun i hi => absurd hi (Nat.not_lt_zero _), rfl, fun i hi => ?_⟩
    have : i = 0 := by simpa using hi
    subst this
    exact ⟨Int.le_refl _, Int.le_refl _⟩
  | c :: cs, a, l, h => by
    rw [List.foldlM_cons] at h
    unfold riseStep at h
    by_cases hc : c ≤ a
    · rw [if_pos hc] at h; cases h
    · rw [if_neg hc] at h
      obtain ⟨h1, h2, h3⟩ := rise_spec cs c l h
      refine ⟨fun i hi => ?_, ?_, fun i hi => ?_⟩
      · cases i with
        | zero => simp; omega
        | succ i => simpa using h1 i (by simpa using hi)
      · simpa using h2
      · cases i with
        | zero =>
          have := h3 0 (Nat.zero_le _)
          simp at this ⊢
          omega
        | succ i =>
          have := h3 i (by simpa using hi)
          rw [List.getD_cons_succ]
          omega
theorem lay_ok {n : Int} {cuts : List Int} (h : layErr n cuts = 0) : cuts.length ≤ 1000 ∧ 0 ≤ n ∧ n ≤ 16777216 ∧ loF cuts cuts.length = n ∧ (∀ i, i < cuts.length → loF cuts i < cuts.getD i 0) ∧ ∀ i, i ≤ cuts.length → 0 ≤ loF cuts i ∧ loF cuts i ≤ n := by
  unfold layErr at h
  split at h
  · cases h
  · rename_i hn
    cases hr : riseF cuts with
    | none => rw [hr] at h; cases h
    | some l =>
      rw [hr] at h
      simp only at h
      split at h
      · cases h
      · rename_i hl
        obtain ⟨h1, h2, h3⟩ := rise_spec cuts 0 l hr
        have hln : l = n := by omega
        subst hln
        exact ⟨by omega, by omega, by omega, h2, h1, h3⟩
theorem lo_succ (cuts : List Int) (i : Nat) : loF cuts (i + 1) = cuts.getD i 0 := by unfold loF; rw [List.getD_cons_succ]
def degOk (n : Int) (ds : List Int) : Bool := ds.all fun d => decide (0 ≤ d ∧ d < n)
def segSum (ds : List Int) (lo hi : Nat) : Int := ((ds.drop lo).take (hi - lo)).sum
theorem seg_none (ds : List Int) (lo : Nat) : segSum ds lo lo = 0 := by simp [segSum]
theorem seg_step {ds : List Int} {lo v : Nat} (hv : v < ds.length) (hl : lo ≤ v) : segSum ds lo (v + 1) = segSum ds lo v + ds[v] := by
  unfold segSum
  have hlen : v - lo < (ds.drop lo).length := by simp; omega
  rw [show v + 1 - lo = (v - lo) + 1 by omega, List.take_add_one, List.getElem?_eq_getElem hlen]
  simp only [Option.toList_some, List.sum_append, List.sum_cons, List.sum_nil, List.getElem_drop]
  have e : lo + (v - lo) = v := by omega
  simp only [e]
  omega
def cntOk (n : Int) : Bool := decide (0 ≤ n) && decide (n ≤ 2147483647)
def iD : Info := ⟨0, 0, 0⟩
def shOk (ds : List Int) (lo hi : Int) (s : Info) : Bool := (cntOk s.Size && cntOk s.Arcs) && decide (s.Arcs = segSum ds lo.toNat hi.toNat)
def shAt (m : Man) (i : Nat) : Bool := shOk m.Degrees (loF m.Cuts i) (m.Cuts.getD i 0) (m.Shards.getD i iD)
/-- May this be a manifest? -/
def mayF (m : Man) : Bool := decide (1 ≤ m.Gen ∧ m.Gen ≤ 2147483647) && (decide (layErr m.N m.Cuts = 0) && (decide (m.Shards.length = m.Cuts.length) && (decide ((m.Degrees.length : Int) = m.N) && (degOk m.N m.Degrees && (List.range m.Shards.length).all (shAt m)))))
theorem range_all_succ (p : Nat → Bool) (i : Nat) : (List.range (i + 1)).all p = ((List.range i).all p && p i) := by
  rw [List.range_succ, List.all_append]; simp
theorem may_gen {m : Man} (h : ¬ (1 ≤ m.Gen ∧ m.Gen ≤ 2147483647)) : mayF m = false := by unfold mayF; rw [decide_eq_false h]; rfl
theorem may_lay {m : Man} (h : layErr m.N m.Cuts ≠ 0) : mayF m = false := by unfold mayF; rw [decide_eq_false h]; simp
theorem may_sh {m : Man} (h : m.Shards.length ≠ m.Cuts.length) : mayF m = false := by unfold mayF; rw [decide_eq_false h]; simp
theorem may_dl {m : Man} (h : (m.Degrees.length : Int) ≠ m.N) : mayF m = false := by unfold mayF; rw [decide_eq_false h]; simp
theorem may_deg {m : Man} {v : Nat} (hv : v < m.Degrees.length) (h : ¬ (0 ≤ m.Degrees[v] ∧ m.Degrees[v] < m.N)) : mayF m = false := by
  have : degOk m.N m.Degrees = false := by
    unfold degOk
    rw [List.all_eq_false]
    exact ⟨m.Degrees[v], List.getElem_mem hv, by simpa using h⟩
  unfold mayF
  rw [this]
  simp
theorem may_shard {m : Man} {i : Nat} (hi : i < m.Shards.length) (h : shAt m i = false) : mayF m = false := by
  have : (List.range m.Shards.length).all (shAt m) = false := by
    rw [List.all_eq_false]
    exact ⟨i, by simpa using hi, by rw [h]; decide⟩
  unfold mayF
  rw [this]
  simp
theorem may_yes {m : Man} (h0 : 1 ≤ m.Gen ∧ m.Gen ≤ 2147483647) (h1 : layErr m.N m.Cuts = 0) (h2 : m.Shards.length = m.Cuts.length) (h3 : (m.Degrees.length : Int) = m.N) (h4 : ∀ x ∈ m.Degrees, 0 ≤ x ∧ x < m.N) (h5 : (List.range m.Shards.length).all (shAt m) = true) : mayF m = true := by
  unfold mayF
  rw [decide_eq_true h0, decide_eq_true h1, decide_eq_true h2, decide_eq_true h3, h5]
  have : degOk m.N m.Degrees = true := by
    unfold degOk
    rw [List.all_eq_true]
    intro x hx
    simpa using h4 x hx
  rw [this]
  rfl
/-! ### the walk -/
def MayPost (w : World) (m : Man) (e : Ending) (w' : World) : Prop := e = .returned (.bool (mayF m)) ∧ Below w.heap.size w w'
theorem may_no {w w' : World} {m : Man} (h : mayF m = false) (hb : Below w.heap.size w w') : MayPost w m (.returned (.bool false)) w' := ⟨retb h, hb⟩
set_option maxHeartbeats 1000000 in
theorem isCount_any {w : World} (n : Int) : Calls Tryz.prog 78 #[.int .i64 n] w fun e w' => e = .returned (.bool (cntOk n)) ∧ w' = w := by
  have HE : Aside (cntOk n = (decide (0 ≤ n) && decide (n ≤ 2147483647))) := ⟨rfl⟩
  generalize cntOk n = q at *
  by_cases h0 : 0 ≤ n
  · by_cases h1 : n ≤ 2147483647
    · go_enter Tryz.func78, Tryz.ntmps78
      go_wp2
      go_ret
      exact ⟨retb (by rw [HE.out, decide_eq_true h0, decide_eq_true h1]; first | rfl | simp), rfl⟩
    · have f1 : decide (n ≤ 2147483647) = false := decide_eq_false h1
      rw [f1] at HE
      replace h1 : 2147483647 < n := by omega
      go_enter Tryz.func78, Tryz.ntmps78
      go_wp2
      go_ret
      exact ⟨retb (by rw [HE.out]; simp), rfl⟩
  · have f0 : decide (0 ≤ n) = false := decide_eq_false h0
    rw [f0] at HE
    replace h0 : n < 0 := by omega
    go_enter Tryz.func78, Tryz.ntmps78
    go_wp2
    go_ret
    exact ⟨retb (by rw [HE.out]; rfl), rfl⟩
set_option maxHeartbeats 8000000 in
set_option maxRecDepth 100000 in
theorem pmay_any {w : World} {ok : Nat → Prop} {v : Value} {m : Man} (hx : ManV w ok v m) (hl1 : m.Cuts.length ≤ 16777216) (hl2 : m.Shards.length ≤ 16777216) (hl3 : m.Degrees.length ≤ 16777216) : Calls Tryz.prog 49 #[v] w (MayPost w m) := by
  have HX := Aside.mk hx
  obtain ⟨a, b, c, rfl, h1, h2, h3⟩ := hx
  obtain ⟨Aa, ca, rfl, _⟩ := h1.slice
  obtain ⟨Ab, cb, rfl, _⟩ := h2.slice
  obtain ⟨Ac, cc, rfl, _⟩ := h3.slice
  have H1 := Aside.mk h1
  have H2 := Aside.mk h2
  have H3 := Aside.mk h3
  have HL := Aside.mk (And.intro hl1 (And.intro hl2 hl3))
  clear h1 h2 h3 hl1 hl2 hl3
  go_enter Tryz.func49, Tryz.ntmps49
  go_upto_region 0 with (fail)
  go_cut [1] (fun v1 wx => v1 = .pointer (some ⟨w.heap.size, 0, none⟩) ∧ wx = w.alloc (.cells #[.int .i64 m.Gen, .int .i64 m.N, .slice Aa m.Cuts.length ca, .slice Ab m.Shards.length cb, .slice Ac m.Degrees.length cc] 33))
  case first =>
    go_wp2
    go_meet
    case rel => exact ⟨rfl, rfl⟩
  case rest =>
    obtain ⟨rfl, hwc⟩ := hcut
    have hb0 : Below w.heap.size w wc := by rw [hwc]; exact (Below.refl _ w).alloc (Nat.le_refl _) _
    have hm0 : wc.heap[w.heap.size]? = some (.cells #[.int .i64 m.Gen, .int .i64 m.N, .slice Aa m.Cuts.length ca, .slice Ab m.Shards.length cb, .slice Ac m.Degrees.length cc] 33 (0, 0)) := by rw [hwc]; exact heap_alloc_new w _
    clear hwc
    obtain ⟨k0, k1, k2, k3, k4⟩ := five hm0
    have HB0 := Aside.mk hb0
    have HM0 := Aside.mk hm0
    clear hb0 hm0
    by_cases g1 : m.Gen < 1
    · have HP : Aside (MayPost w m (.returned (.bool false)) wc) := ⟨may_no (may_gen (by omega)) HB0.out⟩
      go_wp2
      go_ret
      exact HP.out
    have f1 : decide (m.Gen < 1) = false := decide_eq_false g1
    by_cases g2 : 2147483647 < m.Gen
    · have HP : Aside (MayPost w m (.returned (.bool false)) wc) := ⟨may_no (may_gen (by omega)) HB0.out⟩
      clear g1
      go_wp2
      go_ret
      exact HP.out
    have f2 : decide (2147483647 < m.Gen) = false := decide_eq_false g2
    have HG : Aside (1 ≤ m.Gen ∧ m.Gen ≤ 2147483647) := ⟨by omega⟩
    clear g1 g2
    by_cases g3 : m.Shards.length = m.Cuts.length
    · obtain ⟨e1, e2, e3, e4⟩ := natEq g3
      have HG3 := Aside.mk g3
      clear g3
      by_cases g4 : (m.Degrees.length : Int) = m.N
      · have e5 : ((m.Degrees.length : Int) != m.N) = false := by simpa using g4
        have e6 : ((m.Degrees.length : Int) == m.N) = true := by simpa using g4
        have HG4 := Aside.mk g4
        clear g4
        have hcall := layNew_any (n := m.N) (H1.out.below HB0.out) HL.out.1
        go_wp2_with fail
        refine hcall.mono ?_
        clear hcall
        rintro e w1 ⟨⟨pl, rfl⟩, B1⟩
        have HB1 := Aside.mk (bthen HB0.out HB0.out.size B1)
        have hm1 := bblk B1 HM0.out
        clear k0 k1 k2 k3 k4 B1 HB0 HM0
        obtain ⟨k0, k1, k2, k3, k4⟩ := five hm1
        have HM1 := Aside.mk hm1
        clear hm1
        by_cases g5 : layErr m.N m.Cuts = 0
        · have HLy := Aside.mk (lay_ok g5)
          have HG5 := Aside.mk g5
          rw [g5]
          clear g5
          have HI0 : Aside ((((0 : Nat) : Int) = loF m.Cuts 0) ∧ (∀ x ∈ m.Degrees.take 0, 0 ≤ x ∧ x < m.N) ∧ (List.range 0).all (shAt m) = true) := ⟨rfl, by simp, rfl⟩
          obtain ⟨W1, hW1⟩ : ∃ W1, W1 = w1 := ⟨_, rfl⟩
          subst hW1
          have HW0 : Aside (Below W1.heap.size W1 W1) := ⟨Below.refl _ _⟩
          go_wp2
          clear k0 k1 k2 k3 k4
          go_loopg [5, 47] m.Shards.length (fun kq v5 v47 wr => ∃ (i v : Nat), Aside (i + kq = m.Shards.length) ∧ v47 = .int .i64 i ∧ v5 = .int .i64 v ∧ Aside (Below W1.heap.size W1 wr) ∧ Aside (((v : Int) = loF m.Cuts i) ∧ (∀ x ∈ m.Degrees.take v, 0 ≤ x ∧ x < m.N) ∧ (List.range i).all (shAt m) = true))
          case atStart => exact ⟨0, 0, ⟨by omega⟩, rfl, rfl, HW0, HI0⟩
          case round =>
            clear HI0 HW0
            obtain ⟨i, v, HI, rfl, rfl, HB, HV⟩ := hrel
            by_cases hi : i < m.Shards.length
            · obtain ⟨bs, os, e, s0, s1, s2⟩ := ((H2.out.below HB1.out).below HB.out).info i hi
              cases e
              have HM : Aside (m.Shards.length - (i + 1) < gk ∧ i + 1 + (m.Shards.length - (i + 1)) = m.Shards.length) := ⟨by have := HI.out; omega⟩
              have HSh : Aside (shAt m i = shOk m.Degrees (loF m.Cuts i) (m.Cuts.getD i 0) m.Shards[i]) := ⟨by unfold shAt; rw [show m.Shards.getD i iD = m.Shards[i] by rw [List.getD_eq_getElem?_getD, List.getElem?_eq_getElem hi]; rfl]⟩
              have HNo := Aside.mk (fun h => may_shard (m := m) hi h)
              generalize m.Shards[i] = sh at *
              have hm1 := bblk HB.out HM1.out
              obtain ⟨k0, k1, k2, k3, k4⟩ := five hm1
              clear hm1
              obtain ⟨w2, hw2⟩ : ∃ w2, w2 = wr := ⟨_, rfl⟩
              subst hw2
              go_upto_region 9 with (fail)
              go_cut [6, 7] (fun v6 v7 wx => v6 = .int .i64 i ∧ v7 = .pointer (some ⟨w2.heap.size, 0, none⟩) ∧ Aside (Below w2.heap.size w2 wx) ∧ Aside (wx.heap[w2.heap.size]? = some (.cells #[.int .i64 sh.Size, .int .u32 sh.Sum.toNat, .int .i64 sh.Arcs] 54 (0, 0))))
              case first =>
                go_wp2
                go_meet
                case rel => exact ⟨rfl, rfl, ⟨(Below.refl _ w2).alloc (Nat.le_refl _) _⟩, ⟨heap_alloc_new w2 _⟩⟩
              case rest =>
                obtain ⟨rfl, rfl, HBc, HSc⟩ := hcut
                have HB2 := Aside.mk (bthen HB1.out HB1.out.size (bthen HB.out HB.out.size HBc.out))
                have HB2W := Aside.mk (bthen HB.out HB.out.size HBc.out)
                have hmc := bblk HBc.out (bblk HB.out HM1.out)
                have hic : i < m.Cuts.length := by have := HG3.out; omega
                obtain ⟨bc, oc, e, kc⟩ := (H1.out.below HB2.out).int i hic
                cases e
                have hgd : m.Cuts.getD i 0 = m.Cuts[i] := by rw [List.getD_eq_getElem?_getD, List.getElem?_eq_getElem hic]; rfl
                obtain ⟨hly1, hly2, hly3, hly4, hly5, hly6⟩ := HLy.out
                have q1 := hly5 i hic
                have q2 := hly6 i (by omega)
                have q3 := hly6 (i + 1) (by omega)
                rw [lo_succ] at q3
                have HLo : Aside (loF m.Cuts (i + 1) = m.Cuts[i]) := ⟨by rw [lo_succ, hgd]⟩
                rw [hgd] at q1 q3 HSh
                generalize m.Cuts[i] = x at *
                obtain ⟨xn, rfl⟩ : ∃ xn : Nat, x = (xn : Int) := ⟨x.toNat, by omega⟩
                obtain ⟨lo, hlo⟩ : ∃ lo : Nat, loF m.Cuts i = (lo : Int) := ⟨(loF m.Cuts i).toNat, by omega⟩
                rw [hlo] at q1 q2 HSh HV
                have hv0 : v = lo := by have := HV.out.1; omega
                subst hv0
                have hxN : xn ≤ m.Degrees.length := by have := HG4.out; omega
                have hxM : xn ≤ 16777216 := by omega
                have HLoX := Aside.mk (And.intro (by omega : v ≤ xn) (And.intro hxN hxM))
                have HNN := Aside.mk (And.intro hly2 hly3)
                have HI0 : Aside ((v ≤ v ∧ v ≤ xn) ∧ (0 : Int) = segSum m.Degrees v v ∧ (∀ x ∈ m.Degrees.take v, 0 ≤ x ∧ x < m.N) ∧ (0 : Int) ≤ 0 ∧ (0 : Int) ≤ (v : Int) * 16777216) := ⟨⟨Nat.le_refl _, by omega⟩, (seg_none _ _).symm, HV.out.2.1, Int.le_refl _, by omega⟩
                have HBw : Aside (Below wc.heap.size wc wc) := ⟨Below.refl _ _⟩
                have HMc := Aside.mk hmc
                have HKc := Aside.mk kc
                clear k0 k1 k2 k3 k4 s0 s1 s2 hly1 hly2 hly3 hly4 hly5 hly6 q1 q2 q3 hgd hlo kc hmc
                obtain ⟨w3, hw3⟩ : ∃ w3, w3 = wc := ⟨_, rfl⟩
                subst hw3
                have Hh4 := Aside.mk (fun (q : Nat) (hq : q < m.Degrees.length) (hb : ¬ (0 ≤ m.Degrees[q] ∧ m.Degrees[q] < m.N)) => may_deg (m := m) hq hb)
                go_wp2
                go_loopg [5, 8] (xn - v) (fun kq v5 v8 wr => ∃ (u : Nat) (arcs : Int), Aside (u + kq = xn) ∧ v5 = .int .i64 u ∧ v8 = .int .i64 arcs ∧ Aside (Below w3.heap.size w3 wr) ∧ Aside ((v ≤ u ∧ u ≤ xn) ∧ arcs = segSum m.Degrees v u ∧ (∀ x ∈ m.Degrees.take u, 0 ≤ x ∧ x < m.N) ∧ 0 ≤ arcs ∧ arcs ≤ (u : Int) * 16777216))
                case atStart => exact ⟨v, 0, ⟨by have := HLoX.out; omega⟩, rfl, rfl, HBw, HI0⟩
                case round =>
                  clear HBw HI0
                  obtain ⟨u, arcs, HIu, rfl, rfl, HBr, HVu⟩ := hrel
                  have hmr := bblk HBr.out HMc.out
                  obtain ⟨k0, k1, k2, k3, k4⟩ := five hmr
                  have kc := bcell HBr.out HKc.out
                  clear hmr
                  by_cases hu : u < xn
                  · have hud : u < m.Degrees.length := by have := HLoX.out; omega
                    obtain ⟨bd, od, e, kd⟩ := ((H3.out.below HB2.out).below HBr.out).int u hud
                    cases e
                    have hsg := seg_step hud HVu.out.1.1
                    have HTk := Aside.mk (take_snoc hud)
                    have HBad := Aside.mk (Hh4.out u hud)
                    have hM2 : xn - (u + 1) < gk ∧ u + 1 + (xn - (u + 1)) = xn := by have := HIu.out; omega
                    have HM2 := Aside.mk hM2
                    obtain ⟨_, hv2, hv3, hv4, hv5⟩ := HVu.out
                    rw [← hv2] at hsg
                    have HSg := Aside.mk hsg
                    generalize m.Degrees[u] = d at *
                    obtain ⟨hn0, hn1⟩ := HNN.out
                    have hxM := HLoX.out.2.2
                    clear hsg hM2 hv2 hv3
                    have HBf := Aside.mk (bthen HB2.out HB2.out.size HBr.out)
                    by_cases hd0 : d < 0
                    · have HP : Aside (∀ n, MayPost w m (.returned (.bool false)) (wr.drewN n)) := ⟨fun n => may_no (HBad.out (by omega)) (bdrew HBf.out n)⟩
                      have e10 : decide (d < 0) = true := decide_eq_true hd0
                      clear hd0
                      go_wp2
                      go_quiet (fail)
                      go_wp2
                      go_ret
                      exact HP.out _
                    by_cases hd1 : m.N ≤ d
                    · have HP : Aside (∀ n, MayPost w m (.returned (.bool false)) (wr.drewN n)) := ⟨fun n => may_no (HBad.out (by omega)) (bdrew HBf.out n)⟩
                      have e10 : decide (d < 0) = false := decide_eq_false hd0
                      have e11 : decide (m.N ≤ d) = true := decide_eq_true hd1
                      clear hd0 hd1
                      go_wp2
                      go_quiet (fail)
                      go_wp2
                      go_ret
                      exact HP.out _
                    · have e10 : decide (d < 0) = false := decide_eq_false hd0
                      have e11 : decide (m.N ≤ d) = false := decide_eq_false hd1
                      have HV2 : Aside ((v ≤ u + 1 ∧ u + 1 ≤ xn) ∧ arcs + d = segSum m.Degrees v (u + 1) ∧ (∀ x ∈ m.Degrees.take (u + 1), 0 ≤ x ∧ x < m.N) ∧ 0 ≤ arcs + d ∧ arcs + d ≤ ((u + 1 : Nat) : Int) * 16777216) := ⟨⟨by have := HVu.out.1; omega, by omega⟩, HSg.out.symm, fun y hy => by
                        rw [HTk.out] at hy
                        rcases List.mem_append.1 hy with hy | hy
                        · exact HVu.out.2.2.1 y hy
                        · rw [List.mem_singleton.1 hy]; omega, by omega, by omega⟩
                      have r1 : -9223372036854775808 ≤ arcs + d := by omega
                      have r2 : arcs + d ≤ 9223372036854775807 := by omega
                      clear hd0 hd1 hv4 hv5 hn0 hn1
                      go_wp2
                      go_quiet (fail)
                      go_wp2
                      go_roundg (xn - (u + 1))
                      case measure => exact HM2.out.1
                      case rel => exact ⟨u + 1, arcs + d, ⟨HM2.out.2⟩, by go_num, rfl, ⟨bdrew HBr.out _⟩, HV2⟩
                  · have hux : u = xn := by have := HVu.out.1.2; omega
                    subst hux
                    have HBf := Aside.mk (bthen HB2.out HB2.out.size HBr.out)
                    have HBW := Aside.mk (bthen HB2W.out HB2W.out.size HBr.out)
                    have hsc := bblk HBr.out HSc.out
                    have s0 := (store_at hsc 0 (show 0 < 3 by decide)).1
                    have s1 := (store_at hsc 1 (show 1 < 3 by decide)).1
                    have s2 := (store_at hsc 2 (show 2 < 3 by decide)).1
                    have HShE : Aside (shAt m i = ((cntOk sh.Size && cntOk sh.Arcs) && decide (sh.Arcs = arcs))) := ⟨by rw [HSh.out]; unfold shOk; rw [Int.toNat_natCast, Int.toNat_natCast, ← HVu.out.2.1]⟩
                    have HPn : Aside (∀ w', shAt m i = false → Below w.heap.size w w' → MayPost w m (.returned (.bool false)) w') := ⟨fun w' h hb => may_no (HNo.out h) hb⟩
                    have HNx : Aside (shAt m i = true → (((u : Nat) : Int) = loF m.Cuts (i + 1) ∧ (∀ x ∈ m.Degrees.take u, 0 ≤ x ∧ x < m.N) ∧ (List.range (i + 1)).all (shAt m) = true)) := ⟨fun h => ⟨HLo.out.symm, HVu.out.2.2.1, by rw [range_all_succ, HV.out.2.2, h]; rfl⟩⟩
                    have hc1 := isCount_any (w := wr) sh.Size
                    have hc2 := isCount_any (w := wr) sh.Arcs
                    clear hsc
                    generalize cntOk sh.Size = b1 at *
                    generalize cntOk sh.Arcs = b2 at *
                    generalize sh.Size = z0 at *
                    generalize sh.Arcs = z2 at *
                    cases b1 with
                    | false =>
                      have HPz := Aside.mk (HPn.out wr HShE.out HBf.out)
                      go_wp2_with fail
                      refine hc1.mono ?_
                      rintro e w5 ⟨rfl, rfl⟩
                      go_wp2
                      go_ret
                      exact HPz.out
                    | true =>
                      cases b2 with
                      | false =>
                        have HPz := Aside.mk (HPn.out wr HShE.out HBf.out)
                        go_wp2_with fail
                        refine hc1.mono ?_
                        rintro e w5 ⟨rfl, rfl⟩
                        go_wp2_with fail
                        refine hc2.mono ?_
                        rintro e w5 ⟨rfl, rfl⟩
                        go_wp2
                        go_ret
                        exact HPz.out
                      | true =>
                        by_cases hz : z2 = arcs
                        · have HNz := Aside.mk (HNx.out (by rw [HShE.out, decide_eq_true hz]; rfl))
                          have e12 : (z2 == arcs) = true := by simpa using hz
                          have e13 : (z2 != arcs) = false := by simpa using hz
                          clear hz
                          go_wp2_with fail
                          refine hc1.mono ?_
                          rintro e w5 ⟨rfl, rfl⟩
                          go_wp2_with fail
                          refine hc2.mono ?_
                          rintro e w5 ⟨rfl, rfl⟩
                          go_wp2
                          go_roundg (m.Shards.length - (i + 1))
                          case measure => exact HM.out.1
                          case rel => exact ⟨i + 1, u, ⟨HM.out.2⟩, by go_num, rfl, HBW, HNz⟩
                        · have HPz := Aside.mk (HPn.out wr (by rw [HShE.out, decide_eq_false hz]; rfl) HBf.out)
                          have e12 : (z2 == arcs) = false := by simpa using hz
                          have e13 : (z2 != arcs) = true := by simpa using hz
                          clear hz
                          go_wp2_with fail
                          refine hc1.mono ?_
                          rintro e w5 ⟨rfl, rfl⟩
                          go_wp2_with fail
                          refine hc2.mono ?_
                          rintro e w5 ⟨rfl, rfl⟩
                          go_wp2
                          go_ret
                          exact HPz.out
            · have hie : i = m.Shards.length := by have := HI.out; omega
              have HP : Aside (MayPost w m (.returned (.bool true)) wr) := ⟨⟨retb (may_yes HG.out HG5.out HG3.out HG4.out (by
                intro y hy
                refine HV.out.2.1 y ?_
                have hv := HV.out.1
                rw [hie, HG3.out, HLy.out.2.2.2.1] at hv
                rw [List.take_of_length_le (by have := HG4.out; omega)]
                exact hy) (by have := HV.out.2.2; rw [hie] at this; exact this)), bthen HB1.out HB1.out.size HB.out⟩⟩
              clear hie
              replace hi : m.Shards.length ≤ i := by omega
              go_wp2
              go_ret
              exact HP.out
        · have HP : Aside (MayPost w m (.returned (.bool false)) w1) := ⟨may_no (may_lay g5) HB1.out⟩
          obtain ⟨le, hle⟩ : ∃ le, le = layErr m.N m.Cuts := ⟨_, rfl⟩
          rw [← hle] at g5 ⊢
          have e7 : (le != 0) = true := by simpa using g5
          have e8 : (le == 0) = false := by simpa using g5
          clear g5 hle
          go_wp2
          go_ret
          exact HP.out
      · have HP : Aside (MayPost w m (.returned (.bool false)) wc) := ⟨may_no (may_dl g4) HB0.out⟩
        have e5 : ((m.Degrees.length : Int) != m.N) = true := by simpa using g4
        have e6 : ((m.Degrees.length : Int) == m.N) = false := by simpa using g4
        clear g4
        go_wp2
        go_ret
        exact HP.out
    · have HP : Aside (MayPost w m (.returned (.bool false)) wc) := ⟨may_no (may_sh g3) HB0.out⟩
      obtain ⟨e1, e2, e3, e4⟩ := natNe g3
      clear g3
      go_wp2
      go_ret
      exact HP.out
end Go.Proofs.YtgbladpoglhleaaGreatDoor
