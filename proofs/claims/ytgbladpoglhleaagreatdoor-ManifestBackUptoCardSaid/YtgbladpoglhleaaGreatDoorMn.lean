/- The law ManifestNext: true, whatever the manifest. Condition: the tables that the text lays. -/
import Derived.Test.YtgbladpoglhleaaGreatDoorMd
import Derived.Test.YtgbladpoglhleaaGreatDoorLa
namespace Go.Proofs.YtgbladpoglhleaaGreatDoor
open Go.RowKit
theorem five {w : World} {g : Nat} {t : TypeId} {a b c d e : Value} (h : w.heap[g]? = some (.cells #[a, b, c, d, e] t (0, 0))) :
    w.cell? ⟨g, 0, none⟩ = some a ∧ w.cell? ⟨g, 1, none⟩ = some b ∧ w.cell? ⟨g, 2, none⟩ = some c ∧ w.cell? ⟨g, 3, none⟩ = some d ∧ w.cell? ⟨g, 4, none⟩ = some e :=
  ⟨(store_at h 0 (show 0 < 5 by decide)).1, (store_at h 1 (show 1 < 5 by decide)).1, (store_at h 2 (show 2 < 5 by decide)).1, (store_at h 3 (show 3 < 5 by decide)).1, (store_at h 4 (show 4 < 5 by decide)).1⟩
theorem Tabs.alloc {w : World} (T : Tabs w) (o : Obj) : Tabs (w.alloc o) :=
  ⟨var?_alloc T.crc, var?_alloc T.shapes, let ⟨b, off, h⟩ := T.err; ⟨b, off, var?_alloc h⟩⟩
theorem fewB_le {m : Man} (h : fewB m = true) : m.Cuts.length ≤ 2000 ∧ m.Shards.length ≤ 2000 ∧ m.Degrees.length ≤ 5000 := by
  simpa [fewB, and_assoc] using h
set_option maxHeartbeats 4000000 in
set_option maxRecDepth 100000 in
theorem ManifestNext_any {w : World} {ok : Nat → Prop} {v : Value} {m : Man} {there : Bool} (T : Tabs w) (hx : ManV w ok v m) : Calls Tryz.prog 4 #[v, .bool there] w fun e w' => e = .returned (.bool true) ∧ Below w.heap.size w w' := by
  have HX := Aside.mk hx
  obtain ⟨a, b, c, rfl, h1, h2, h3⟩ := hx
  obtain ⟨Aa, ca, rfl, _⟩ := h1.slice
  obtain ⟨Ab, cb, rfl, _⟩ := h2.slice
  obtain ⟨Ac, cc, rfl, _⟩ := h3.slice
  clear h1 h2 h3
  have hb0 : Below w.heap.size w (w.alloc (.cells #[.int .i64 m.Gen, .int .i64 m.N, .slice Aa m.Cuts.length ca, .slice Ab m.Shards.length cb, .slice Ac m.Degrees.length cc] 33)) := (Below.refl _ w).alloc (Nat.le_refl _) _
  have hm0 := heap_alloc_new w (.cells #[.int .i64 m.Gen, .int .i64 m.N, .slice Aa m.Cuts.length ca, .slice Ab m.Shards.length cb, .slice Ac m.Degrees.length cc] 33)
  have hfirst := first_any (T.alloc (.cells #[.int .i64 m.Gen, .int .i64 m.N, .slice Aa m.Cuts.length ca, .slice Ab m.Shards.length cb, .slice Ac m.Degrees.length cc] 33))
  have HB0 := Aside.mk hb0
  have HM0 := Aside.mk hm0
  clear T hb0 hm0
  go_enter Tryz.func4, Tryz.ntmps4
  go_wp2_with fail
  refine hfirst.mono ?_
  rintro e w1 ⟨rfl, B1⟩
  have HB1 := Aside.mk (bthen HB0.out HB0.out.size B1)
  have hm1 := bblk B1 HM0.out
  obtain ⟨k0, k1, k2, k3, k4⟩ := five hm1
  have HM1 := Aside.mk hm1
  have hfew := few_any (HX.out.below HB1.out)
  clear B1 hm1 hfirst HB0 HM0
  go_wp2_with fail
  refine hfew.mono ?_
  rintro e w2 ⟨rfl, B2⟩
  have HB2 := Aside.mk (bthen HB1.out HB1.out.size B2)
  have hm2 := bblk B2 HM1.out
  clear k0 k1 k2 k3 k4
  obtain ⟨k0, k1, k2, k3, k4⟩ := five hm2
  have HM2 := Aside.mk hm2
  clear B2 hm2 hfew HB1 HM1
  cases hq : fewB m with
  | false =>
    go_wp2
    go_ret
    exact ⟨rfl, HB2.out⟩
  | true =>
    obtain ⟨l1, l2, l3⟩ := fewB_le hq
    have hlent := lent_any (HX.out.below HB2.out) l1 l2 l3
    clear hq
    go_wp2_with fail
    refine hlent.mono ?_
    intro e w3 hp
    obtain ⟨u, rfl, HL3, B3⟩ := hp.lent
    have HB3 := Aside.mk (bthen HB2.out HB2.out.size B3)
    have hm3 := bblk B3 HM2.out
    have HL := Aside.mk HL3
    obtain ⟨u1, u2, u3, s1, s2, rfl, _, _, _, h3, h4, h5⟩ := HL3
    obtain ⟨g1, c1, rfl, _⟩ := h3
    obtain ⟨g2, c2, rfl, _⟩ := h4
    obtain ⟨g3, c3, rfl, _⟩ := h5
    have ba := (Below.refl w3.heap.size w3).alloc (Nat.le_refl _) (.cells #[.int .i64 m.Gen, .int .i64 m.N, .slice (some ⟨g1, 0, none⟩) m.Cuts.length c1, .slice (some ⟨g2, 0, none⟩) m.Shards.length c2, .slice (some ⟨g3, 0, none⟩) m.Degrees.length c3] 33)
    have HC4 := Aside.mk (heap_alloc_new w3 (.cells #[.int .i64 m.Gen, .int .i64 m.N, .slice (some ⟨g1, 0, none⟩) m.Cuts.length c1, .slice (some ⟨g2, 0, none⟩) m.Shards.length c2, .slice (some ⟨g3, 0, none⟩) m.Degrees.length c3] 33))
    have HM4 := Aside.mk (bblk ba hm3)
    have HB4 := Aside.mk (bthen HB3.out HB3.out.size ba)
    have HL4 := Aside.mk (HL.out.keep fun k _ hk => ba.block k hk)
    clear hlent k0 k1 k2 k3 k4 hm3 HB2 HM2 B3 hp ba HL HB3
    obtain ⟨p1, hp1⟩ : ∃ p1, p1 = (nextF m.Gen there).1 := ⟨_, rfl⟩
    obtain ⟨p2, hp2⟩ : ∃ p2, p2 = (nextF m.Gen there).2 := ⟨_, rfl⟩
    go_wp2_with fail
    refine next_any.mono ?_
    rw [← hp1, ← hp2]
    rintro e w5 ⟨rfl, B5⟩
    have HB5 := Aside.mk (bthen HB4.out HB4.out.size B5)
    have hm5 := bblk B5 HM4.out
    have hc5 := bblk B5 HC4.out
    have HL5 := Aside.mk (HL4.out.keep fun k _ hk => B5.block k (by simp; omega))
    obtain ⟨k0, k1, k2, k3, k4⟩ := five hm5
    have HM5 := Aside.mk hm5
    have HC5 := Aside.mk hc5
    clear B5 hm5 hc5 HB4 HM4 HC4 HL4
    go_wp2_with fail
    refine refNext_any.mono ?_
    rw [← hp1, ← hp2]
    rintro e w6 ⟨rfl, B6⟩
    have HB6 := Aside.mk (bthen HB5.out HB5.out.size B6)
    have hm6 := bblk B6 HM5.out
    have hc6 := bblk B6 HC5.out
    have hsz := (blk_lt HC5.out)
    have HL6 := Aside.mk (HL5.out.keep fun k _ hk => B6.block k (by omega))
    clear k0 k1 k2 k3 k4
    obtain ⟨k0, k1, k2, k3, k4⟩ := five hm6
    obtain ⟨q0, q1, q2, q3, q4⟩ := five hc6
    have hstay := stays_any HL6.out (HX.out.below HB6.out) l1 l2 l3
    clear B6 hm6 hc6 HB5 HM5 HC5 HL5 hsz hp1 hp2
    have hpe : (p2 == p2) = true := by simp
    have hpe1 : (p1 == p1) = true := by simp
    go_wp2_with fail
    refine hstay.mono ?_
    rintro e w7 ⟨rfl, B7⟩
    have HB7 := Aside.mk (bthen HB6.out HB6.out.size B7)
    clear k0 k1 k2 k3 k4 q0 q1 q2 q3 q4 B7 hstay HB6 HL6
    go_wp2_with fail
    refine (num_any p2).mono ?_
    rintro e w8 ⟨rfl, rfl⟩
    go_wp2
    go_ret
    exact ⟨rfl, HB7.out⟩
end Go.Proofs.YtgbladpoglhleaaGreatDoor
