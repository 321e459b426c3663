/- The reference's Encode of a manifest walked. No condition. -/
import Derived.Test.YtgbladpoglhleaaGreatDoorEr
import Derived.Test.YtgbladpoglhleaaGreatDoorEm
namespace Go.Proofs.YtgbladpoglhleaaGreatDoor
open Go.RowKit Go.Shelf
set_option maxHeartbeats 8000000 in
set_option maxRecDepth 100000 in
theorem refEncode_any {w : World} {ok : Nat → Prop} {v : Value} {m : Man} (hx : ManV w ok v m) (hl1 : m.Cuts.length ≤ 16777216) (hl2 : m.Shards.length ≤ 16777216) (hl3 : m.Degrees.length ≤ 16777216) : Calls Tryz.prog 26 #[v] w (EncPost w m) := by
  have hmay := Aside.mk (fun (W : World) (h : Below w.heap.size w W) => refMay_any (hx.below h) hl1 hl2 hl3)
  obtain ⟨a, b, c, rfl, h1, h2, h3⟩ := hx
  obtain ⟨Aa, ca, rfl, _⟩ := h1.slice
  obtain ⟨Ab, cb, rfl, _⟩ := h2.slice
  obtain ⟨Ac, cc, rfl, _⟩ := h3.slice
  have H1 := Aside.mk h1
  have H2 := Aside.mk h2
  have H3 := Aside.mk h3
  have HL := Aside.mk (And.intro hl1 (And.intro hl2 hl3))
  clear h1 h2 h3 hl1 hl2 hl3
  have HOKs := Aside.mk (@may_ok m)
  have HMe : Aside (mayF m = mayF m) := ⟨rfl⟩
  obtain ⟨mb, hmb⟩ : ∃ mb, mb = mayF m := ⟨_, rfl⟩
  have HMb := Aside.mk hmb
  have bA := (Below.refl w.heap.size w).alloc (Nat.le_refl _) (.cells #[.int .i64 m.Gen, .int .i64 m.N, .slice Aa m.Cuts.length ca, .slice Ab m.Shards.length cb, .slice Ac m.Degrees.length cc] 33)
  have hcall := hmay.out _ bA
  have hm0 := heap_alloc_new w (.cells #[.int .i64 m.Gen, .int .i64 m.N, .slice Aa m.Cuts.length ca, .slice Ab m.Shards.length cb, .slice Ac m.Degrees.length cc] 33)
  have HBa := Aside.mk bA
  clear hmay bA
  go_enter Tryz.func26, Tryz.ntmps26
  go_wp2_with fail
  refine hcall.mono ?_
  clear hcall
  rintro e w1 ⟨he, B1⟩
  rw [← hmb] at he
  subst he
  have HB1 := Aside.mk (bthen HBa.out HBa.out.size B1)
  have HM1 := Aside.mk (bblk B1 hm0)
  clear hm0 B1 HBa hmb
  cases mb with
  | false =>
    have HP := Aside.mk (enc_no HMb.out.symm HB1.out)
    go_wp2
    exact bodyPost_ret (by simp [results, Tryz.results26, go_sem]) rfl HP.out
  | true =>
    have HK := Aside.mk (HOKs.out HMb.out.symm)
    clear HOKs
    obtain ⟨k0, k1, k2, k3, k4⟩ := five HM1.out
    have hrg := And.intro HK.out.gen (And.intro HK.out.n (And.intro HK.out.ns HK.out.nc))
    have HRG := Aside.mk hrg
    clear hrg
    have HSof : Aside (∀ W', Below w1.heap.size w1 W' → W'.cell? ⟨w.heap.size, 0, none⟩ = some (.int .i64 m.Gen) ∧ W'.cell? ⟨w.heap.size, 1, none⟩ = some (.int .i64 m.N) ∧ W'.cell? ⟨w.heap.size, 2, none⟩ = some (.slice Aa m.Cuts.length ca)) := ⟨fun W' hb => ⟨bcell hb k0, bcell hb k1, bcell hb k2⟩⟩
    have HB0 : Aside (Below w1.heap.size w1 w1.drew) := ⟨bdrew1 (Below.refl _ _)⟩
    have hS0 := HSof.out _ HB0.out
    clear k0 k1 k2 k3 k4
    go_upto_region 4 with (fail)
    refine wp_region_X 10 (fun w' => w'.cell? ⟨w.heap.size, 0, none⟩ = some (.int .i64 m.Gen) ∧ w'.cell? ⟨w.heap.size, 1, none⟩ = some (.int .i64 m.N) ∧ w'.cell? ⟨w.heap.size, 2, none⟩ = some (.slice Aa m.Cuts.length ca)) (by kernel_rfl) ?_
    refine wpAnyX_take (i := 0) (oi := ⟨some 15, .fieldAddr 33 (.tmp 1) 0, _, _, _, _⟩) (v := .pointer (some ⟨w.heap.size, 0, none⟩)) rfl (by kernel_rfl) (by kernel_rfl) (by kernel_rfl) (by kernel_rfl) (fun _ _ _ h => h) (Or.inl ⟨by rfl, ?_⟩) hS0 ?_
    · intro w' hSw
      first | (go_simp; done) | (go_simp; rfl)
    simp only [Act.put, List.setIfInBounds_toArray, List.set_cons_zero, List.set_cons_succ]
    refine wpAnyX_take (i := 1) (oi := ⟨some 16, .load 3 (.tmp 15), _, _, _, _⟩) (v := .int .i64 m.Gen) rfl (by kernel_rfl) (by kernel_rfl) (by kernel_rfl) (by kernel_rfl) (fun _ _ _ h => h) (Or.inl ⟨by rfl, ?_⟩) hS0 ?_
    · intro w' hSw
      first | (go_simp; done) | (go_simp; rfl)
    simp only [Act.put, List.setIfInBounds_toArray, List.set_cons_zero, List.set_cons_succ]
    refine wpAnyX_take (i := 3) (oi := ⟨some 18, .fieldAddr 33 (.tmp 1) 1, _, _, _, _⟩) (v := .pointer (some ⟨w.heap.size, 1, none⟩)) rfl (by kernel_rfl) (by kernel_rfl) (by kernel_rfl) (by kernel_rfl) (fun _ _ _ h => h) (Or.inl ⟨by rfl, ?_⟩) hS0 ?_
    · intro w' hSw
      first | (go_simp; done) | (go_simp; rfl)
    simp only [Act.put, List.setIfInBounds_toArray, List.set_cons_zero, List.set_cons_succ]
    refine wpAnyX_take (i := 4) (oi := ⟨some 19, .load 3 (.tmp 18), _, _, _, _⟩) (v := .int .i64 m.N) rfl (by kernel_rfl) (by kernel_rfl) (by kernel_rfl) (by kernel_rfl) (fun _ _ _ h => h) (Or.inl ⟨by rfl, ?_⟩) hS0 ?_
    · intro w' hSw
      first | (go_simp; done) | (go_simp; rfl)
    simp only [Act.put, List.setIfInBounds_toArray, List.set_cons_zero, List.set_cons_succ]
    refine wpAnyX_take (i := 6) (oi := ⟨some 21, .fieldAddr 33 (.tmp 1) 2, _, _, _, _⟩) (v := .pointer (some ⟨w.heap.size, 2, none⟩)) rfl (by kernel_rfl) (by kernel_rfl) (by kernel_rfl) (by kernel_rfl) (fun _ _ _ h => h) (Or.inl ⟨by rfl, ?_⟩) hS0 ?_
    · intro w' hSw
      first | (go_simp; done) | (go_simp; rfl)
    simp only [Act.put, List.setIfInBounds_toArray, List.set_cons_zero, List.set_cons_succ]
    refine wpAnyX_take (i := 7) (oi := ⟨some 22, .load 30 (.tmp 21), _, _, _, _⟩) (v := .slice Aa m.Cuts.length ca) rfl (by kernel_rfl) (by kernel_rfl) (by kernel_rfl) (by kernel_rfl) (fun _ _ _ h => h) (Or.inl ⟨by rfl, ?_⟩) hS0 ?_
    · intro w' hSw
      first | (go_simp; done) | (go_simp; rfl)
    simp only [Act.put, List.setIfInBounds_toArray, List.set_cons_zero, List.set_cons_succ]
    refine wpAnyX_take (i := 8) (oi := ⟨some 23, .call { callee := .builtin .len, args := #[.tmp 22], argTypes := #[30] }, _, _, _, _⟩) (v := .int .i64 (m.Cuts.length : Int)) rfl (by kernel_rfl) (by kernel_rfl) (by kernel_rfl) (by kernel_rfl) (fun _ _ _ h => h) (Or.inl ⟨by rfl, ?_⟩) hS0 ?_
    · intro w' hSw
      first | (go_simp; done) | (go_simp; rfl)
    simp only [Act.put, List.setIfInBounds_toArray, List.set_cons_zero, List.set_cons_succ]
    refine wpAnyX_one (i := 2) (oi := ⟨some 17, .call { callee := .value (.func 54), args := #[.const (.slice none 0 0), .tmp 16], argTypes := #[44, 3] }, _, _, _, _⟩) rfl (by kernel_rfl) (fun K hK => ?_)
    go_simp
    refine (refFour_any (bs := []) w1.drew.heap.size (Nat.le_refl _) (World.ownsRow_nil _ _ _ _) (x := m.Gen) (by have := HRG.out; omega) (by have := HRG.out; omega) (by simp)).mono ?_
    rintro e w2 ⟨v2, rfl, ho, hg, _⟩
    have HB2 := Aside.mk (HB0.out.grown hg HB0.out.size fun q e => by cases e)
    have HR2 := Aside.mk ho
    obtain ⟨A2, m2, c2, rfl⟩ := own_slice HR2.out
    have hS2 := HSof.out _ HB2.out
    clear ho hg
    refine hK _ _ ⟨.inr hS2, ?_⟩
    clear hK K
    try simp only [Act.put, List.setIfInBounds_toArray, List.set_cons_zero, List.set_cons_succ]
    refine wpAnyX_one (i := 5) (oi := ⟨some 20, .call { callee := .value (.func 54), args := #[.tmp 17, .tmp 19], argTypes := #[44, 3] }, _, _, _, _⟩) rfl (by kernel_rfl) (fun K hK => ?_)
    go_simp
    refine (refFour_any (bs := [] ++ be4 m.Gen) w1.drew.heap.size HB2.out.size HR2.out (x := m.N) (by have := HRG.out; omega) (by have := HRG.out; omega) (by simp [be4_length])).mono ?_
    rintro e w3 ⟨v3, rfl, ho, hg, _⟩
    have HB3 := Aside.mk (HB2.out.grown hg HB2.out.size fun q e => (HR2.out.lt q e).1)
    have HR3 := Aside.mk ho
    obtain ⟨A3, m3, c3, rfl⟩ := own_slice HR3.out
    have hS3 := HSof.out _ HB3.out
    clear ho hg HB2 HR2
    refine hK _ _ ⟨.inr hS3, ?_⟩
    clear hK K
    try simp only [Act.put, List.setIfInBounds_toArray, List.set_cons_zero, List.set_cons_succ]
    refine wpAnyX_one (i := 9) (oi := ⟨some 24, .call { callee := .value (.func 54), args := #[.tmp 20, .tmp 23], argTypes := #[44, 3] }, _, _, _, _⟩) rfl (by kernel_rfl) (fun K hK => ?_)
    go_simp
    refine (refFour_any (bs := [] ++ be4 m.Gen ++ be4 m.N) w1.drew.heap.size HB3.out.size HR3.out (x := (m.Cuts.length : Int)) (by omega) (by have := HRG.out; omega) (by simp [be4_length])).mono ?_
    rintro e wh ⟨vh, rfl, ho, hg, _⟩
    have HBt := Aside.mk (HB3.out.grown hg HB3.out.size fun q e => (HR3.out.lt q e).1)
    have hhe : [] ++ be4 m.Gen ++ be4 m.N ++ be4 (m.Cuts.length : Int) = headM m := by have := HRG.out.2.2.2; unfold headM; rw [this]; simp [fours]
    rw [hhe] at ho
    have HRh := Aside.mk (own_low ho HB1.out.size)
    obtain ⟨Ah, mh, ch, rfl⟩ := own_slice HRh.out
    have hSh := HSof.out _ HBt.out
    have HBh := Aside.mk (bthen HB1.out HB1.out.size HBt.out)
    have HMh := Aside.mk (bblk HBt.out HM1.out)
    clear ho hg HB3 HR3 hhe
    refine hK _ _ ⟨.inr hSh, ?_⟩
    clear hK K
    try simp only [Act.put, List.setIfInBounds_toArray, List.set_cons_zero, List.set_cons_succ]
    refine wpAnyX_one (i := 10) (oi := ⟨some 6, .assign (.tmp 24), _, _, _, _⟩) rfl (by kernel_rfl) (fun K hK => ?_)
    go_simp
    refine hK _ _ ⟨.inl rfl, ?_⟩
    clear hK K
    try simp only [Act.put, List.setIfInBounds_toArray, List.set_cons_zero, List.set_cons_succ]
    refine wpAnyX_done (by kernel_rfl) ?_ _
    clear hS0 hS2 hS3 hSh HB0 HSof HBt HB1 HM1
    obtain ⟨lo, hlo⟩ : ∃ lo, lo = wh.heap.size := ⟨_, rfl⟩
    have HLo := Aside.mk hlo
    have HQ0 : Aside (EQ lo wh wh (.slice none 0 0) [] (.slice none 0 0) (rowsS m 0) (curS m 0)) := ⟨by rw [rowsS_zero, curS_zero, hlo]; exact EQ.init wh⟩
    clear hlo
    obtain ⟨k0, k1, k2, k3, k4⟩ := five HMh.out
    have HLS := Aside.mk HK.out.nc
    go_wp2_with fail
    go_loopg [7, 8, 9] m.Shards.length (fun kq v7 v8 v9 wr => ∃ (i : Nat) (vs : List Value), Aside (i + kq = m.Shards.length) ∧ v9 = .int .i64 i ∧ Aside (EQ lo wh wr v7 vs v8 (rowsS m i) (curS m i)))
    case atStart => exact ⟨0, [], ⟨by omega⟩, rfl, HQ0⟩
    case round =>
      clear HQ0 k0 k1 k2 k3 k4
      obtain ⟨i, vs, HI, rfl, HQ⟩ := hrel
      obtain ⟨A7, n7, c7, rfl⟩ := own_slice HQ.out.bl.own
      obtain ⟨A8, n8, c8, rfl⟩ := own_slice HQ.out.own
      obtain ⟨w2, hw2⟩ : ∃ w2, w2 = wr := ⟨_, rfl⟩
      subst hw2
      have HBw : Aside (∀ W, Below lo wh W → Below w.heap.size w W ∧ W.heap[w.heap.size]? = some (.cells #[.int .i64 m.Gen, .int .i64 m.N, .slice Aa m.Cuts.length ca, .slice Ab m.Shards.length cb, .slice Ac m.Degrees.length cc] 33 (0, 0))) := ⟨fun W hW => by
        have hW' : Below wh.heap.size wh W := by rw [← HLo.out]; exact hW
        exact ⟨bthen HBh.out HBh.out.size hW', bblk hW' HMh.out⟩⟩
      by_cases hi : i < m.Shards.length
      · have hic : i < m.Cuts.length := by have := HLS.out; omega
        obtain ⟨bs, os, e, -⟩ := (H2.out.below (HBw.out _ HQ.out.bel).1).info i hi
        cases e
        obtain ⟨bq, oq, e, -⟩ := (H1.out.below (HBw.out _ HQ.out.bel).1).int i hic
        cases e
        have HM : Aside (m.Shards.length - (i + 1) < gk ∧ i + 1 + (m.Shards.length - (i + 1)) = m.Shards.length) := ⟨by have := HI.out; omega⟩
        have hgd : m.Cuts.getD i 0 = m.Cuts[i] := by rw [List.getD_eq_getElem?_getD, List.getElem?_eq_getElem hic]; rfl
        have hgs : m.Shards.getD i iD = m.Shards[i] := by rw [List.getD_eq_getElem?_getD, List.getElem?_eq_getElem hi]; rfl
        have hcut := HK.out.cut i hi
        have hsh := HK.out.sh i hi
        rw [hgd] at hcut
        rw [hgs] at hsh
        have HSof : Aside (∀ W, Below lo wh W → W.cell? ⟨w.heap.size, 2, none⟩ = some (.slice (some ⟨bq, oq, none⟩) m.Cuts.length ca) ∧ W.cell? ⟨w.heap.size, 3, none⟩ = some (.slice (some ⟨bs, os, none⟩) m.Shards.length cb) ∧ W.cell? ⟨bq, oq + i, none⟩ = some (.int .i64 m.Cuts[i]) ∧
            W.cell? ⟨bs, os + i * 3, none⟩ = some (.int .i64 m.Shards[i].Size) ∧ W.cell? ⟨bs, os + i * 3 + 1, none⟩ = some (.int .u32 m.Shards[i].Sum.toNat) ∧ W.cell? ⟨bs, os + i * 3 + 2, none⟩ = some (.int .i64 m.Shards[i].Arcs)) := ⟨fun W hW => by
          obtain ⟨hb, hm⟩ := HBw.out W hW
          obtain ⟨-, -, q2, q3, -⟩ := five hm
          obtain ⟨b', o', e, s0, s1, s2⟩ := (H2.out.below hb).info i hi
          cases e
          obtain ⟨b', o', e, q⟩ := (H1.out.below hb).int i hic
          cases e
          exact ⟨q2, q3, q, s0, s1, s2⟩⟩
        have HRow : Aside (shRow m i = be4 m.Cuts[i] ++ be4 m.Shards[i].Size ++ be4 (m.Shards[i].Sum.toNat : Int) ++ be4 m.Shards[i].Arcs) := ⟨by unfold shRow shB; rw [hgd, hgs, fours4]; simp only [List.append_assoc, List.append_nil]⟩
        clear hgd hgs
        generalize m.Shards[i] = sh at *
        generalize m.Cuts[i] = cut at *
        have h32 : sh.Sum.toNat < 4294967296 := sh.Sum.toNat_lt
        have hwr : IntKind.i64.wrap (sh.Sum.toNat : Int) = (sh.Sum.toNat : Int) := wrap_u32 sh.Sum
        have hi1 : (i : Int) < (m.Cuts.length : Int) := by omega
        have hi2 : (i : Int) < (m.Shards.length : Int) := by omega
        have hi0 : (0 : Int) ≤ (i : Int) := by omega
        have hcl : m.Cuts.length ≤ 1000 := by have := HK.out.ns; have := HLS.out; omega
        have HLn0 : Aside ((curS m i).length ≤ 800 + 0) := ⟨curS_len m (by omega)⟩
        have HQ0 := HQ
        have HSF := Aside.mk (stepS_flush m hi)
        have HSK := Aside.mk (stepS_keep m hi)
        clear HQ
        obtain ⟨p2, p3, pq, p4, p5, p6⟩ := HSof.out _ HQ0.out.bel
        go_wp2_with fail
        refine (refFour_any lo HQ0.out.size HQ0.out.own (x := cut) (by omega) (by omega) (by have := HLn0.out; omega)).mono ?_
        rintro e w3 ⟨v1, rfl, ho, hg, hm2⟩
        have HQ1 := Aside.mk (HQ0.out.grow ho hg hm2)
        have HLn1 : Aside ((curS m i ++ be4 cut).length ≤ 800 + 4) := ⟨by have := HLn0.out; rw [List.length_append, be4_length]; omega⟩
        obtain ⟨Ax1, mx1, cx1, rfl⟩ := own_slice HQ1.out.own
        clear ho hg hm2 HQ0 HLn0 p2 p3 pq p4 p5 p6
        obtain ⟨p2, p3, pq, p4, p5, p6⟩ := HSof.out _ HQ1.out.bel
        go_wp2_with fail
        refine (refFour_any lo HQ1.out.size HQ1.out.own (x := sh.Size) (by omega) (by omega) (by have := HLn1.out; omega)).mono ?_
        rintro e w4 ⟨v2, rfl, ho, hg, hm2⟩
        have HQ2 := Aside.mk (HQ1.out.grow ho hg hm2)
        have HLn2 : Aside (((curS m i ++ be4 cut) ++ be4 sh.Size).length ≤ 800 + 8) := ⟨by have := HLn1.out; rw [List.length_append, be4_length]; omega⟩
        obtain ⟨Ax2, mx2, cx2, rfl⟩ := own_slice HQ2.out.own
        clear ho hg hm2 HQ1 HLn1 p2 p3 pq p4 p5 p6
        obtain ⟨p2, p3, pq, p4, p5, p6⟩ := HSof.out _ HQ2.out.bel
        go_wp2_with fail
        refine (refFour_any lo HQ2.out.size HQ2.out.own (x := (sh.Sum.toNat : Int)) (by omega) (by omega) (by have := HLn2.out; omega)).mono ?_
        rintro e w5 ⟨v3, rfl, ho, hg, hm2⟩
        have HQ3 := Aside.mk (HQ2.out.grow ho hg hm2)
        have HLn3 : Aside ((((curS m i ++ be4 cut) ++ be4 sh.Size) ++ be4 (sh.Sum.toNat : Int)).length ≤ 800 + 12) := ⟨by have := HLn2.out; rw [List.length_append, be4_length]; omega⟩
        obtain ⟨Ax3, mx3, cx3, rfl⟩ := own_slice HQ3.out.own
        clear ho hg hm2 HQ2 HLn2 p2 p3 pq p4 p5 p6
        obtain ⟨p2, p3, pq, p4, p5, p6⟩ := HSof.out _ HQ3.out.bel
        go_wp2_with fail
        refine (refFour_any lo HQ3.out.size HQ3.out.own (x := sh.Arcs) (by omega) (by omega) (by have := HLn3.out; omega)).mono ?_
        rintro e w6 ⟨v4, rfl, ho, hg, hm2⟩
        have HQ4 := Aside.mk (HQ3.out.grow ho hg hm2)
        have HLn4 : Aside (((((curS m i ++ be4 cut) ++ be4 sh.Size) ++ be4 (sh.Sum.toNat : Int)) ++ be4 sh.Arcs).length ≤ 800 + 16) := ⟨by have := HLn3.out; rw [List.length_append, be4_length]; omega⟩
        obtain ⟨Ax4, mx4, cx4, rfl⟩ := own_slice HQ4.out.own
        clear ho hg hm2 HQ3 HLn3 p2 p3 pq p4 p5 p6
        have HQ5 : Aside (EQ lo wh w6 (.slice A7 n7 c7) vs (.slice Ax4 mx4 cx4) (rowsS m i) (curS m i ++ shRow m i)) := ⟨by rw [HRow.out]; simpa only [List.append_assoc] using HQ4.out⟩
        clear HQ4 HLn4 HRow
        obtain ⟨p2, p3, pq, p4, p5, p6⟩ := HSof.out _ HQ5.out.bel
        have HRl : Aside ((rowsS m i).length ≤ 1000) := ⟨by unfold rowsS kS; rw [List.length_map, List.length_range]; split <;> omega⟩
        have HNx : Aside (∀ (v1 : Value) (w9 : World), (i % 50 = 49 ∨ i = m.Shards.length - 1) → w9.ownsRow lo 44 1 v1 ((rowsS m i).length + 1) (vs ++ [.slice Ax4 mx4 cx4]) → w6.grownBy w9 (Value.ownBlock (.slice A7 n7 c7)) → (v1.ownBlock = Value.ownBlock (.slice A7 n7 c7) ∨ v1.ownBlock = some (w6.heap.size + 1)) → EQ lo wh w9 v1 (vs ++ [.slice Ax4 mx4 cx4]) (.slice none 0 0) (rowsS m (i + 1)) (curS m (i + 1))) := ⟨fun v1 w9 hf hown hg hat => by
          obtain ⟨e1, e2⟩ := HSF.out hf
          rw [e1, e2]
          exact HQ5.out.flush hown hg hat⟩
        have HOd := Aside.mk HQ5.out.bl.own
        have HOs := Aside.mk HQ5.out.size
        have hi50 : i % 50 < 50 := Nat.mod_lt _ (by decide)
        by_cases h49 : i % 50 = 49
        · have e50 : ((i : Int) % 50 == 49) = true := by simp; omega
          have HF : Aside (i % 50 = 49 ∨ i = m.Shards.length - 1) := ⟨.inl h49⟩
          generalize (rowsS m i).length = rl at *
          go_wp2_with (at_builtin; go_must (refine app_one lo rfl _ _ 45 44 (.slice none 0 0) 1 24 rfl Tryz.underlying45 Tryz.infoBytes rfl (by decide) (by decide) (.slice A7 n7 c7) rl vs [.slice Ax4 mx4 cx4] rfl rfl rfl (by simp [Value.oneCell']) HOd.out HOs.out (by have := HRl.out; omega) ?_; intro v1 w9 hown hg hat; have HQ9 := Aside.mk (HNx.out v1 w9 HF.out hown hg hat); clear hown hg hat))
          go_roundg (m.Shards.length - (i + 1))
          case measure => exact HM.out.1
          case rel => exact ⟨i + 1, _, ⟨HM.out.2⟩, by go_num, HQ9⟩
        · have e50 : ((i : Int) % 50 == 49) = false := by simp; omega
          by_cases hie : i = m.Shards.length - 1
          · have eN : ((i : Int) == (m.Cuts.length : Int) - 1) = true := by have := HLS.out; simp; omega
            have HF : Aside (i % 50 = 49 ∨ i = m.Shards.length - 1) := ⟨.inr hie⟩
            clear hie
            generalize (rowsS m i).length = rl at *
            go_wp2_with (at_builtin; go_must (refine app_one lo rfl _ _ 45 44 (.slice none 0 0) 1 24 rfl Tryz.underlying45 Tryz.infoBytes rfl (by decide) (by decide) (.slice A7 n7 c7) rl vs [.slice Ax4 mx4 cx4] rfl rfl rfl (by simp [Value.oneCell']) HOd.out HOs.out (by have := HRl.out; omega) ?_; intro v1 w9 hown hg hat; have HQ9 := Aside.mk (HNx.out v1 w9 HF.out hown hg hat); clear hown hg hat))
            go_roundg (m.Shards.length - (i + 1))
            case measure => exact HM.out.1
            case rel => exact ⟨i + 1, _, ⟨HM.out.2⟩, by go_num, HQ9⟩
          · have eN : ((i : Int) == (m.Cuts.length : Int) - 1) = false := by have := HLS.out; simp; omega
            have HQ9 : Aside (EQ lo wh w6 (.slice A7 n7 c7) vs (.slice Ax4 mx4 cx4) (rowsS m (i + 1)) (curS m (i + 1))) := ⟨by
              obtain ⟨e1, e2⟩ := HSK.out (by intro h; rcases h with h | h; exact h49 h; exact hie h)
              rw [e1, e2]
              exact HQ5.out⟩
            clear hie
            go_wp2_with fail
            go_roundg (m.Shards.length - (i + 1))
            case measure => exact HM.out.1
            case rel => exact ⟨i + 1, _, ⟨HM.out.2⟩, by go_num, HQ9⟩
      · have hie : i = m.Shards.length := by have := HI.out; omega
        subst hie
        have HQ5 : Aside (EQ lo wh w2 (.slice A7 n7 c7) vs (.slice A8 n8 c8) (dataS m) []) := ⟨by have h := HQ.out; rw [rowsS_end, curS_end] at h; exact h⟩
        obtain ⟨-, p1, p2, -, p4⟩ := five (HBw.out _ HQ5.out.bel).2
        have hi1 : ¬ ((m.Shards.length : Int) < (m.Cuts.length : Int)) := by have := HLS.out; omega
        clear HQ hi
        have hi := Nat.lt_irrefl m.Shards.length
        have HQ0 : Aside (EQ lo wh w2 (.slice A7 n7 c7) vs (.slice A8 n8 c8) (dataS m ++ rowsD m.Degrees 0) (curD m.Degrees 0)) := ⟨by rw [rowsD_zero, curD_zero, List.append_nil]; exact HQ5.out⟩
        have HNd : Aside (m.N = (m.Degrees.length : Int)) := ⟨HK.out.nd.symm⟩
        clear HQ5 HI
        go_wp2_with fail
        go_loopg [7, 8, 10] m.Degrees.length (fun kq v7 v8 v10 wr => ∃ (i : Nat) (vs : List Value), Aside (i + kq = m.Degrees.length) ∧ v10 = .int .i64 i ∧ Aside (EQ lo wh wr v7 vs v8 (dataS m ++ rowsD m.Degrees i) (curD m.Degrees i)))
        case atStart => exact ⟨0, vs, ⟨by omega⟩, rfl, HQ0⟩
        case round =>
          clear HQ0 p1 p2 p4 hi hi1
          clear vs
          obtain ⟨i, vs, HI, rfl, HQ⟩ := hrel
          obtain ⟨A9, n9, c9, rfl⟩ := own_slice HQ.out.bl.own
          obtain ⟨Ax, mx, cx, rfl⟩ := own_slice HQ.out.own
          obtain ⟨w3, hw3⟩ : ∃ w3, w3 = wr := ⟨_, rfl⟩
          subst hw3
          have HPof : Aside (∀ W, Below lo wh W → W.cell? ⟨w.heap.size, 1, none⟩ = some (.int .i64 m.N) ∧ W.cell? ⟨w.heap.size, 4, none⟩ = some (.slice Ac m.Degrees.length cc)) := ⟨fun W hW => by
            obtain ⟨-, q1, -, -, q4⟩ := five (HBw.out W hW).2
            exact ⟨q1, q4⟩⟩
          obtain ⟨p1, p4⟩ := HPof.out _ HQ.out.bel
          by_cases hi : i < m.Degrees.length
          · have HM : Aside (m.Degrees.length - (i + 1) < gk ∧ i + 1 + (m.Degrees.length - (i + 1)) = m.Degrees.length) := ⟨by have := HI.out; omega⟩
            obtain ⟨bd, od, e, pd⟩ := (H3.out.below (HBw.out _ HQ.out.bel).1).int i hi
            cases e
            have hd := HK.out.deg m.Degrees[i] (List.getElem_mem hi)
            have hln : (curD m.Degrees i).length ≤ 2000 := by
              have h := rowD_le (c := (m.Degrees.take i).drop (200 * kD m.Degrees.length i)) (fun d hd => by
                have := HK.out.deg d (List.mem_of_mem_take (List.mem_of_mem_drop hd))
                have := HK.out.n
                omega)
              have e1 : kD m.Degrees.length i = i / 200 := by unfold kD; rw [if_pos hi]
              rw [List.length_drop, List.length_take, e1] at h
              unfold curD segD
              rw [e1]
              omega
            have HSF := Aside.mk (stepD_flush m.Degrees hi)
            have HSK := Aside.mk (stepD_keep m.Degrees hi)
            generalize m.Degrees[i] = d at *
            obtain ⟨y, rfl⟩ := Int.eq_ofNat_of_zero_le hd.1
            have hy : y < 9223372036854775808 := by have := hd.2; have := HK.out.n; omega
            have HVI : Aside (vI (y : Int) = vform y) := ⟨by simp [vI]⟩
            have hcon := refPut_any y hy (own_u8s HQ.out.own).sl (by omega)
            have hi1 : (i : Int) < (m.Degrees.length : Int) := by omega
            have hi3 : (i : Int) < m.N := by rw [HNd.out]; omega
            have hi0 : (0 : Int) ≤ (i : Int) := by omega
            have hcl : m.Degrees.length ≤ 16777216 := HL.out.2.2
            clear hd hln
            go_wp2_with fail
            refine hcon.mono ?_
            clear hcon p1 p4 pd
            rintro e w6 ⟨vy, rfl, ho, hb⟩
            have HQ5 : Aside (EQ lo wh w6 (.slice A9 n9 c9) vs vy (dataS m ++ rowsD m.Degrees i) (curD m.Degrees i ++ vI (y : Int))) := ⟨by rw [HVI.out]; exact HQ.out.fresh ho hb⟩
            obtain ⟨Ay, my, cy, rfl⟩ := own_slice HQ5.out.own
            clear ho hb HQ HVI
            obtain ⟨p1, p4⟩ := HPof.out _ HQ5.out.bel
            have HRl : Aside ((dataS m ++ rowsD m.Degrees i).length ≤ 33554432) := ⟨by
              have := HK.out.ns
              unfold dataS rowsD kD
              simp only [List.length_append, List.length_map, List.length_range]
              split <;> omega⟩
            have HNx : Aside (∀ (v1 : Value) (w9 : World), (i % 200 = 199 ∨ i = m.Degrees.length - 1) → w9.ownsRow lo 44 1 v1 ((dataS m ++ rowsD m.Degrees i).length + 1) (vs ++ [.slice Ay my cy]) → w6.grownBy w9 (Value.ownBlock (.slice A9 n9 c9)) → (v1.ownBlock = Value.ownBlock (.slice A9 n9 c9) ∨ v1.ownBlock = some (w6.heap.size + 1)) → EQ lo wh w9 v1 (vs ++ [.slice Ay my cy]) (.slice none 0 0) (dataS m ++ rowsD m.Degrees (i + 1)) (curD m.Degrees (i + 1))) := ⟨fun v1 w9 hf hown hg hat => by
              obtain ⟨e1, e2⟩ := HSF.out hf
              rw [e1, e2, ← List.append_assoc]
              exact HQ5.out.flush hown hg hat⟩
            have HOd := Aside.mk HQ5.out.bl.own
            have HOs := Aside.mk HQ5.out.size
            by_cases h49 : i % 200 = 199
            · have e50 : ((i : Int) % 200 == 199) = true := by simp; omega
              have HF : Aside (i % 200 = 199 ∨ i = m.Degrees.length - 1) := ⟨.inl h49⟩
              clear h49
              generalize (dataS m ++ rowsD m.Degrees i).length = rl at *
              go_wp2_with (at_builtin; go_must (refine app_one lo rfl _ _ 45 44 (.slice none 0 0) 1 24 rfl Tryz.underlying45 Tryz.infoBytes rfl (by decide) (by decide) (.slice A9 n9 c9) rl vs [.slice Ay my cy] rfl rfl rfl (by simp [Value.oneCell']) HOd.out HOs.out (by have := HRl.out; omega) ?_; intro v1 w9 hown hg hat; have HQ9 := Aside.mk (HNx.out v1 w9 HF.out hown hg hat); clear hown hg hat))
              go_roundg (m.Degrees.length - (i + 1))
              case measure => exact HM.out.1
              case rel => exact ⟨i + 1, _, ⟨HM.out.2⟩, by go_num, HQ9⟩
            · have e50 : ((i : Int) % 200 == 199) = false := by simp; omega
              by_cases hie : i = m.Degrees.length - 1
              · have eN : ((i : Int) == m.N - 1) = true := by have := HNd.out; simp; omega
                have HF : Aside (i % 200 = 199 ∨ i = m.Degrees.length - 1) := ⟨.inr hie⟩
                have hn1 : 1 ≤ m.N ∧ m.N ≤ 16777216 := by have := HNd.out; omega
                clear hie h49
                generalize (dataS m ++ rowsD m.Degrees i).length = rl at *
                go_wp2_with (at_builtin; go_must (refine app_one lo rfl _ _ 45 44 (.slice none 0 0) 1 24 rfl Tryz.underlying45 Tryz.infoBytes rfl (by decide) (by decide) (.slice A9 n9 c9) rl vs [.slice Ay my cy] rfl rfl rfl (by simp [Value.oneCell']) HOd.out HOs.out (by have := HRl.out; omega) ?_; intro v1 w9 hown hg hat; have HQ9 := Aside.mk (HNx.out v1 w9 HF.out hown hg hat); clear hown hg hat))
                go_roundg (m.Degrees.length - (i + 1))
                case measure => exact HM.out.1
                case rel => exact ⟨i + 1, _, ⟨HM.out.2⟩, by go_num, HQ9⟩
              · have eN : ((i : Int) == m.N - 1) = false := by have := HNd.out; simp; omega
                have hn1 : 1 ≤ m.N ∧ m.N ≤ 16777216 := by have := HNd.out; omega
                have HQ9 : Aside (EQ lo wh w6 (.slice A9 n9 c9) vs (.slice Ay my cy) (dataS m ++ rowsD m.Degrees (i + 1)) (curD m.Degrees (i + 1))) := ⟨by
                  obtain ⟨e1, e2⟩ := HSK.out (by intro h; rcases h with h | h; exact h49 h; exact hie h)
                  rw [e1, e2]
                  exact HQ5.out⟩
                clear hie h49
                go_wp2_with fail
                go_roundg (m.Degrees.length - (i + 1))
                case measure => exact HM.out.1
                case rel => exact ⟨i + 1, _, ⟨HM.out.2⟩, by go_num, HQ9⟩
          · have hie : i = m.Degrees.length := by have := HI.out; omega
            subst hie
            have hi3 : ¬ ((m.Degrees.length : Int) < m.N) := by rw [HNd.out]; omega
            have HP : Aside (EncPost w m (.returned (.tuple #[.slice Ah mh ch, .slice A9 n9 c9, .int .i64 0])) w3) := ⟨by
              have h := HQ.out
              rw [rowsD_end] at h
              exact ⟨fun _ => ⟨_, _, vs, rfl, ownsRow_move HRh.out (fun q e => h.bel.block q (by rw [HLo.out]; exact (HRh.out.lt q e).2)), h.bl.low (by rw [HLo.out]; exact HBh.out.size)⟩, fun e => absurd (HMb.out.trans e) (by decide), (HBw.out _ h.bel).1⟩⟩
            clear HQ hi
            go_wp2_with fail
            exact bodyPost_ret (by simp [results, Tryz.results26, go_sem]) rfl HP.out
end Go.Proofs.YtgbladpoglhleaaGreatDoor
