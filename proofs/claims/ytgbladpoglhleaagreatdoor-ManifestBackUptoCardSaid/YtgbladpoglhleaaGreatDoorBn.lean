/- The law ManifestBack: true at every input whose payloads are not longer than 16777216 bytes together. Conditions: that bound, and the program's tables as they are laid. -/
import Derived.Test.YtgbladpoglhleaaGreatDoorBm
import Derived.Test.YtgbladpoglhleaaGreatDoorDc
import Derived.Test.YtgbladpoglhleaaGreatDoorLa
namespace Go.Proofs.YtgbladpoglhleaaGreatDoor
open Go.RowKit
theorem tabs_box {w : World} (T : Tabs w) (o : Obj) : Tabs (w.alloc o) :=
  ⟨var?_alloc T.crc, var?_alloc T.shapes, let ⟨b, off, h⟩ := T.err; ⟨b, off, var?_alloc h⟩⟩
theorem few_lens {m : Man} (h : fewB m = true) : m.Cuts.length ≤ 2000 ∧ m.Shards.length ≤ 2000 ∧ m.Degrees.length ≤ 5000 := by
  simpa [fewB, and_assoc] using h
theorem vI_short {d : Int} (h0 : 0 ≤ d) (h1 : d < 9223372036854775808) : (vI d).length ≤ 9 := by
  have h9 : (128 : Nat) ^ 9 = 9223372036854775808 := by decide
  have hv := vread_vform (x := d.toNat) (by omega) []
  exact (vread_le hv).2.2
theorem rowD_short : ∀ (c : List Int), (∀ d ∈ c, 0 ≤ d ∧ d < 9223372036854775808) → (rowD c).length ≤ 9 * c.length
  | [], _ => by simp [rowD]
  | d :: c, h => by
    have h1 := vI_short (h d List.mem_cons_self).1 (h d List.mem_cons_self).2
    have h2 := rowD_short c fun x hx => h x (List.mem_cons_of_mem _ hx)
    simp only [rowD, List.flatMap_cons, List.length_append, List.length_cons] at h2 ⊢
    omega
theorem dataD_short (ds : List Int) (h : ∀ d ∈ ds, 0 ≤ d ∧ d < 9223372036854775808) : ∀ k, sumL ((List.range k).map fun j => rowD (chD ds j)) ≤ 9 * (ds.take (200 * k)).length
  | 0 => by simp [sumL]
  | k + 1 => by
    have ih := dataD_short ds h k
    have h1 := rowD_short (chD ds k) fun d hd => h d (List.mem_of_mem_drop (List.mem_of_mem_take hd))
    rw [List.range_succ, List.map_append]
    rw [show 200 * (k + 1) = 200 * k + 200 by omega, List.take_add, List.length_append]
    simp only [sumL, List.map_append, List.sum_append, List.map_cons, List.map_nil, List.sum_cons, List.sum_nil] at ih ⊢
    have e : (chD ds k).length = ((ds.drop (200 * k)).take 200).length := rfl
    rw [e] at h1
    omega
theorem dataS_short (m : Man) : ∀ k, sumL ((List.range k).map (rowS m)) ≤ 800 * k
  | 0 => by simp [sumL]
  | k + 1 => by
    have ih := dataS_short m k
    have h1 : (rowS m k).length ≤ 800 := by unfold rowS; rw [segS_len]; omega
    rw [List.range_succ, List.map_append]
    simp only [sumL, List.map_append, List.sum_append, List.map_cons, List.map_nil, List.sum_cons, List.sum_nil] at ih ⊢
    omega
theorem sumL_bulk : ∀ (data : List (List UInt8)), sumL data ≤ (data.map fun b => b.length + 1).sum
  | [] => by simp [sumL]
  | b :: l => by
    have := sumL_bulk l
    simp only [sumL, List.map_cons, List.sum_cons] at this ⊢
    omega
theorem dataM_short {m : Man} (h : mayF m = true) (hd : m.Degrees.length ≤ 5000) : sumL (dataM m) ≤ 100000 := by
  have hk := may_ok h
  have hns := hk.ns
  have h1 := dataS_short m ((m.Shards.length + 49) / 50)
  have h2 := dataD_short m.Degrees (fun d hd => by have := hk.deg d hd; have := hk.n; omega) (cnt m.Degrees.length)
  have h3 : sumL (dataM m) = sumL (dataS m) + sumL (dataD m.Degrees) := by unfold dataM sumL; rw [List.map_append, List.sum_append]
  have h4 : (m.Degrees.take (200 * cnt m.Degrees.length)).length ≤ 5000 := by rw [List.length_take]; omega
  unfold dataS at h3
  unfold dataD at h3
  omega
def backM (head : List UInt8) (data : List (List UInt8)) : Man := (decM head data).getD ⟨0, 0, [], [], []⟩
def backE (head : List UInt8) (data : List (List UInt8)) : Int := if (decM head data).isSome then 0 else 90
theorem own_sl3 {w : World} {B n sz : Nat} {e : TypeId} {v : Value} {xs : List Value} (h : w.ownsRow B e sz v n xs) : ∃ A c, v = .slice A n c := by
  rcases h.2 with ⟨rfl, h0⟩ | ⟨g, cap, cur, rfl, _⟩
  · exact ⟨_, _, by rw [h0]⟩
  · exact ⟨_, _, rfl⟩
theorem DecPost.back {w w' : World} {head : List UInt8} {data : List (List UInt8)} {e : Ending} (h : DecPost w head data e w') :
    ∃ A1 n1 c1 A2 n2 c2 A3 n3 c3, e = .returned (.tuple #[.agg #[.int .i64 (backM head data).Gen, .int .i64 (backM head data).N, .slice A1 n1 c1, .slice A2 n2 c2, .slice A3 n3 c3], .int .i64 (backE head data)]) ∧
      ManV w' (w.heap.size ≤ ·) (.agg #[.int .i64 (backM head data).Gen, .int .i64 (backM head data).N, .slice A1 n1 c1, .slice A2 n2 c2, .slice A3 n3 c3]) (backM head data) ∧ Below w.heap.size w w' := by
  obtain ⟨h1, h2, hb⟩ := h
  unfold backM backE
  cases hd : decM head data with
  | none =>
    refine ⟨none, 0, 0, none, 0, 0, none, 0, 0, h2 hd, ⟨_, _, _, rfl, Sl.nil _ _ _, Sl.nil _ _ _, Sl.nil _ _ _⟩, hb⟩
  | some m =>
    obtain ⟨v, rfl, cv, sv, dv, rfl, o1, o2, o3, _⟩ := h1 m hd
    obtain ⟨A1, c1, rfl⟩ := own_sl3 o1
    obtain ⟨A2, c2, rfl⟩ := own_sl3 o2
    obtain ⟨A3, c3, rfl⟩ := own_sl3 o3
    exact ⟨_, _, _, _, _, _, _, _, _, rfl, ⟨_, _, _, rfl, (own_ints o1).sl, (own_infos o2).sl, (own_ints o3).sl⟩, hb⟩
def manCs (m : Man) (A1 : Option Addr) (n1 c1 : Nat) (A2 : Option Addr) (n2 c2 : Nat) (A3 : Option Addr) (n3 c3 : Nat) : Array Value := #[.int .i64 m.Gen, .int .i64 m.N, .slice A1 n1 c1, .slice A2 n2 c2, .slice A3 n3 c3]
/-- The two boxes of the manifests that came in. -/
structure TwoB (w W : World) (r4 r5 : Array Value) : Prop where
  bel : Below w.heap.size w W
  x4 : W.heap[w.heap.size]? = some (.cells r4 33 (0, 0))
  x5 : W.heap[w.heap.size + 1]? = some (.cells r5 33 (0, 0))
theorem TwoB.step {w W W' : World} {r4 r5 : Array Value} (h : TwoB w W r4 r5) (hb : Below W.heap.size W W') : TwoB w W' r4 r5 :=
  ⟨bthen h.bel h.bel.size hb, bblk hb h.x4, bblk hb h.x5⟩
theorem range5 {w : World} {g : Nat} {t : TypeId} {a b c d e : Value} (h : w.heap[g]? = some (.cells #[a, b, c, d, e] t (0, 0))) : w.rangeAt g 0 [a, b, c, d, e] := by
  obtain ⟨k0, k1, k2, k3, k4⟩ := five h
  intro j v hj
  match j, hj with
  | 0, hj => cases hj; exact k0
  | 1, hj => cases hj; exact k1
  | 2, hj => cases hj; exact k2
  | 3, hj => cases hj; exact k3
  | 4, hj => cases hj; exact k4
  | n + 5, hj => simp at hj
theorem enc_num (m : Man) : ((encF m).2.2 == 0) = mayF m := by
  unfold encF
  cases mayF m <;> rfl
theorem enc_oky {m : Man} (h : mayF m = true) : encF m = (headM m, dataM m, 0) := by
  unfold encF
  rw [if_pos h]
theorem back_enc {m : Man} (h : mayF m = true) : backM (headM m) (dataM m) = m ∧ backE (headM m) (dataM m) = 0 := by
  have e : decM (headM m) (dataM m) = some m := decM_iff.2 ⟨h, rfl, rfl⟩
  unfold backM backE
  rw [e]
  exact ⟨rfl, rfl⟩
set_option maxHeartbeats 8000000 in
set_option maxRecDepth 100000 in
theorem ManifestBack_any {w : World} {ok ok2 ok3 ok4 : Nat → Prop} {mv ov hv dv : Value} {m o : Man} {head : List UInt8} {data : List (List UInt8)} (T : Tabs w) (hx : ManV w ok mv m) (hy : ManV w ok2 ov o) (hh : Sl kbyte w ok3 hv head) (hd : Sl (kslice kbyte) w ok4 dv data) (hs : sumL data ≤ 16777216) :
    Calls Tryz.prog 7 #[mv, ov, hv, dv] w fun e w' => e = .returned (.bool true) ∧ Below w.heap.size w w' := by
  have HX := Aside.mk hx
  have HY := Aside.mk hy
  obtain ⟨Ah, ch, rfl, hch, hmh⟩ := hh.slice
  obtain ⟨Ad, cd, rfl, hcd, hmd⟩ := hd.slice
  have HH : Aside (∀ W, Below w.heap.size w W → Sl kbyte W (· < w.heap.size) (.slice Ah head.length ch) head) := ⟨fun W hW => (hh.bound.move fun k hk => hW.block k hk.2).mono fun _ h => h.2⟩
  have HD : Aside (∀ W, Below w.heap.size w W → Sl (kslice kbyte) W (· < w.heap.size) (.slice Ad data.length cd) data) := ⟨fun W hW => (hd.bound.move fun k hk => hW.block k hk.2).mono fun _ h => h.2⟩
  have HS := Aside.mk hs
  obtain ⟨a, b, c, rfl, h1, h2, h3⟩ := hx
  obtain ⟨Aa, ca, rfl, _⟩ := h1.slice
  obtain ⟨Ab, cb, rfl, _⟩ := h2.slice
  obtain ⟨Ac, cc, rfl, _⟩ := h3.slice
  obtain ⟨a2, b2, c2, rfl, j1, j2, j3⟩ := hy
  obtain ⟨Oa, oa, rfl, _⟩ := j1.slice
  obtain ⟨Ob, ob, rfl, _⟩ := j2.slice
  obtain ⟨Oc, oc, rfl, _⟩ := j3.slice
  clear h1 h2 h3 j1 j2 j3 hh hd hs
  have hT : TwoB w ((w.alloc (.cells #[.int .i64 m.Gen, .int .i64 m.N, .slice Aa m.Cuts.length ca, .slice Ab m.Shards.length cb, .slice Ac m.Degrees.length cc] 33)).alloc (.cells #[.int .i64 o.Gen, .int .i64 o.N, .slice Oa o.Cuts.length oa, .slice Ob o.Shards.length ob, .slice Oc o.Degrees.length oc] 33))
      #[.int .i64 m.Gen, .int .i64 m.N, .slice Aa m.Cuts.length ca, .slice Ab m.Shards.length cb, .slice Ac m.Degrees.length cc] #[.int .i64 o.Gen, .int .i64 o.N, .slice Oa o.Cuts.length oa, .slice Ob o.Shards.length ob, .slice Oc o.Degrees.length oc] :=
    ⟨((Below.refl _ w).alloc (Nat.le_refl _) _).alloc (by simp) _, (heap_alloc_old _ _ (by simp)).trans (heap_alloc_new w _), by simpa using heap_alloc_new (w.alloc (.cells #[.int .i64 m.Gen, .int .i64 m.N, .slice Aa m.Cuts.length ca, .slice Ab m.Shards.length cb, .slice Ac m.Degrees.length cc] 33)) _⟩
  have hfirst := first_any (tabs_box (tabs_box T (.cells #[.int .i64 m.Gen, .int .i64 m.N, .slice Aa m.Cuts.length ca, .slice Ab m.Shards.length cb, .slice Ac m.Degrees.length cc] 33)) (.cells #[.int .i64 o.Gen, .int .i64 o.N, .slice Oa o.Cuts.length oa, .slice Ob o.Shards.length ob, .slice Oc o.Degrees.length oc] 33))
  have HT := Aside.mk hT
  clear T hT
  go_enter Tryz.func7, Tryz.ntmps7
  go_wp2_with fail
  refine hfirst.mono ?_
  rintro e w1 ⟨rfl, B1⟩
  have HT1 := Aside.mk (HT.out.step B1)
  clear B1 hfirst HT
  obtain ⟨k0, k1, k2, k3, k4⟩ := five HT1.out.x4
  have hf1 := few_any (HX.out.below HT1.out.bel)
  cases hq1 : fewB m with
  | false =>
    rw [hq1] at hf1
    go_wp2_with fail
    refine hf1.mono ?_
    rintro e w2 ⟨rfl, B2⟩
    have HT2 := Aside.mk (HT1.out.step B2)
    clear k0 k1 k2 k3 k4
    go_wp2
    go_ret
    exact ⟨rfl, HT2.out.bel⟩
  | true =>
    rw [hq1] at hf1
    obtain ⟨l1, l2, l3⟩ := few_lens hq1
    have HLm := Aside.mk (And.intro l1 (And.intro l2 l3))
    clear hq1 l1 l2 l3
    go_wp2_with fail
    refine hf1.mono ?_
    clear hf1 k0 k1 k2 k3 k4
    rintro e w2 ⟨rfl, B2⟩
    have HT2 := Aside.mk (HT1.out.step B2)
    clear B2 HT1
    obtain ⟨k0, k1, k2, k3, k4⟩ := five HT2.out.x5
    have hf2 := few_any (HY.out.below HT2.out.bel)
    cases hq2 : fewB o with
    | false =>
      rw [hq2] at hf2
      go_wp2_with fail
      refine hf2.mono ?_
      rintro e w3 ⟨rfl, B3⟩
      have HT3 := Aside.mk (HT2.out.step B3)
      clear k0 k1 k2 k3 k4
      go_wp2
      go_ret
      exact ⟨rfl, HT3.out.bel⟩
    | true =>
      rw [hq2] at hf2
      obtain ⟨l1, l2, l3⟩ := few_lens hq2
      have HLo := Aside.mk (And.intro l1 (And.intro l2 l3))
      clear hq2 l1 l2 l3
      go_wp2_with fail
      refine hf2.mono ?_
      clear hf2 k0 k1 k2 k3 k4
      rintro e w3 ⟨rfl, B3⟩
      have HT3 := Aside.mk (HT2.out.step B3)
      clear B3 HT2
      by_cases hl1 : data.length ≤ 2000
      · have g1 : decide ((2000 : Int) < (data.length : Int)) = false := decide_eq_false (by omega)
        have g1' : decide (2000 < data.length) = false := decide_eq_false (by omega)
        obtain ⟨k0, k1, k2, k3, k4⟩ := five HT3.out.x4
        have hcall := pencode_any (HX.out.below HT3.out.bel) (by have := HLm.out; omega) (by have := HLm.out; omega) (by have := HLm.out; omega)
        clear hl1
        go_wp2_with fail
        refine hcall.mono ?_
        clear hcall k0 k1 k2 k3 k4 g1 g1'
        intro e w4 hp
        obtain ⟨hm, dm, rfl, hsm, hdm, B4⟩ := enc_sl hp
        have HT4 := Aside.mk (HT3.out.step B4)
        have HSm := Aside.mk hsm
        have HDm := Aside.mk hdm
        clear hp hsm hdm B4 HT3
        obtain ⟨k0, k1, k2, k3, k4⟩ := five HT4.out.x5
        have hcall := pencode_any (HY.out.below HT4.out.bel) (by have := HLo.out; omega) (by have := HLo.out; omega) (by have := HLo.out; omega)
        go_wp2_with fail
        refine hcall.mono ?_
        clear hcall k0 k1 k2 k3 k4
        intro e w5 hp
        obtain ⟨ho, do_, rfl, hso, hdo, B5⟩ := enc_sl hp
        have HT5 := Aside.mk (HT4.out.step B5)
        have HSm5 := Aside.mk (HSm.out.below B5)
        have HDm5 := Aside.mk (HDm.out.below B5)
        have HSo := Aside.mk hso
        have HDo := Aside.mk hdo
        clear hp hso hdo B5 HT4 HSm HDm
        obtain ⟨en, hen⟩ : ∃ en, en = (encF m).2.2 := ⟨_, rfl⟩
        obtain ⟨fn, hfn⟩ : ∃ fn, fn = (encF o).2.2 := ⟨_, rfl⟩
        rw [← hen, ← hfn]
        obtain ⟨bm, hbm⟩ : ∃ bm, mayF m = bm := ⟨_, rfl⟩
        obtain ⟨bo, hbo⟩ : ∃ bo, mayF o = bo := ⟨_, rfl⟩
        have ea : (en == 0) = bm := by rw [hen, enc_num, hbm]
        have eb : (fn == 0) = bo := by rw [hfn, enc_num, hbo]
        have HBm := Aside.mk hbm
        have HBo := Aside.mk hbo
        have HEa := Aside.mk ea
        have HTd : TwoB w w5.drew _ _ := HT5.out.step (bdrew1 (Below.refl _ _))
        have hc1 := lmay_any (HX.out.below HTd.bel) HLm.out.1 HLm.out.2.1 HLm.out.2.2
        unfold MayPost at hc1
        rw [hbm] at hc1
        have HC2 : Aside (∀ W, Below w.heap.size w W → Calls Tryz.prog 31 #[.agg #[.int .i64 o.Gen, .int .i64 o.N, .slice Oa o.Cuts.length oa, .slice Ob o.Shards.length ob, .slice Oc o.Degrees.length oc]] W fun e w' => e = .returned (.bool bo) ∧ Below W.heap.size W w') := ⟨fun W hW => by
          have := lmay_any (HY.out.below hW) HLo.out.1 HLo.out.2.1 HLo.out.2.2
          unfold MayPost at this
          rw [hbo] at this
          exact this⟩
        have hS0 : w5.drew.rangeAt w.heap.size 0 [.int .i64 m.Gen, .int .i64 m.N, .slice Aa m.Cuts.length ca, .slice Ab m.Shards.length cb, .slice Ac m.Degrees.length cc] ∧ w5.drew.rangeAt (w.heap.size + 1) 0 [.int .i64 o.Gen, .int .i64 o.N, .slice Oa o.Cuts.length oa, .slice Ob o.Shards.length ob, .slice Oc o.Degrees.length oc] := ⟨range5 HTd.x4, range5 HTd.x5⟩
        have HTd := Aside.mk HTd
        clear hbm hbo hen hfn
        go_upto_region 7 with (fail)
        refine wp_region_H (fun w' => w'.rangeAt w.heap.size 0 [.int .i64 m.Gen, .int .i64 m.N, .slice Aa m.Cuts.length ca, .slice Ab m.Shards.length cb, .slice Ac m.Degrees.length cc] ∧ w'.rangeAt (w.heap.size + 1) 0 [.int .i64 o.Gen, .int .i64 o.N, .slice Oa o.Cuts.length oa, .slice Ob o.Shards.length ob, .slice Oc o.Degrees.length oc]) (by kernel_rfl) ?_
        refine wpAnyH_take (i := 0) (oi := ⟨some 57, .move (.tmp 13), _, _, _, _⟩) (v := .int .i64 en) rfl (by kernel_rfl) (by kernel_rfl) (by kernel_rfl) (fun _ _ _ h => h) (Or.inl ⟨by rfl, ?_⟩) hS0 ?_
        · intro w' hSw
          first | (go_simp; done) | (go_simp; rfl) | (go_simp; exact Go.IntWalk.i64_in _ (by omega)) | (go_simp; simp only [*])
        simp only [Act.put, List.setIfInBounds_toArray, List.set_cons_zero, List.set_cons_succ]
        refine wpAnyH_take (i := 3) (oi := ⟨some 60, .load 33 (.tmp 4), _, _, _, _⟩) (v := .agg #[.int .i64 m.Gen, .int .i64 m.N, .slice Aa m.Cuts.length ca, .slice Ab m.Shards.length cb, .slice Ac m.Degrees.length cc]) rfl (by kernel_rfl) (by kernel_rfl) (by kernel_rfl) (fun _ _ _ h => h) (Or.inl ⟨by rfl, ?_⟩) hS0 ?_
        · intro w' hSw
          exact exec_load_mid 33 (.tmp 4) rfl w.heap.size 0 rfl _ _ hSw.1 Tryz.underlying33 rfl (by kernel_rfl)
        simp only [Act.put, List.setIfInBounds_toArray, List.set_cons_zero, List.set_cons_succ]
        refine wpAnyH_one (i := 1) (oi := ⟨some 58, .call { callee := .value (.func 23), args := #[.tmp 57], argTypes := #[36] }, _, _, _, _⟩) rfl (by kernel_rfl) (fun K hK => ?_)
        go_simp
        refine (num_any en).mono ?_
        rintro e w6 ⟨rfl, rfl⟩
        refine hK _ _ ⟨hS0, ?_⟩
        clear hK K
        try simp only [Act.put, List.setIfInBounds_toArray, List.set_cons_zero, List.set_cons_succ]
        refine wpAnyH_take (i := 2) (oi := ⟨some 59, .binOp BinOp.eql 3 (.tmp 58) (.const (.int .i64 0)) 3, _, _, _, _⟩) (v := .bool bm) rfl (by kernel_rfl) (by kernel_rfl) (by kernel_rfl) (fun _ _ _ h => h) (Or.inl ⟨by rfl, ?_⟩) hS0 ?_
        · intro w' hSw
          first | (go_simp; done) | (go_simp; rfl) | (go_simp; exact Go.IntWalk.i64_in _ (by omega)) | (go_simp; simp only [*])
        simp only [Act.put, List.setIfInBounds_toArray, List.set_cons_zero, List.set_cons_succ]
        refine wpAnyH_one (i := 4) (oi := ⟨some 61, .call { callee := .value (.func 31), args := #[.tmp 60], argTypes := #[33] }, _, _, _, _⟩) rfl (by kernel_rfl) (fun K hK => ?_)
        go_simp
        refine hc1.mono ?_
        rintro e w6 ⟨rfl, B6⟩
        have HT6 := Aside.mk (HTd.out.step B6)
        have hS6 : w6.rangeAt w.heap.size 0 [.int .i64 m.Gen, .int .i64 m.N, .slice Aa m.Cuts.length ca, .slice Ab m.Shards.length cb, .slice Ac m.Degrees.length cc] ∧ w6.rangeAt (w.heap.size + 1) 0 [.int .i64 o.Gen, .int .i64 o.N, .slice Oa o.Cuts.length oa, .slice Ob o.Shards.length ob, .slice Oc o.Degrees.length oc] := ⟨range5 HT6.out.x4, range5 HT6.out.x5⟩
        have HB6 := Aside.mk B6
        have hc2 := HC2.out w6 HT6.out.bel
        clear B6 hc1 hS0
        refine hK _ _ ⟨hS6, ?_⟩
        clear hK K
        try simp only [Act.put, List.setIfInBounds_toArray, List.set_cons_zero, List.set_cons_succ]
        refine wpAnyH_take (i := 5) (oi := ⟨some 62, .binOp BinOp.neq 4 (.tmp 59) (.tmp 61) 4, _, _, _, _⟩) (v := .bool false) rfl (by kernel_rfl) (by kernel_rfl) (by kernel_rfl) (fun _ _ _ h => h) (Or.inl ⟨by rfl, ?_⟩) hS6 ?_
        · intro w' hSw
          first | (go_simp; done) | (go_simp; simp)
        simp only [Act.put, List.setIfInBounds_toArray, List.set_cons_zero, List.set_cons_succ]
        refine wpAnyH_take (i := 6) (oi := ⟨some 63, .move (.tmp 62), _, _, _, _⟩) (v := .bool false) rfl (by kernel_rfl) (by kernel_rfl) (by kernel_rfl) (fun _ _ _ h => h) (Or.inl ⟨by rfl, ?_⟩) hS6 ?_
        · intro w' hSw
          first | (go_simp; done) | (go_simp; rfl) | (go_simp; exact Go.IntWalk.i64_in _ (by omega)) | (go_simp; simp only [*])
        simp only [Act.put, List.setIfInBounds_toArray, List.set_cons_zero, List.set_cons_succ]
        refine wpAnyH_take (i := 7) (oi := ⟨some 64, .move (.tmp 16), _, _, _, _⟩) (v := .int .i64 fn) rfl (by kernel_rfl) (by kernel_rfl) (by kernel_rfl) (fun _ _ _ h => h) (Or.inl ⟨by rfl, ?_⟩) hS6 ?_
        · intro w' hSw
          first | (go_simp; done) | (go_simp; rfl) | (go_simp; exact Go.IntWalk.i64_in _ (by omega)) | (go_simp; simp only [*])
        simp only [Act.put, List.setIfInBounds_toArray, List.set_cons_zero, List.set_cons_succ]
        refine wpAnyH_take (i := 10) (oi := ⟨some 67, .load 33 (.tmp 5), _, _, _, _⟩) (v := .agg #[.int .i64 o.Gen, .int .i64 o.N, .slice Oa o.Cuts.length oa, .slice Ob o.Shards.length ob, .slice Oc o.Degrees.length oc]) rfl (by kernel_rfl) (by kernel_rfl) (by kernel_rfl) (fun _ _ _ h => h) (Or.inl ⟨by rfl, ?_⟩) hS6 ?_
        · intro w' hSw
          exact exec_load_mid 33 (.tmp 5) rfl (w.heap.size + 1) 0 rfl _ _ hSw.2 Tryz.underlying33 rfl (by kernel_rfl)
        simp only [Act.put, List.setIfInBounds_toArray, List.set_cons_zero, List.set_cons_succ]
        refine wpAnyH_one (i := 8) (oi := ⟨some 65, .call { callee := .value (.func 23), args := #[.tmp 64], argTypes := #[36] }, _, _, _, _⟩) rfl (by kernel_rfl) (fun K hK => ?_)
        go_simp
        refine (num_any fn).mono ?_
        rintro e w7 ⟨rfl, rfl⟩
        refine hK _ _ ⟨hS6, ?_⟩
        clear hK K
        try simp only [Act.put, List.setIfInBounds_toArray, List.set_cons_zero, List.set_cons_succ]
        refine wpAnyH_take (i := 9) (oi := ⟨some 66, .binOp BinOp.eql 3 (.tmp 65) (.const (.int .i64 0)) 3, _, _, _, _⟩) (v := .bool bo) rfl (by kernel_rfl) (by kernel_rfl) (by kernel_rfl) (fun _ _ _ h => h) (Or.inl ⟨by rfl, ?_⟩) hS6 ?_
        · intro w' hSw
          first | (go_simp; done) | (go_simp; rfl) | (go_simp; exact Go.IntWalk.i64_in _ (by omega)) | (go_simp; simp only [*])
        simp only [Act.put, List.setIfInBounds_toArray, List.set_cons_zero, List.set_cons_succ]
        refine wpAnyH_one (i := 11) (oi := ⟨some 68, .call { callee := .value (.func 31), args := #[.tmp 67], argTypes := #[33] }, _, _, _, _⟩) rfl (by kernel_rfl) (fun K hK => ?_)
        go_simp
        refine hc2.mono ?_
        rintro e w7 ⟨rfl, B7⟩
        have HT7 := Aside.mk (HT6.out.step B7)
        have hS7 : w7.rangeAt w.heap.size 0 [.int .i64 m.Gen, .int .i64 m.N, .slice Aa m.Cuts.length ca, .slice Ab m.Shards.length cb, .slice Ac m.Degrees.length cc] ∧ w7.rangeAt (w.heap.size + 1) 0 [.int .i64 o.Gen, .int .i64 o.N, .slice Oa o.Cuts.length oa, .slice Ob o.Shards.length ob, .slice Oc o.Degrees.length oc] := ⟨range5 HT7.out.x4, range5 HT7.out.x5⟩
        have HB7 := Aside.mk (Below.trans (bdrew1 (Below.refl w5.heap.size w5)) (bthen HB6.out HB6.out.size B7))
        clear B7 hc2 hS6
        refine hK _ _ ⟨hS7, ?_⟩
        clear hK K
        try simp only [Act.put, List.setIfInBounds_toArray, List.set_cons_zero, List.set_cons_succ]
        refine wpAnyH_take (i := 12) (oi := ⟨some 69, .binOp BinOp.neq 4 (.tmp 66) (.tmp 68) 4, _, _, _, _⟩) (v := .bool false) rfl (by kernel_rfl) (by kernel_rfl) (by kernel_rfl) (fun _ _ _ h => h) (Or.inl ⟨by rfl, ?_⟩) hS7 ?_
        · intro w' hSw
          first | (go_simp; done) | (go_simp; simp)
        simp only [Act.put, List.setIfInBounds_toArray, List.set_cons_zero, List.set_cons_succ]
        refine wpAnyH_take (i := 13) (oi := ⟨some 70, .pick (.tmp 63) (.const (.bool true)) (.tmp 69), _, _, _, _⟩) (v := .bool false) rfl (by kernel_rfl) (by kernel_rfl) (by kernel_rfl) (fun _ _ _ h => h) (Or.inl ⟨by rfl, ?_⟩) hS7 ?_
        · intro w' hSw
          first | (go_simp; done) | (go_simp; rfl) | (go_simp; exact Go.IntWalk.i64_in _ (by omega)) | (go_simp; simp only [*])
        simp only [Act.put, List.setIfInBounds_toArray, List.set_cons_zero, List.set_cons_succ]
        refine wpAnyH_done (by kernel_rfl) ?_ _
        have HSm7 := Aside.mk (HSm5.out.below HB7.out)
        have HDm7 := Aside.mk (HDm5.out.below HB7.out)
        have HSo7 := Aside.mk (HSo.out.below HB7.out)
        have HDo7 := Aside.mk (HDo.out.below HB7.out)
        clear hS7 HC2 HT5 HTd HSm5 HDm5 HSo HDo HB6 HB7 HT6
        go_wp2_with fail
        refine (num_any en).mono ?_
        rintro e w8 ⟨rfl, rfl⟩
        go_upto_if 73 with (fail)
        go_cut [] (fun wx => Aside (Below w.heap.size w wx))
        case first =>
          cases bm with
          | false =>
            go_wp2
            go_meet
            case rel => exact ⟨HT7.out.bel⟩
          | true =>
            have hem := enc_oky HBm.out
            obtain ⟨hbk1, hbk2⟩ := back_enc HBm.out
            have hsum : sumL (dataM m) ≤ 100000 := dataM_short HBm.out HLm.out.2.2
            have hsm : Sl kbyte w8 (w3.heap.size ≤ ·) hm (headM m) := by have := HSm7.out; rw [hem] at this; exact this
            have hdm : Sl (kslice kbyte) w8 (w3.heap.size ≤ ·) dm (dataM m) := by have := HDm7.out; rw [hem] at this; exact this
            have hcall := decode_any hsm hdm (by omega)
            have HSm8 := Aside.mk hsm
            have HDm8 := Aside.mk hdm
            have HBk := Aside.mk (And.intro hbk1 hbk2)
            clear hem hbk1 hbk2 hsum hsm hdm HSm7 HDm7
            go_wp2_with fail
            refine hcall.mono ?_
            clear hcall
            intro e w9 hp
            obtain ⟨A1, n1, c1, A2, n2, c2, A3, n3, c3, rfl, hmv, B9⟩ := hp.back
            rw [HBk.out.1] at hmv ⊢
            rw [HBk.out.2]
            have HMv := Aside.mk hmv
            have HT9 := Aside.mk (HT7.out.step B9)
            have ba := (Below.refl w9.heap.size w9).alloc (Nat.le_refl _) (.cells #[.int .i64 m.Gen, .int .i64 m.N, .slice A1 n1 c1, .slice A2 n2 c2, .slice A3 n3 c3] 33)
            have HTA := Aside.mk (HT9.out.step ba)
            have HMA := Aside.mk (HMv.out.below ba)
            obtain ⟨k0, k1, k2, k3, k4⟩ := five HTA.out.x4
            obtain ⟨j0, j1, j2, j3, j4⟩ := five (heap_alloc_new w9 (.cells #[.int .i64 m.Gen, .int .i64 m.N, .slice A1 n1 c1, .slice A2 n2 c2, .slice A3 n3 c3] 33))
            have hcall := SameManifest_any HMA.out (HX.out.below HTA.out.bel)
            rw [eqB_yes rfl] at hcall
            have HSm9 := Aside.mk ((HSm8.out.below B9).below ba)
            have HDm9 := Aside.mk ((HDm8.out.below B9).below ba)
            have HSo9 := Aside.mk ((HSo7.out.below B9).below ba)
            have HDo9 := Aside.mk ((HDo7.out.below B9).below ba)
            clear hp hmv ba B9 HT9 HMv HSm8 HDm8 HSo7 HDo7 HT7 HBk
            go_wp2_with fail
            refine hcall.mono ?_
            clear hcall HMA
            rintro e w10 ⟨rfl, B10⟩
            have HTB := Aside.mk (HTA.out.step B10)
            have HSm10 := Aside.mk (HSm9.out.below B10)
            have HDm10 := Aside.mk (HDm9.out.below B10)
            have HSo10 := Aside.mk (HSo9.out.below B10)
            have HDo10 := Aside.mk (HDo9.out.below B10)
            clear B10 HTA HSm9 HDm9 HSo9 HDo9 k0 k1 k2 k3 k4 j0 j1 j2 j3 j4
            go_wp2_with fail
            refine (num_any 0).mono ?_
            rintro e w11 ⟨rfl, rfl⟩
            obtain ⟨q1, hq1⟩ : ∃ q1, eqB (headM m) (encF o).1 = q1 := ⟨_, rfl⟩
            obtain ⟨q2, hq2⟩ : ∃ q2, eqB (dataM m) (encF o).2.1 = q2 := ⟨_, rfl⟩
            have hs1 := SameBytes_any HSm10.out HSo10.out
            have hs2 := SameByteLists_any HDm10.out HDo10.out
            rw [hq1] at hs1
            rw [hq2] at hs2
            have HQ1 := Aside.mk hq1
            have HQ2 := Aside.mk hq2
            clear hq1 hq2
            go_upto_region 14 with (fail)
            go_cut [20] (fun v20 wx => v20 = .bool (q1 && q2) ∧ Aside (TwoB w wx #[.int .i64 m.Gen, .int .i64 m.N, .slice Aa m.Cuts.length ca, .slice Ab m.Shards.length cb, .slice Ac m.Degrees.length cc] #[.int .i64 o.Gen, .int .i64 o.N, .slice Oa o.Cuts.length oa, .slice Ob o.Shards.length ob, .slice Oc o.Degrees.length oc]))
            case first =>
              go_wp2_with fail
              refine hs1.mono ?_
              rintro e w12 ⟨rfl, rfl⟩
              cases q1 with
              | false =>
                go_wp2
                go_meet
                case rel => exact ⟨rfl, HTB⟩
              | true =>
                go_wp2_with fail
                refine hs2.mono ?_
                rintro e w13 ⟨rfl, S13⟩
                have HTC := Aside.mk (HTB.out.step (S13.below _))
                go_wp2
                go_meet
                case rel => exact ⟨by simp, HTC⟩
            case rest =>
              obtain ⟨rfl, HTC⟩ := hcut
              clear hs1 hs2 HTB HSm10 HDm10 HSo10 HDo10
              obtain ⟨k0, k1, k2, k3, k4⟩ := five HTC.out.x4
              obtain ⟨j0, j1, j2, j3, j4⟩ := five HTC.out.x5
              cases bo with
              | false =>
                go_wp2_with fail
                refine (num_any fn).mono ?_
                rintro e w12 ⟨rfl, rfl⟩
                go_wp2
                go_meet
                case rel => exact ⟨HTC.out.bel⟩
              | true =>
                have hqq : (q1 && q2) = eqB m o := by
                  rw [← HQ1.out, ← HQ2.out, enc_oky HBo.out]
                  rw [Bool.eq_iff_iff]
                  simp only [Bool.and_eq_true, eqB_iff]
                  constructor
                  · rintro ⟨h1, h2⟩
                    exact enc_inj HBm.out HBo.out h1 h2
                  · rintro rfl
                    exact ⟨rfl, rfl⟩
                have hcall := SameManifest_any (HX.out.below HTC.out.bel) (HY.out.below HTC.out.bel)
                rw [hqq]
                generalize eqB m o = zz at *
                clear hqq
                go_wp2_with fail
                refine (num_any fn).mono ?_
                rintro e w12 ⟨rfl, rfl⟩
                go_wp2_with fail
                refine hcall.mono ?_
                rintro e w13 ⟨rfl, B13⟩
                have HTD := Aside.mk (HTC.out.step B13)
                have hzz : (zz != zz) = false := by simp
                go_wp2
                go_meet
                case rel => exact ⟨HTD.out.bel⟩
        case rest =>
          have HBc := hcut
          have hcall := decode_any (HH.out wc HBc.out) (HD.out wc HBc.out) HS.out
          clear hcut HT7 HSm7 HDm7 HSo7 HDo7 HEa ea eb HBm HBo
          go_wp2_with fail
          refine hcall.mono ?_
          clear hcall
          intro e w9 hp
          obtain ⟨A1, n1, c1, A2, n2, c2, A3, n3, c3, rfl, hmv, B9⟩ := hp.back
          have ba := (Below.refl w9.heap.size w9).alloc (Nat.le_refl _) (.cells #[.int .i64 (backM head data).Gen, .int .i64 (backM head data).N, .slice A1 n1 c1, .slice A2 n2 c2, .slice A3 n3 c3] 33)
          have HMA := Aside.mk (hmv.below ba)
          have HBA := Aside.mk (bthen HBc.out HBc.out.size (Below.trans B9 (ba.mono B9.size)))
          obtain ⟨j0, j1, j2, j3, j4⟩ := five (heap_alloc_new w9 (.cells #[.int .i64 (backM head data).Gen, .int .i64 (backM head data).N, .slice A1 n1 c1, .slice A2 n2 c2, .slice A3 n3 c3] 33))
          clear hp hmv B9 ba
          cases hdd : decM head data with
          | none =>
            have hbe : backE head data = 90 := by unfold backE; rw [hdd]; rfl
            have hbm : backM head data = ⟨0, 0, [], [], []⟩ := by unfold backM; rw [hdd]; rfl
            rw [hbm] at HMA HBA j0 j1 j2 j3 j4 ⊢
            rw [hbe]
            clear hdd hbe hbm
            go_wp2_with fail
            refine (num_any 90).mono ?_
            rintro e w11 ⟨rfl, rfl⟩
            go_wp2_with fail
            refine (num_any 90).mono ?_
            rintro e w11 ⟨rfl, rfl⟩
            have hz : ManV (w9.alloc (.cells #[.int .i64 0, .int .i64 0, .slice A1 n1 c1, .slice A2 n2 c2, .slice A3 n3 c3] 33)) (fun _ => True) (.agg #[.int .i64 0, .int .i64 0, .slice none 0 0, .slice none 0 0, .slice none 0 0]) ⟨0, 0, [], [], []⟩ := ⟨_, _, _, rfl, Sl.nil _ _ _, Sl.nil _ _ _, Sl.nil _ _ _⟩
            have hcall := SameManifest_any HMA.out hz
            rw [eqB_yes rfl] at hcall
            go_wp2_with fail
            refine hcall.mono ?_
            rintro e w12 ⟨rfl, B12⟩
            have HBB := Aside.mk (bthen HBA.out HBA.out.size B12)
            go_wp2
            go_ret
            exact ⟨rfl, HBB.out⟩
          | some y =>
            have hbe : backE head data = 0 := by unfold backE; rw [hdd]; rfl
            have hbm : backM head data = y := by unfold backM; rw [hdd]; rfl
            rw [hbm] at HMA HBA j0 j1 j2 j3 j4 ⊢
            rw [hbe]
            have HDd := Aside.mk (decM_iff.1 hdd)
            clear hdd hbe hbm
            have hk := may_ok HDd.out.1
            have HK : Aside (y.Cuts.length ≤ 16777216 ∧ y.Shards.length ≤ 16777216 ∧ y.Degrees.length ≤ 16777216) := ⟨by have := hk.ns; have := hk.nc; have := hk.nd; have := hk.n; omega⟩
            have hcall := pencode_any HMA.out HK.out.1 HK.out.2.1 HK.out.2.2
            clear hk
            go_wp2_with fail
            refine (num_any 0).mono ?_
            rintro e w11 ⟨rfl, rfl⟩
            go_wp2_with fail
            refine hcall.mono ?_
            clear hcall
            intro e w12 hp
            obtain ⟨hp1, dp1, rfl, hsp, hdp, B12⟩ := enc_sl hp
            rw [enc_oky HDd.out.1, HDd.out.2.1] at hsp
            rw [enc_oky HDd.out.1, HDd.out.2.2] at hdp
            rw [enc_oky HDd.out.1]
            have HBB := Aside.mk (bthen HBA.out HBA.out.size B12)
            have HDp := Aside.mk hdp
            have hs1 := SameBytes_any hsp (HH.out w12 HBB.out)
            have hs2 := SameByteLists_any hdp (HD.out w12 HBB.out)
            rw [eqB_yes rfl] at hs1 hs2
            clear hp hsp hdp B12 j0 j1 j2 j3 j4 HBA
            go_wp2_with fail
            refine (num_any 0).mono ?_
            rintro e w13 ⟨rfl, rfl⟩
            go_wp2_with fail
            refine hs1.mono ?_
            rintro e w13 ⟨rfl, rfl⟩
            go_wp2_with fail
            refine hs2.mono ?_
            rintro e w14 ⟨rfl, S14⟩
            have HBC := Aside.mk (bthen HBB.out HBB.out.size (S14.below _))
            go_wp2
            go_ret
            exact ⟨rfl, HBC.out⟩
      · have g1 : decide ((2000 : Int) < (data.length : Int)) = true := decide_eq_true (by omega)
        have g1' : decide (2000 < data.length) = true := decide_eq_true (by omega)
        have g1'' : 2000 < data.length := by omega
        go_wp2
        go_ret
        exact ⟨rfl, HT3.out.bel⟩
end Go.Proofs.YtgbladpoglhleaaGreatDoor
