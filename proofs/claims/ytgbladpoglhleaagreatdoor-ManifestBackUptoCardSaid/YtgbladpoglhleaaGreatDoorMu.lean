/- A lent manifest whose numbers are turned. No condition. -/
import Derived.Test.YtgbladpoglhleaaGreatDoorEs
import Derived.Test.YtgbladpoglhleaaGreatDoorMd
import Derived.Test.YtgbladpoglhleaaGreatDoorFm
import Derived.Shelf.Bytes.SlSmallAll
namespace Go.Proofs.YtgbladpoglhleaaGreatDoor
section
open Go.RowKit
def ManPost (w : World) (m : Man) (e : Ending) (w' : World) : Prop := ∃ v, e = .returned v ∧ ManV w' (w.heap.size ≤ ·) v m ∧ Below w.heap.size w w'
set_option maxHeartbeats 4000000 in
set_option maxRecDepth 100000 in
theorem refMan_any {w : World} {ok : Nat → Prop} {v : Value} {m : Man} (hx : ManV w ok v m) (hl1 : m.Cuts.length ≤ 16777216) (hl2 : m.Shards.length ≤ 16777216) (hl3 : m.Degrees.length ≤ 16777216) : Calls Tryz.prog 24 #[v] w (ManPost w m) := by
  obtain ⟨a, b, c, rfl, h1, h2, h3⟩ := hx
  obtain ⟨Aa, ca, rfl, _⟩ := h1.slice
  obtain ⟨Ab, cb, rfl, _⟩ := h2.slice
  obtain ⟨Ac, cc, rfl, _⟩ := h3.slice
  have H1 := Aside.mk h1
  have H2 := Aside.mk h2
  have H3 := Aside.mk h3
  have HL := Aside.mk (And.intro hl1 (And.intro hl2 hl3))
  clear h1 h2 h3 hl1 hl2 hl3
  have hb1 := ((Below.refl w.heap.size w).alloc (Nat.le_refl _) (.cells #[.int .i64 m.Gen, .int .i64 m.N, .slice Aa m.Cuts.length ca, .slice Ab m.Shards.length cb, .slice Ac m.Degrees.length cc] 33)).alloc (by simp) (.cells #[.int .i64 0, .int .i64 0, .slice none 0 0, .slice none 0 0, .slice none 0 0] 33)
  have hmb : ((w.alloc (.cells #[.int .i64 m.Gen, .int .i64 m.N, .slice Aa m.Cuts.length ca, .slice Ab m.Shards.length cb, .slice Ac m.Degrees.length cc] 33)).alloc (.cells #[.int .i64 0, .int .i64 0, .slice none 0 0, .slice none 0 0, .slice none 0 0] 33)).heap[w.heap.size]? = some (.cells #[.int .i64 m.Gen, .int .i64 m.N, .slice Aa m.Cuts.length ca, .slice Ab m.Shards.length cb, .slice Ac m.Degrees.length cc] 33 (0, 0)) := by
    rw [Below.heap_alloc _ _ _ (by simp)]
    exact heap_alloc_new _ _
  have hrb : ((w.alloc (.cells #[.int .i64 m.Gen, .int .i64 m.N, .slice Aa m.Cuts.length ca, .slice Ab m.Shards.length cb, .slice Ac m.Degrees.length cc] 33)).alloc (.cells #[.int .i64 0, .int .i64 0, .slice none 0 0, .slice none 0 0, .slice none 0 0] 33)).heap[w.heap.size + 1]? = some (.cells #[.int .i64 0, .int .i64 0, .slice none 0 0, .slice none 0 0, .slice none 0 0] 33 (0, 0)) := by
    simpa using heap_alloc_new (w.alloc (.cells #[.int .i64 m.Gen, .int .i64 m.N, .slice Aa m.Cuts.length ca, .slice Ab m.Shards.length cb, .slice Ac m.Degrees.length cc] 33)) (.cells #[.int .i64 0, .int .i64 0, .slice none 0 0, .slice none 0 0, .slice none 0 0] 33)
  go_enter Tryz.func24, Tryz.ntmps24
  go_upto_region 1 with (fail)
  generalize (w.alloc (.cells #[.int .i64 m.Gen, .int .i64 m.N, .slice Aa m.Cuts.length ca, .slice Ab m.Shards.length cb, .slice Ac m.Degrees.length cc] 33)).alloc (.cells #[.int .i64 0, .int .i64 0, .slice none 0 0, .slice none 0 0, .slice none 0 0] 33) = W1 at *
  have HB1 := Aside.mk hb1
  have HMb := Aside.mk hmb
  have HRb := Aside.mk hrb
  have HSof : Aside (∀ W', Below W1.heap.size W1 W' → W'.cell? ⟨w.heap.size, 0, none⟩ = some (.int .i64 m.Gen) ∧ W'.cell? ⟨w.heap.size, 1, none⟩ = some (.int .i64 m.N) ∧ W'.cell? ⟨w.heap.size, 2, none⟩ = some (.slice Aa m.Cuts.length ca) ∧ W'.cell? ⟨w.heap.size, 3, none⟩ = some (.slice Ab m.Shards.length cb) ∧ W'.cell? ⟨w.heap.size, 4, none⟩ = some (.slice Ac m.Degrees.length cc)) := ⟨fun W' hb => five (bblk hb HMb.out)⟩
  have HBd : Aside (Below W1.heap.size W1 W1.drew) := ⟨bdrew1 (Below.refl _ _)⟩
  have hS0 := HSof.out _ HBd.out
  clear hb1 hmb hrb
  refine wp_region_X 14 (fun w' => w'.cell? ⟨w.heap.size, 0, none⟩ = some (.int .i64 m.Gen) ∧ w'.cell? ⟨w.heap.size, 1, none⟩ = some (.int .i64 m.N) ∧ w'.cell? ⟨w.heap.size, 2, none⟩ = some (.slice Aa m.Cuts.length ca) ∧ w'.cell? ⟨w.heap.size, 3, none⟩ = some (.slice Ab m.Shards.length cb) ∧ w'.cell? ⟨w.heap.size, 4, none⟩ = some (.slice Ac m.Degrees.length cc)) (by kernel_rfl) ?_
  refine wpAnyX_take (i := 0) (oi := ⟨some 3, .fieldAddr 33 (.tmp 1) 0, _, _, _, _⟩) (v := .pointer (some ⟨w.heap.size, 0, none⟩)) rfl (by kernel_rfl) (by kernel_rfl) (by kernel_rfl) (by kernel_rfl) (fun _ _ _ h => h) (Or.inl ⟨by rfl, ?_⟩) hS0 ?_
  · intro w' hSw
    first | (go_simp; done) | (go_simp; rfl)
  simp only [Act.put, List.setIfInBounds_toArray, List.set_cons_zero, List.set_cons_succ]
  refine wpAnyX_take (i := 1) (oi := ⟨some 4, .load 3 (.tmp 3), _, _, _, _⟩) (v := .int .i64 m.Gen) rfl (by kernel_rfl) (by kernel_rfl) (by kernel_rfl) (by kernel_rfl) (fun _ _ _ h => h) (Or.inl ⟨by rfl, ?_⟩) hS0 ?_
  · intro w' hSw
    first | (go_simp; done) | (go_simp; rfl)
  simp only [Act.put, List.setIfInBounds_toArray, List.set_cons_zero, List.set_cons_succ]
  refine wpAnyX_take (i := 2) (oi := ⟨some 5, .fieldAddr 33 (.tmp 1) 1, _, _, _, _⟩) (v := .pointer (some ⟨w.heap.size, 1, none⟩)) rfl (by kernel_rfl) (by kernel_rfl) (by kernel_rfl) (by kernel_rfl) (fun _ _ _ h => h) (Or.inl ⟨by rfl, ?_⟩) hS0 ?_
  · intro w' hSw
    first | (go_simp; done) | (go_simp; rfl)
  simp only [Act.put, List.setIfInBounds_toArray, List.set_cons_zero, List.set_cons_succ]
  refine wpAnyX_take (i := 3) (oi := ⟨some 6, .load 3 (.tmp 5), _, _, _, _⟩) (v := .int .i64 m.N) rfl (by kernel_rfl) (by kernel_rfl) (by kernel_rfl) (by kernel_rfl) (fun _ _ _ h => h) (Or.inl ⟨by rfl, ?_⟩) hS0 ?_
  · intro w' hSw
    first | (go_simp; done) | (go_simp; rfl)
  simp only [Act.put, List.setIfInBounds_toArray, List.set_cons_zero, List.set_cons_succ]
  refine wpAnyX_take (i := 4) (oi := ⟨some 7, .fieldAddr 33 (.tmp 1) 2, _, _, _, _⟩) (v := .pointer (some ⟨w.heap.size, 2, none⟩)) rfl (by kernel_rfl) (by kernel_rfl) (by kernel_rfl) (by kernel_rfl) (fun _ _ _ h => h) (Or.inl ⟨by rfl, ?_⟩) hS0 ?_
  · intro w' hSw
    first | (go_simp; done) | (go_simp; rfl)
  simp only [Act.put, List.setIfInBounds_toArray, List.set_cons_zero, List.set_cons_succ]
  refine wpAnyX_take (i := 5) (oi := ⟨some 8, .load 30 (.tmp 7), _, _, _, _⟩) (v := .slice Aa m.Cuts.length ca) rfl (by kernel_rfl) (by kernel_rfl) (by kernel_rfl) (by kernel_rfl) (fun _ _ _ h => h) (Or.inl ⟨by rfl, ?_⟩) hS0 ?_
  · intro w' hSw
    first | (go_simp; done) | (go_simp; rfl)
  simp only [Act.put, List.setIfInBounds_toArray, List.set_cons_zero, List.set_cons_succ]
  refine wpAnyX_take (i := 7) (oi := ⟨some 10, .fieldAddr 33 (.tmp 1) 3, _, _, _, _⟩) (v := .pointer (some ⟨w.heap.size, 3, none⟩)) rfl (by kernel_rfl) (by kernel_rfl) (by kernel_rfl) (by kernel_rfl) (fun _ _ _ h => h) (Or.inl ⟨by rfl, ?_⟩) hS0 ?_
  · intro w' hSw
    first | (go_simp; done) | (go_simp; rfl)
  simp only [Act.put, List.setIfInBounds_toArray, List.set_cons_zero, List.set_cons_succ]
  refine wpAnyX_take (i := 8) (oi := ⟨some 11, .load 31 (.tmp 10), _, _, _, _⟩) (v := .slice Ab m.Shards.length cb) rfl (by kernel_rfl) (by kernel_rfl) (by kernel_rfl) (by kernel_rfl) (fun _ _ _ h => h) (Or.inl ⟨by rfl, ?_⟩) hS0 ?_
  · intro w' hSw
    first | (go_simp; done) | (go_simp; rfl)
  simp only [Act.put, List.setIfInBounds_toArray, List.set_cons_zero, List.set_cons_succ]
  refine wpAnyX_take (i := 10) (oi := ⟨some 13, .fieldAddr 33 (.tmp 1) 4, _, _, _, _⟩) (v := .pointer (some ⟨w.heap.size, 4, none⟩)) rfl (by kernel_rfl) (by kernel_rfl) (by kernel_rfl) (by kernel_rfl) (fun _ _ _ h => h) (Or.inl ⟨by rfl, ?_⟩) hS0 ?_
  · intro w' hSw
    first | (go_simp; done) | (go_simp; rfl)
  simp only [Act.put, List.setIfInBounds_toArray, List.set_cons_zero, List.set_cons_succ]
  refine wpAnyX_take (i := 11) (oi := ⟨some 14, .load 30 (.tmp 13), _, _, _, _⟩) (v := .slice Ac m.Degrees.length cc) rfl (by kernel_rfl) (by kernel_rfl) (by kernel_rfl) (by kernel_rfl) (fun _ _ _ h => h) (Or.inl ⟨by rfl, ?_⟩) hS0 ?_
  · intro w' hSw
    first | (go_simp; done) | (go_simp; rfl)
  simp only [Act.put, List.setIfInBounds_toArray, List.set_cons_zero, List.set_cons_succ]
  refine wpAnyX_one (i := 6) (oi := ⟨some 9, .call { callee := .value (.func 47), args := #[.tmp 8], argTypes := #[30] }, _, _, _, _⟩) rfl (by kernel_rfl) (fun K hK => ?_)
  go_simp
  refine (Ints_any (H1.out.below (bthen HB1.out HB1.out.size HBd.out)) HL.out.1).mono ?_
  rintro e w3 ⟨v1, rfl, ho, hb⟩
  have HO1 := Aside.mk ho
  have HB3 := Aside.mk (HBd.out.trans hb)
  obtain ⟨A1, n1, c1, rfl⟩ := own_slice HO1.out
  have hS3 := HSof.out _ HB3.out
  clear ho hb
  refine hK _ _ ⟨.inr hS3, ?_⟩
  clear hK K
  try simp only [Act.put, List.setIfInBounds_toArray, List.set_cons_zero, List.set_cons_succ]
  refine wpAnyX_one (i := 9) (oi := ⟨some 12, .call { callee := .value (.func 48), args := #[.tmp 11], argTypes := #[31] }, _, _, _, _⟩) rfl (by kernel_rfl) (fun K hK => ?_)
  go_simp
  refine (Infos_any (H2.out.below (bthen HB1.out HB1.out.size HB3.out)) HL.out.2.1).mono ?_
  rintro e w4 ⟨v2, rfl, ho, hb⟩
  have HO2 := Aside.mk ho
  have HB4 := Aside.mk (bthen HB3.out HB3.out.size hb)
  have HX4 : Aside (∀ q, q < w3.heap.size → w4.heap[q]? = w3.heap[q]?) := ⟨fun q hq => hb.block q hq⟩
  obtain ⟨A2, n2, c2, rfl⟩ := own_slice HO2.out
  have hS4 := HSof.out _ HB4.out
  have HX2 : Aside (w3.heap.size ≤ w4.heap.size ∧ W1.heap.size ≤ w3.heap.size) := ⟨hb.size, HB3.out.size⟩
  clear ho hb
  refine hK _ _ ⟨.inr hS4, ?_⟩
  clear hK K
  try simp only [Act.put, List.setIfInBounds_toArray, List.set_cons_zero, List.set_cons_succ]
  refine wpAnyX_one (i := 12) (oi := ⟨some 15, .call { callee := .value (.func 47), args := #[.tmp 14], argTypes := #[30] }, _, _, _, _⟩) rfl (by kernel_rfl) (fun K hK => ?_)
  go_simp
  refine (Ints_any (H3.out.below (bthen HB1.out HB1.out.size HB4.out)) HL.out.2.2).mono ?_
  rintro e w5 ⟨v3, rfl, ho, hb⟩
  have HO3 := Aside.mk ho
  have HB5 := Aside.mk (bthen HB4.out HB4.out.size hb)
  have HQ1 : Aside (w5.ownsRow W1.heap.size 3 1 (.slice A1 n1 c1) m.Cuts.length (ints m.Cuts)) := ⟨ownsRow_move (ownsRow_move HO1.out fun q e => (show w4.heap[q]? = w3.heap[q]? from HX4.out q (HO1.out.lt q e).2)) fun q e => hb.block q (Nat.lt_of_lt_of_le (HO1.out.lt q e).2 HX2.out.1)⟩
  have HQ2 : Aside (w5.ownsRow W1.heap.size 54 3 (.slice A2 n2 c2) m.Shards.length (infoCells m.Shards)) := ⟨own_low (ownsRow_move HO2.out fun q e => hb.block q (HO2.out.lt q e).2) HX2.out.2⟩
  have HQ3 : Aside (w5.ownsRow W1.heap.size 3 1 v3 m.Degrees.length (ints m.Degrees)) := ⟨own_low HO3.out (Nat.le_trans HX2.out.2 HX2.out.1)⟩
  obtain ⟨A3, n3, c3, rfl⟩ := own_slice HQ3.out
  have hS5 := HSof.out _ HB5.out
  clear ho hb
  refine hK _ _ ⟨.inr hS5, ?_⟩
  clear hK K
  try simp only [Act.put, List.setIfInBounds_toArray, List.set_cons_zero, List.set_cons_succ]
  refine wpAnyX_one (i := 13) (oi := ⟨some 16, .build 33 #[(0, .tmp 4), (1, .tmp 6), (2, .tmp 9), (3, .tmp 12), (4, .tmp 15)], _, _, _, _⟩) rfl (by kernel_rfl) (fun K hK => ?_)
  go_simp
  refine hK _ _ ⟨.inr hS5, ?_⟩
  clear hK K
  try simp only [Act.put, List.setIfInBounds_toArray, List.set_cons_zero, List.set_cons_succ]
  have hrb5 := bblk HB5.out HRb.out
  obtain ⟨r0, f0, _⟩ := store_at hrb5 0 (show 0 < 5 by decide)
  obtain ⟨r1, f1, _⟩ := store_at hrb5 1 (show 1 < 5 by decide)
  obtain ⟨r2, f2, _⟩ := store_at hrb5 2 (show 2 < 5 by decide)
  obtain ⟨r3, f3, _⟩ := store_at hrb5 3 (show 3 < 5 by decide)
  obtain ⟨r4, f4, _⟩ := store_at hrb5 4 (show 4 < 5 by decide)
  have HRes := Aside.mk (st5_row (a := .int .i64 m.Gen) (b := .int .i64 m.N) (c := .slice A1 n1 c1) (d := .slice A2 n2 c2) (e := .slice A3 n3 c3) hrb5)
  have HW1 : Aside (w.heap.size + 2 ≤ W1.heap.size) := ⟨by have := blk_lt HRb.out; omega⟩
  have HP : Aside (ManPost w m (.returned (.agg #[.int .i64 m.Gen, .int .i64 m.N, .slice A1 n1 c1, .slice A2 n2 c2, .slice A3 n3 c3])) (st5 w5 (w.heap.size + 1) (.int .i64 m.Gen) (.int .i64 m.N) (.slice A1 n1 c1) (.slice A2 n2 c2) (.slice A3 n3 c3))) :=
    ⟨_, rfl, ⟨_, _, _, rfl,
      ((own_ints (ownsRow_move HQ1.out fun q e => st5_heap (by have := (HQ1.out.lt q e).1; have := HW1.out; omega))).sl).mono fun k hk => Nat.le_trans (by have := HW1.out; omega) hk,
      ((own_infos (ownsRow_move HQ2.out fun q e => st5_heap (by have := (HQ2.out.lt q e).1; have := HW1.out; omega))).sl).mono fun k hk => Nat.le_trans (by have := HW1.out; omega) hk,
      ((own_ints (ownsRow_move HQ3.out fun q e => st5_heap (by have := (HQ3.out.lt q e).1; have := HW1.out; omega))).sl).mono fun k hk => Nat.le_trans (by have := HW1.out; omega) hk⟩, by
        have := bthen HB1.out HB1.out.size HB5.out
        exact ((((this.setCell (Nat.le_succ _) _).setCell (Nat.le_succ _) _).setCell (Nat.le_succ _) _).setCell (Nat.le_succ _) _).setCell (Nat.le_succ _) _⟩
  refine wpAnyX_one (i := 14) (oi := ⟨none, .store 33 (.tmp 2) (.tmp 16), _, _, _, _⟩) rfl (by kernel_rfl) (fun K hK => ?_)
  go_simp
  refine hK _ _ ⟨.inl rfl, ?_⟩
  clear hK K
  refine wpAnyX_done (by kernel_rfl) ?_ _
  go_wp2
  exact bodyPost_ret (results_cell_row rfl _ _ _ _ _ _ _ (by rfl) HRes.out Tryz.underlying33 rfl (by kernel_rfl)) rfl HP.out
end
section
open Go.RowKit Go.Shelf
def bnums (xs : List UInt8) : List Int := xs.map fun b => (b.toNat : Int)
theorem strOf_bnums (xs : List UInt8) : strOfNums (bnums xs) = ⟨xs.toArray⟩ := by
  unfold strOfNums bnums
  rw [List.map_map]
  have e : (xs.map ((fun n : Int => UInt8.ofNat n.toNat) ∘ fun b : UInt8 => (b.toNat : Int))) = xs := by
    conv => rhs; rw [← List.map_id xs]
    refine List.map_congr_left fun b _ => ?_
    simp
  rw [e]
theorem bytesIn {w : World} {ok : Nat → Prop} {A : Option Addr} {n c : Nat} {xs : List UInt8} (h : Sl kbyte w ok (.slice A n c) xs) : Lib.BytesIn w A n (bnums xs) := by
  intro hn
  obtain ⟨A', c', e, h1, h2, h3⟩ := h
  cases e
  obtain ⟨b, o, e, h4, h5, h6⟩ := h3 hn
  refine ⟨b, o, e, fun i hi => ?_⟩
  obtain ⟨cs, rfl, q⟩ := h6 i xs[i] (List.getElem?_eq_getElem hi)
  have := q 0 _ rfl
  simp only [kbyte, flat, Nat.mul_one, Nat.add_zero] at this
  rw [this]
  simp [bnums, List.getD_eq_getElem?_getD, hi]
theorem conv_bytes {w : World} {ok : Nat → Prop} {A : Option Addr} {n c : Nat} {xs : List UInt8} (h : Sl kbyte w ok (.slice A n c) xs) : (convert 44 9 (.slice A n c)).run Tryz.prog w = .ok (.string ⟨xs.toArray⟩) w := by
  have hb := bytesIn h
  obtain ⟨A', c', e, _⟩ := h
  cases e
  have e2 := strOf_bnums xs
  have hlen : (bnums xs).length = xs.length := by simp [bnums]
  rw [← e2]
  rcases Nat.eq_zero_or_pos xs.length with hn | hn
  · obtain rfl := List.eq_nil_of_length_eq_zero hn
    exact run_convert_bytes_zero w _ _ Tryz.underlying44 Tryz.underlying5 A c _ Tryz.underlying9
  · obtain ⟨b, o, rfl, hc⟩ := hb.at hn
    exact run_convert_bytes_arg (P := Tryz.prog) w _ _ Tryz.underlying44 Tryz.underlying5 b o _ c (bnums xs) hlen hc _ Tryz.underlying9
theorem bytes_same {xs ys : List UInt8} : (xs == ys) = eqB xs ys := by
  by_cases h : xs = ys
  · subst h; rw [eqB_yes rfl]; exact beq_self_eq_true _
  · rw [eqB_no h]
    exact beq_eq_false_iff_ne.2 h
set_option maxHeartbeats 400000 in
set_option maxRecDepth 100000 in
theorem SameBytes_any {w : World} {ok ok2 : Nat → Prop} {v v2 : Value} {xs ys : List UInt8} (hx : Sl kbyte w ok v xs) (hy : Sl kbyte w ok2 v2 ys) :
    Calls Tryz.prog 27 #[v, v2] w fun e w' => e = .returned (.bool (eqB xs ys)) ∧ w' = w := by
  obtain ⟨A, c, rfl, hc, hm⟩ := hx.slice
  obtain ⟨A2, c2, rfl, hc2, hm2⟩ := hy.slice
  have h1 := conv_bytes hx
  have h2 := conv_bytes hy
  clear hx hy
  go_enter Tryz.func27, Tryz.ntmps27
  go_wp2
  go_ret
  exact ⟨retb bytes_same.symm, rfl⟩
set_option maxHeartbeats 400000 in
set_option maxRecDepth 100000 in
theorem SameByteLists_any {w : World} {ok ok2 : Nat → Prop} {v v2 : Value} {xs ys : List (List UInt8)} (hx : Sl (kslice kbyte) w ok v xs) (hy : Sl (kslice kbyte) w ok2 v2 ys) :
    Calls Tryz.prog 28 #[v, v2] w fun e w' => e = .returned (.bool (eqB xs ys)) ∧ Same w w' := by
  obtain ⟨A, c, rfl, hc, hm⟩ := hx.slice
  obtain ⟨A2, c2, rfl, hc2, hm2⟩ := hy.slice
  have Hx := Aside.mk hx
  have Hy := Aside.mk hy
  clear hx hy
  by_cases hl : xs.length = ys.length
  · obtain ⟨hl1, hl2, hl3, _⟩ := natEq hl
    have HL := Aside.mk hl
    clear hl
    go_enter Tryz.func28, Tryz.ntmps28
    go_wp2
    go_loopg [5, 6] xs.length (fun kq i v6 wr => ∃ k : Nat, Aside (k + kq = xs.length) ∧ i = .int .i64 k ∧ Aside (∀ j, (hj : j < k) → (h1 : j < xs.length) → (h2 : j < ys.length) → xs[j] = ys[j]) ∧ Same w wr)
    case atStart => exact ⟨0, ⟨by omega⟩, rfl, ⟨fun j hj => absurd hj (Nat.not_lt_zero _)⟩, Same.refl _⟩
    case round =>
      obtain ⟨k, HK, rfl, HR, ⟨⟨m, rfl⟩⟩⟩ := hrel
      by_cases hlt : k < xs.length
      · have hlt2 : k < ys.length := by have := HL.out; omega
        obtain ⟨b, o, q1, e, h1, s1⟩ := Hx.out.row k hlt
        cases e
        obtain ⟨b2, o2, q2, e, h2, s2⟩ := Hy.out.row k hlt2
        cases e
        have HCon : Aside (∀ n, Calls Tryz.prog 27 #[q1, q2] (w.drewN n) fun e w' => e = .returned (.bool (eqB xs[k] ys[k])) ∧ w' = w.drewN n) := ⟨fun n => SameBytes_any (s1.move fun _ _ => rfl) (s2.move fun _ _ => rfl)⟩
        have HM : Aside (xs.length - (k + 1) < gk) := ⟨by have := HK.out; omega⟩
        obtain ⟨A3, c3, rfl, _⟩ := s1.slice
        obtain ⟨A4, c4, rfl, _⟩ := s2.slice
        clear s1 s2
        obtain ⟨bb, hbb⟩ : ∃ bb, bb = eqB xs[k] ys[k] := ⟨_, rfl⟩
        have HBB := Aside.mk hbb
        rw [← hbb] at HCon
        clear hbb
        go_wp2
        go_quiet (first | (go_at_call 27; go_must (refine (HCon.out _).mono ?_; rintro e w9 ⟨h1, h2⟩; exact ⟨h1, _, h2⟩)))
        cases bb with
        | true =>
          have HE : Aside (xs[k] = ys[k]) := ⟨eqB_iff.1 HBB.out.symm⟩
          go_wp2
          go_roundg (xs.length - (k + 1))
          case measure => exact HM.out
          case rel =>
            refine ⟨k + 1, ⟨by omega⟩, by go_num, ⟨fun j hj h3 h4 => ?_⟩, ?_⟩
            · rcases Nat.lt_or_ge j k with h5 | h5
              · exact HR.out j h5 h3 h4
              · obtain rfl : j = k := by omega
                exact HE.out
            · first | exact Same.refl _ | exact ⟨⟨_, rfl⟩⟩ | exact ((Same.refl _).step _).step _
        | false =>
          have HE : Aside (xs[k] ≠ ys[k]) := ⟨fun e => by have := HBB.out; rw [eqB_yes e] at this; cases this⟩
          go_wp2
          go_ret
          exact ⟨retb (eqB_no (fun e => by subst e; exact HE.out rfl)), by first | exact Same.refl _ | exact ⟨⟨_, rfl⟩⟩ | exact ((Same.refl _).step _).step _⟩
      · replace hlt : xs.length ≤ k := by omega
        go_wp2
        go_ret
        refine ⟨retb (eqB_yes (eq_of_getElem HL.out fun j hj => HR.out j (by omega) hj (by have := HL.out; omega))), by first | exact Same.refl _ | exact ⟨⟨_, rfl⟩⟩ | exact ((Same.refl _).step _).step _⟩
  · obtain ⟨hl1, hl2, hl3, _⟩ := natNe hl
    have HL := Aside.mk hl
    go_enter Tryz.func28, Tryz.ntmps28
    go_wp2
    go_ret
    exact ⟨retb (eqB_no (fun e => HL.out (congrArg List.length e))), Same.refl _⟩
end
section
open Go.RowKit
theorem LRw.set {w : World} {lo hi : Nat} {e : TypeId} {sz n g c j : Nat} {cells : List Value} (u : Value) (h : LRw w lo hi e sz (.slice (some ⟨g, 0, none⟩) n c) n cells) :
    lo ≤ g ∧ g < hi ∧ w.frozen? ⟨g, j, none⟩ = false ∧ (∀ v, cells[j]? = some v → w.cell? ⟨g, j, none⟩ = some v) ∧ LRw (w.setCell ⟨g, j, none⟩ u) lo hi e sz (.slice (some ⟨g, 0, none⟩) n c) n (cells.set j u) := by
  obtain ⟨g', cap, e', h1, h2, h3⟩ := h
  cases e'
  have hc := h3.cells (g := g) rfl
  rcases h3.2 with ⟨h, _⟩ | ⟨g', cap', cur, e', a1, a2, a3, a4, a5, a6⟩
  · cases h
  · cases e'
    refine ⟨h1, h2, by simp [World.frozen?, a2], fun v hv => ?_, ⟨g, c, rfl, h1, h2, ⟨by simp [h3.1], .inr ⟨g, c, cur.setIfInBounds j u, rfl, a1, Lib.heap_setCell_same a2 u, a3, a4, by simpa using a5, ?_⟩⟩⟩⟩
    · have := hc j v hv
      rw [addr_add] at this
      simpa using this
    · rw [Array.toList_setIfInBounds, List.take_set, a6]
theorem ints_set {xs t : List Value} {ys : List Int} {j : Nat} (y : Int) (hx : xs = ints ys) (hj : j < ys.length) : (xs ++ t).set j (.int .i64 y) = ints (ys.set j y) ++ t := by
  subst hx
  rw [List.set_append_left _ _ (by rw [ints_length]; exact hj)]
  simp [ints, List.map_set]
theorem infoCells_set {ys : List Info} {j : Nat} (y : Int) (hj : j < ys.length) : (infoCells ys).set (j * 3) (.int .i64 y) = infoCells (ys.set j { ys[j] with Size := y }) := by
  induction ys generalizing j with
  | nil => simp at hj
  | cons x ys ih =>
    cases j with
    | zero => simp [infoCells, infoRow]
    | succ j =>
      have hj' : j < ys.length := by simpa using hj
      have := ih hj'
      unfold infoCells at *
      simp only [List.flatMap_cons, List.set_cons_succ, List.getElem_cons_succ]
      rw [← this, show (j + 1) * 3 = (infoRow x).length + j * 3 by simp [infoRow]; omega]
      rw [List.set_append_right _ _ (by omega)]
      simp
structure LE (w : World) (C lo hi g1 c1 g2 c2 g3 c3 : Nat) (m : Man) (W : World) : Prop where
  bel : Below w.heap.size w W
  ql : w.heap.size ≤ lo
  qh : hi ≤ C
  cb : W.heap[C]? = some (.cells #[.int .i64 m.Gen, .int .i64 m.N, .slice (some ⟨g1, 0, none⟩) m.Cuts.length c1, .slice (some ⟨g2, 0, none⟩) m.Shards.length c2, .slice (some ⟨g3, 0, none⟩) m.Degrees.length c3] 33 (0, 0))
  lent : LentV W lo hi (.agg #[.int .i64 m.Gen, .int .i64 m.N, .slice (some ⟨g1, 0, none⟩) m.Cuts.length c1, .slice (some ⟨g2, 0, none⟩) m.Shards.length c2, .slice (some ⟨g3, 0, none⟩) m.Degrees.length c3]) m
  l1 : m.Cuts.length ≤ 2000
  l2 : m.Shards.length ≤ 2000
  l3 : m.Degrees.length ≤ 5000
section
variable {w W W' : World} {C lo hi g1 c1 g2 c2 g3 c3 : Nat} {m : Man}
theorem LE.below (h : LE w C lo hi g1 c1 g2 c2 g3 c3 m W) (hb : Below W.heap.size W W') : LE w C lo hi g1 c1 g2 c2 g3 c3 m W' :=
  ⟨bthen h.bel h.bel.size hb, h.ql, h.qh, bblk hb h.cb, h.lent.keep fun k _ hk => hb.block k (by have := blk_lt h.cb; have := h.qh; omega), h.l1, h.l2, h.l3⟩
theorem LE.man (h : LE w C lo hi g1 c1 g2 c2 g3 c3 m W) : ManV W (fun q => lo ≤ q ∧ q < hi) (.agg #[.int .i64 m.Gen, .int .i64 m.N, .slice (some ⟨g1, 0, none⟩) m.Cuts.length c1, .slice (some ⟨g2, 0, none⟩) m.Shards.length c2, .slice (some ⟨g3, 0, none⟩) m.Degrees.length c3]) m := h.lent.man
theorem LE.cut (h : LE w C lo hi g1 c1 g2 c2 g3 c3 m W) {j : Nat} (hj : j < m.Cuts.length) (y : Int) :
    W.cell? ⟨g1, j, none⟩ = some (.int .i64 m.Cuts[j]) ∧ W.frozen? ⟨g1, j, none⟩ = false ∧ LE w C lo hi g1 c1 g2 c2 g3 c3 { m with Cuts := m.Cuts.set j y } (W.setCell ⟨g1, j, none⟩ (.int .i64 y)) := by
  have hlo := h.ql
  have hhi := h.qh
  have hl := h.lent
  obtain ⟨v1, v2, v3, s1, s2, e, q0, q1, q2, r1, r2, r3⟩ := hl
  simp only [Value.agg.injEq, Array.mk.injEq, List.cons.injEq, true_and, and_true] at e
  obtain ⟨rfl, rfl, rfl⟩ := e
  obtain ⟨b1, b2, b3, b4, b5⟩ := r1.set (j := j) (.int .i64 y)
  rw [ints_set y rfl hj] at b5
  have hfar : ∀ k, k ≠ g1 → (W.setCell ⟨g1, j, none⟩ (.int .i64 y)).heap[k]? = W.heap[k]? := fun k hk => Below.heap_setCell _ _ _ _ hk
  refine ⟨b4 _ (by rw [List.getElem?_append_left (by rw [ints_length]; exact hj)]; simp [ints, hj]), b3, ⟨h.bel.setCell (by show w.heap.size ≤ g1; omega) _, hlo, hhi, ?_, ⟨_, _, _, s1, s2, rfl, q0, q1, q2, ?_, r2.keep fun k a b => hfar k (by omega), r3.keep fun k a b => hfar k (by omega)⟩, by simpa using h.l1, h.l2, h.l3⟩⟩
  · rw [hfar C (by omega)]
    simpa using h.cb
  · simpa using b5
theorem LE.deg (h : LE w C lo hi g1 c1 g2 c2 g3 c3 m W) {j : Nat} (hj : j < m.Degrees.length) (y : Int) :
    W.cell? ⟨g3, j, none⟩ = some (.int .i64 m.Degrees[j]) ∧ W.frozen? ⟨g3, j, none⟩ = false ∧ LE w C lo hi g1 c1 g2 c2 g3 c3 { m with Degrees := m.Degrees.set j y } (W.setCell ⟨g3, j, none⟩ (.int .i64 y)) := by
  have hlo := h.ql
  have hhi := h.qh
  have hl := h.lent
  obtain ⟨v1, v2, v3, s1, s2, e, q0, q1, q2, r1, r2, r3⟩ := hl
  simp only [Value.agg.injEq, Array.mk.injEq, List.cons.injEq, true_and, and_true] at e
  obtain ⟨rfl, rfl, rfl⟩ := e
  obtain ⟨b1, b2, b3, b4, b5⟩ := r3.set (j := j) (.int .i64 y)
  rw [ints_set y rfl hj] at b5
  have hfar : ∀ k, k ≠ g3 → (W.setCell ⟨g3, j, none⟩ (.int .i64 y)).heap[k]? = W.heap[k]? := fun k hk => Below.heap_setCell _ _ _ _ hk
  refine ⟨b4 _ (by rw [List.getElem?_append_left (by rw [ints_length]; exact hj)]; simp [ints, hj]), b3, ⟨h.bel.setCell (by show w.heap.size ≤ g3; omega) _, hlo, hhi, ?_, ⟨_, _, _, s1, s2, rfl, q0, q1, q2, r1.keep fun k a b => hfar k (by omega), r2.keep fun k a b => hfar k (by omega), ?_⟩, h.l1, h.l2, by simpa using h.l3⟩⟩
  · rw [hfar C (by omega)]
    simpa using h.cb
  · simpa using b5
theorem LE.shard (h : LE w C lo hi g1 c1 g2 c2 g3 c3 m W) {j : Nat} (hj : j < m.Shards.length) (y : Int) :
    W.cell? ⟨g2, j * 3, none⟩ = some (.int .i64 m.Shards[j].Size) ∧ W.frozen? ⟨g2, j * 3, none⟩ = false ∧ LE w C lo hi g1 c1 g2 c2 g3 c3 { m with Shards := m.Shards.set j { m.Shards[j] with Size := y } } (W.setCell ⟨g2, j * 3, none⟩ (.int .i64 y)) := by
  have hlo := h.ql
  have hhi := h.qh
  have hl := h.lent
  obtain ⟨v1, v2, v3, s1, s2, e, q0, q1, q2, r1, r2, r3⟩ := hl
  simp only [Value.agg.injEq, Array.mk.injEq, List.cons.injEq, true_and, and_true] at e
  obtain ⟨rfl, rfl, rfl⟩ := e
  obtain ⟨b1, b2, b3, b4, b5⟩ := r2.set (j := j * 3) (.int .i64 y)
  rw [List.set_append_left _ _ (by rw [infoCells_length]; omega), infoCells_set y hj] at b5
  have hfar : ∀ k, k ≠ g2 → (W.setCell ⟨g2, j * 3, none⟩ (.int .i64 y)).heap[k]? = W.heap[k]? := fun k hk => Below.heap_setCell _ _ _ _ hk
  refine ⟨b4 _ ?_, b3, ⟨h.bel.setCell (by show w.heap.size ≤ g2; omega) _, hlo, hhi, ?_, ⟨_, _, _, s1, s2, rfl, q0, q1, q2, r1.keep fun k a b => hfar k (by omega), ?_, r3.keep fun k a b => hfar k (by omega)⟩, h.l1, by simpa using h.l2, h.l3⟩⟩
  · rw [List.getElem?_append_left (by rw [infoCells_length]; omega)]
    have := infoCells_get (xs := m.Shards) (i := j) (j := 0) (x := m.Shards[j]) (List.getElem?_eq_getElem hj) (by omega)
    simpa [infoRow] using this
  · rw [hfar C (by omega)]
    simpa using h.cb
  · simpa using b5
end
/-- What Encode answers, as one answer. -/
def encF (m : Man) : List UInt8 × List (List UInt8) × Int := if mayF m then (headM m, dataM m, 0) else ([], [], 142)
theorem enc_sl {w w' : World} {m : Man} {e : Ending} (h : EncPost w m e w') : ∃ hv dv, e = .returned (.tuple #[hv, dv, .int .i64 (encF m).2.2]) ∧ Sl kbyte w' (w.heap.size ≤ ·) hv (encF m).1 ∧ Sl (kslice kbyte) w' (w.heap.size ≤ ·) dv (encF m).2.1 ∧ Below w.heap.size w w' := by
  obtain ⟨h1, h2, h3⟩ := h
  unfold encF
  cases hm : mayF m with
  | true =>
    obtain ⟨hv, dv, vs, rfl, a, b⟩ := h1 hm
    exact ⟨hv, dv, rfl, (own_u8s a).sl, b.sl, h3⟩
  | false =>
    refine ⟨_, _, h2 hm, (own_u8s (xs := []) (World.ownsRow_nil w' w.heap.size 5 1)).sl, (BL.nil w' w.heap.size).sl, h3⟩
end
end Go.Proofs.YtgbladpoglhleaaGreatDoor
