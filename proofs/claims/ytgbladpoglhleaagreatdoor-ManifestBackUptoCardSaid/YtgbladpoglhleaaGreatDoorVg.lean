/- varint.grown walked: a copy of bytes with room behind it. No condition. -/
import Derived.Test.YtgbladpoglhleaaGreatDoorVp
import Derived.Laws.CopyOwn
namespace Go.Proofs.YtgbladpoglhleaaGreatDoor
open Go.RowKit
def GrownPost (w : World) (bs : List UInt8) (e : Ending) (w' : World) : Prop := ∃ v, e = .returned v ∧ w'.ownsRow w.heap.size 5 1 v bs.length (u8s bs) ∧ Below w.heap.size w w'
theorem grown_fin {w : World} {n m : Nat} {bs : List UInt8} (hn : n = bs.length) (hm : n ≤ m) (hx : m ≤ maxLen) {cur : Array Value} (hc : cur.size = m) :
    ((w.alloc (.cells cur 5)).setRow w.heap.size (cur.toList.take 0 ++ (u8s bs ++ cur.toList.drop (0 + (u8s bs).length))).toArray).ownsRow w.heap.size 5 1 (.slice (some ⟨w.heap.size, 0, none⟩) n m) n (u8s bs) ∧
    Below w.heap.size w ((w.alloc (.cells cur 5)).setRow w.heap.size (cur.toList.take 0 ++ (u8s bs ++ cur.toList.drop (0 + (u8s bs).length))).toArray) := by
  subst hn
  have hu := u8s_length bs
  refine ⟨⟨by rw [hu, Nat.mul_one], .inr ⟨w.heap.size, m, (cur.toList.take 0 ++ (u8s bs ++ cur.toList.drop (0 + (u8s bs).length))).toArray, rfl, Nat.le_refl _, ?_, hm, hx, ?_, ?_⟩⟩, below_setRow ((Below.refl _ _).alloc (Nat.le_refl _) _) (Nat.le_refl _) _⟩
  · exact setRow_heap _ _ _ _ _ _ (heap_alloc_new _ _)
  · simp [hc, hu]; omega
  · simp [← hu]
set_option maxHeartbeats 4000000 in
set_option maxRecDepth 100000 in
theorem grown_any {w : World} {ok : Nat → Prop} {v : Value} {bs : List UInt8} (more : Nat) (hmore : more ≤ 1099511627776) (hs : Sl kbyte w ok v bs) (hl : bs.length ≤ 1099511627776) : Calls Tryz.prog 81 #[v, .int .i64 more] w (GrownPost w bs) := by
  obtain ⟨A, c, rfl, hc, hm⟩ := hs.slice
  obtain ⟨i0, hi0, hz0, hz1, hz2⟩ := info_parts Tryz.infoByte
  have hmk : (Instr.makeSlice 44 (.int .i64 (bs.length : Int)) (.int .i64 ((bs.length : Int) + (more : Int)))).run Tryz.prog w = .ok (.slice (some ⟨w.heap.size, 0, none⟩) bs.length (bs.length + more)) (w.alloc (.cells (madeCells #[.int .u8 0] (bs.length + more)) 5)) := by
    have h := run_make (P := Tryz.prog) w 44 5 i0 _ Tryz.underlying44 hi0 hz0 .i64 .i64 (bs.length : Int) ((bs.length : Int) + (more : Int)) (by omega) (by omega) (by rw [hz2]; omega) (by omega)
    have e : ((bs.length : Int) + (more : Int)).toNat = bs.length + more := by omega
    rw [e, hz1] at h
    simpa [Value.cells] using h
  have HB0 := Aside.mk ((Below.refl w.heap.size w).alloc (Nat.le_refl _) (.cells (madeCells #[.int .u8 0] (bs.length + more)) 5))
  have HS0 := Aside.mk (hs.below HB0.out)
  have HFin := Aside.mk (grown_fin (w := w) (n := bs.length) (m := bs.length + more) (bs := bs) rfl (by omega) (by simp only [maxLen]; omega) (cur := madeCells #[.int .u8 0] (bs.length + more)) (by simp [size_madeCells]))
  have HMade : Aside (bs.length = 0 → (w.alloc (.cells (madeCells #[.int .u8 0] (bs.length + more)) 5)).ownsRow w.heap.size 5 1 (.slice (some ⟨w.heap.size, 0, none⟩) bs.length (bs.length + more)) bs.length (u8s bs)) := ⟨fun h0 => by
    obtain rfl := List.eq_nil_of_length_eq_zero h0
    exact World.ownsRow_made w _ _ (Nat.le_refl _) (by simp only [maxLen]; omega) (by rw [size_madeCells]; simp)⟩
  clear hs hi0 hz0 hz1 hz2
  go_enter Tryz.func81, Tryz.ntmps81
  by_cases h0 : bs.length = 0
  · have H0 := Aside.mk h0
    clear h0
    have HP : Aside (GrownPost w bs (.returned (.slice (some ⟨w.heap.size, 0, none⟩) bs.length (bs.length + more))) (w.alloc (.cells (madeCells #[.int .u8 0] (bs.length + more)) 5))) := ⟨_, rfl, HMade.out H0.out, HB0.out⟩
    go_wp2_with ((with_reducible show wpList _ _ _ _ _ _); (refine wpList_copy_nothing (o := ⟨some 15, _, _, _, _, _⟩) rfl _ _ 44 44 rfl 5 Tryz.underlying44 (by kernel_rfl) _ _ _ _ _ _ rfl rfl (by simp [H0.out]) ?_))
    go_ret
    exact HP.out
  · have H0 := Aside.mk h0
    obtain ⟨b, o, cs, hA, -⟩ := HS0.out.at 0 (by omega)
    subst hA
    have HP : Aside (GrownPost w bs (.returned (.slice (some ⟨w.heap.size, 0, none⟩) bs.length (bs.length + more))) ((w.alloc (.cells (madeCells #[.int .u8 0] (bs.length + more)) 5)).setRow w.heap.size ((madeCells #[.int .u8 0] (bs.length + more)).toList.take 0 ++ (u8s bs ++ (madeCells #[.int .u8 0] (bs.length + more)).toList.drop (0 + (u8s bs).length))).toArray)) := ⟨_, rfl, HFin.out.1, HFin.out.2⟩
    have HSrc : Aside (∀ j v, (u8s bs)[j]? = some v → (w.alloc (.cells (madeCells #[.int .u8 0] (bs.length + more)) 5)).cell? ((⟨b, o, none⟩ : Addr).add j) = some v) := ⟨fun j v hj => by
      have hjl : j < bs.length := by have := (List.getElem?_eq_some_iff.1 hj).1; rwa [u8s_length] at this
      obtain ⟨b', o', e, hc⟩ := HS0.out.byte j hjl
      cases e
      rw [addr_add, hc]
      unfold u8s at hj
      rw [List.getElem?_map, List.getElem?_eq_getElem hjl] at hj
      simpa using hj⟩
    clear h0
    go_wp2_with ((with_reducible show wpList _ _ _ _ _ _); (refine wpList_copy_own (o := ⟨some 15, _, _, _, _, _⟩) rfl _ _ 44 44 rfl 5 Tryz.underlying44 (by kernel_rfl) w.heap.size 0 _ _ ⟨b, o, none⟩ _ _ rfl rfl (madeCells #[.int .u8 0] (bs.length + more)) 5 (heap_alloc_new _ _) (u8s bs) (by rw [u8s_length]; simp) HSrc.out (by rw [u8s_length]; simp [size_madeCells]) (fun u hu => by unfold u8s at hu; obtain ⟨b, _, rfl⟩ := List.mem_map.1 hu; rfl) ?_))
    go_ret
    have hp := HP.out
    simp only [List.take_zero, List.nil_append, Nat.zero_add] at hp
    first | exact hp | simpa using hp
set_option maxHeartbeats 4000000 in
set_option maxRecDepth 100000 in
/-- varint.Put: a copy of the bytes, the number's form behind them. -/
theorem vPut_any (x : Nat) (hx : x < 9223372036854775808) {w : World} {ok : Nat → Prop} {v : Value} {bs : List UInt8} (hs : Sl kbyte w ok v bs) (hl : bs.length ≤ 1099511627776) : Calls Tryz.prog 52 #[v, .int .i64 x] w (GrownPost w (bs ++ vform x)) := by
  obtain ⟨A, c, rfl, hc, hm⟩ := hs.slice
  have hcall := grown_any 9 (by omega) hs hl
  have HL := Aside.mk hl
  clear hs
  go_enter Tryz.func52, Tryz.ntmps52
  go_wp2_with fail
  refine hcall.mono ?_
  clear hcall
  rintro e w1 ⟨v1, rfl, ho, B1⟩
  have HB := Aside.mk B1
  have HO := Aside.mk ho
  have hcall := vput_any x hx w.heap.size B1.size ho hl
  obtain ⟨A1, m1, c1, rfl⟩ : ∃ A m c, v1 = .slice A m c := by rcases ho.2 with ⟨h, _⟩ | ⟨g, cap, cur, h, _⟩ <;> exact ⟨_, _, _, h⟩
  clear ho B1
  go_wp2_with fail
  refine hcall.mono ?_
  clear hcall
  rintro e w2 ⟨v2, rfl, ho2, hg2, _⟩
  have HP : Aside (GrownPost w (bs ++ vform x) (.returned v2) w2) := ⟨v2, rfl, ho2, HB.out.grown hg2 HB.out.size fun q e => (HO.out.lt q e).1⟩
  obtain ⟨A2, m2, c2, rfl⟩ : ∃ A m c, v2 = .slice A m c := by rcases ho2.2 with ⟨h, _⟩ | ⟨g, cap, cur, h, _⟩ <;> exact ⟨_, _, _, h⟩
  clear ho2 hg2
  go_wp2
  go_ret
  exact HP.out
end Go.Proofs.YtgbladpoglhleaaGreatDoor
