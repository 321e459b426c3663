/- The law OrderDecodes: true, whatever comes in. Condition: the tables that the text lays. -/
import Derived.Test.YtjncnppbaldmiaaGreatDoorOj
import Derived.Test.YtjncnppbaldmiaaGreatDoorLa
namespace Go.Proofs.YtjncnppbaldmiaaGreatDoor
open Go.RowKit Go.Shelf
theorem flat_take {data : List (List UInt8)} {i : Nat} (hi : i < data.length) : (data.take (i + 1)).flatten = (data.take i).flatten ++ data[i] := by
  rw [take_snoc hi, List.flatten_append]
  simp
theorem flat_len (data : List (List UInt8)) : data.flatten.length = sumL data := by simp [sumL, List.length_flatten]
set_option maxHeartbeats 4000000 in
set_option maxRecDepth 100000 in
/-- Payloads, one behind the other. -/
theorem all_any {w : World} {ok : Nat → Prop} {v : Value} {data : List (List UInt8)} (hd : Sl (kslice kbyte) w ok v data) (hs : sumL data ≤ 1073741824) : Calls Tryz.prog 17 #[v] w (BytesPost w data.flatten) := by
  obtain ⟨Ad, cd, rfl, hcd, hmd⟩ := hd.slice
  have HD := Aside.mk hd
  have HS := Aside.mk hs
  have HO0 : Aside (w.ownsRow w.heap.size 5 1 (.slice none 0 0) (data.take 0).flatten.length (u8s (data.take 0).flatten)) := ⟨World.ownsRow_nil _ _ _ _⟩
  have HB0 : Aside (Below w.heap.size w w) := ⟨Below.refl _ _⟩
  clear hd hs
  go_enter Tryz.func17, Tryz.ntmps17
  go_wp2_with fail
  go_loopg [3, 4] data.length (fun kq v3 v4 wr => ∃ (i : Nat), Aside (i + kq = data.length) ∧ v4 = .int .i64 i ∧ Aside (Below w.heap.size w wr) ∧ Aside (wr.ownsRow w.heap.size 5 1 v3 (data.take i).flatten.length (u8s (data.take i).flatten)))
  case atStart => exact ⟨0, ⟨by omega⟩, rfl, HB0, HO0⟩
  case round =>
    clear HB0 HO0
    obtain ⟨i, HI, rfl, HB, HO⟩ := hrel
    by_cases hi : i < data.length
    · obtain ⟨b, o, q1, e, h1, s1⟩ := (HD.out.below HB.out).row i hi
      cases e
      have hM : Aside (data.length - (i + 1) < gk ∧ i + 1 + (data.length - (i + 1)) = data.length) := ⟨by have := HI.out; omega⟩
      have HT := Aside.mk (flat_take hi)
      have HL1 : Aside ((data.take i).flatten.length + data[i].length ≤ 1073741824) := ⟨by
        have h1 := sumL_take hi
        have h2 := sumL_le data (i + 1)
        have := HS.out
        rw [flat_len]
        omega⟩
      obtain ⟨A3, c3, rfl, _⟩ := s1.slice
      have HS1 := Aside.mk s1
      clear s1
      generalize data[i] = bs at *
      have hi1 : (i : Int) < (data.length : Int) := by omega
      have hi0 : (0 : Int) ≤ (i : Int) := by omega
      obtain ⟨A4, n4, c4, rfl⟩ := own_slice HO.out
      go_wp2_with (at_builtin; go_must (refine app_bytes w.heap.size rfl _ _ rfl (.slice A4 n4 c4) _ _ A3 c3 bs rfl rfl HO.out HS1.out HB.out.size (by have := HL1.out; omega) ?_; intro v1 w9 hown hg hat; have HB9 := Aside.mk (HB.out.grown hg HB.out.size fun q e => (HO.out.lt q e).1); have HO9 := Aside.mk hown; clear hown hg hat))
      go_roundg (data.length - (i + 1))
      case measure => exact hM.out.1
      case rel => exact ⟨i + 1, ⟨hM.out.2⟩, by go_num, HB9, ⟨by rw [HT.out, u8s_append, List.length_append]; exact HO9.out⟩⟩
    · have ht : data.take i = data := List.take_of_length_le (by omega)
      have HP : Aside (BytesPost w data.flatten (.returned u3) wr) := ⟨_, rfl, by rw [← ht]; exact HO.out, HB.out⟩
      replace hi : data.length ≤ i := by omega
      clear ht HO HB
      go_wp2_with fail
      go_ret
      exact HP.out
end Go.Proofs.YtjncnppbaldmiaaGreatDoor
