/- The reference's greatest and below: of any numbers. No condition. -/
import Derived.Test.YtikgdhmnnnicmaaB
namespace Go.Proofs.Ytikgdhmnnnicmaa
open Go.RowKit
def greatestF (cs : List Int) : Int := cs.foldl max (-1)
def belowF (cs : List Int) (k : Int) : Int := cs.foldl (fun x c => if c < k then max x c else x) (-1)
theorem greatest_succ {cs : List Int} {i : Nat} (hi : i < cs.length) : greatestF (cs.take (i + 1)) = max (greatestF (cs.take i)) cs[i] := by
  unfold greatestF
  rw [List.take_add_one, List.getElem?_eq_getElem hi, Option.toList_some, List.foldl_append]
  rfl
theorem below_succ {cs : List Int} {k : Int} {i : Nat} (hi : i < cs.length) : belowF (cs.take (i + 1)) k = if cs[i] < k then max (belowF (cs.take i) k) cs[i] else belowF (cs.take i) k := by
  unfold belowF
  rw [List.take_add_one, List.getElem?_eq_getElem hi, Option.toList_some, List.foldl_append]
  rfl
set_option maxHeartbeats 1000000 in
set_option maxRecDepth 100000 in
theorem greatest_any {w : World} {ok : Nat → Prop} {v : Value} {cs : List Int} (hs : Sl kint w ok v cs) : Calls Try.prog 49 #[v] w fun e w' => e = .returned (.int .i64 (greatestF cs)) ∧ w = w' := by
  obtain ⟨A, c, rfl, hc, hm⟩ := hs.slice
  have HS := Aside.mk hs
  clear hs
  go_enter Try.func49, Try.ntmps49
  go_wp2
  go_loopg [3, 4] cs.length (fun kq xv iv wr => ∃ (i : Nat), Aside (i + kq = cs.length) ∧ iv = .int .i64 i ∧ xv = .int .i64 (greatestF (cs.take i)) ∧ w = wr)
  case atStart => exact ⟨0, ⟨by omega⟩, rfl, rfl, rfl⟩
  case round =>
    obtain ⟨i, HI, rfl, rfl, rfl⟩ := hrel
    by_cases hi : i < cs.length
    · obtain ⟨b, o, e, k0⟩ := HS.out.int i hi
      cases e
      have HT := Aside.mk (greatest_succ hi)
      generalize cs[i] = x at *
      generalize greatestF (cs.take i) = y at *
      go_wp2
      all_goals
        go_roundg (cs.length - (i + 1))
        case measure => have := HI.out; omega
        case rel => exact ⟨i + 1, ⟨by omega⟩, by go_num, by rw [HT.out]; congr 1; omega, rfl⟩
    · have ht : cs.take i = cs := List.take_of_length_le (by omega)
      replace hi : cs.length ≤ i := by omega
      go_wp2
      go_ret
      exact ⟨reti (by rw [ht]), rfl⟩
set_option maxHeartbeats 1000000 in
set_option maxRecDepth 100000 in
theorem below_any {w : World} {ok : Nat → Prop} {v : Value} {cs : List Int} {k : Int} (hs : Sl kint w ok v cs) : Calls Try.prog 50 #[v, .int .i64 k] w fun e w' => e = .returned (.int .i64 (belowF cs k)) ∧ w = w' := by
  obtain ⟨A, c, rfl, hc, hm⟩ := hs.slice
  have HS := Aside.mk hs
  clear hs
  go_enter Try.func50, Try.ntmps50
  go_wp2
  go_loopg [5, 6] cs.length (fun kq xv iv wr => ∃ (i : Nat), Aside (i + kq = cs.length) ∧ iv = .int .i64 i ∧ xv = .int .i64 (belowF (cs.take i) k) ∧ w = wr)
  case atStart => exact ⟨0, ⟨by omega⟩, rfl, rfl, rfl⟩
  case round =>
    obtain ⟨i, HI, rfl, rfl, rfl⟩ := hrel
    by_cases hi : i < cs.length
    · obtain ⟨b, o, e, k0⟩ := HS.out.int i hi
      cases e
      have HT := Aside.mk (below_succ (k := k) hi)
      generalize cs[i] = x at *
      generalize belowF (cs.take i) k = y at *
      by_cases hx : x < k
      · have d : decide (x < k) = true := decide_eq_true hx
        have ht := HT.out
        rw [if_pos hx] at ht
        clear hx HT
        go_wp2
        all_goals
          go_roundg (cs.length - (i + 1))
          case measure => have := HI.out; omega
          case rel => exact ⟨i + 1, ⟨by omega⟩, by go_num, by rw [ht]; congr 1; omega, rfl⟩
      · have d : decide (x < k) = false := decide_eq_false hx
        have ht := HT.out
        rw [if_neg hx] at ht
        clear hx HT
        go_wp2
        go_roundg (cs.length - (i + 1))
        case measure => have := HI.out; omega
        case rel => exact ⟨i + 1, ⟨by omega⟩, by go_num, by rw [ht], rfl⟩
    · have ht : cs.take i = cs := List.take_of_length_le (by omega)
      replace hi : cs.length ≤ i := by omega
      go_wp2
      go_ret
      exact ⟨reti (by rw [ht]), rfl⟩
end Go.Proofs.Ytikgdhmnnnicmaa
