/- varint.Len walked: how many bytes a number's form has. No condition. -/
import Derived.Test.YtgbladpoglhleaaGreatDoorVa
namespace Go.Proofs.YtgbladpoglhleaaGreatDoor
open Go.RowKit
theorem vform_len_small {x : Nat} (h : x < 128) : (vform x).length = 1 := by
  unfold vform
  rw [show x / 128 = 0 by omega, vhi_zero]
  rfl
theorem vform_len_step {x : Nat} (h : 128 ≤ x) : (vform x).length = (vform (x / 128)).length + 1 := by
  unfold vform
  rw [vhi_pos (show 0 < x / 128 by omega)]
  simp
set_option maxHeartbeats 400000 in
set_option maxRecDepth 100000 in
theorem vLen_any (x : Nat) (hx : x < 9223372036854775808) (w : World) : Calls Tryz.prog 102 #[.int .i64 x] w fun e w' => e = .returned (.int .i64 ((vform x).length : Nat)) ∧ w' = w := by
  have HB : Aside ((vform x).length ≤ 10) := ⟨by
    have h := vhi_length 9 (x / 128) (by rw [Nat.div_lt_iff_lt_mul (by omega)]; omega)
    simp only [vform, List.length_append, List.length_singleton]
    omega⟩
  have H0 : Aside ((vform x).length + 1 = (vform x).length + 1) := ⟨rfl⟩
  have HX := Aside.mk hx
  clear hx
  go_enter Tryz.func102, Tryz.ntmps102
  go_wp2
  go_loopg [0, 3] (vform x).length (fun kq v0 v3 wr => ∃ (y n : Nat), Aside (y < 9223372036854775808) ∧ Aside (kq = (vform y).length) ∧ v0 = .int .i64 y ∧ v3 = .int .i64 n ∧ Aside (n + (vform y).length = (vform x).length + 1) ∧ wr = w)
  case atStart => exact ⟨x, 1, HX, ⟨rfl⟩, rfl, rfl, ⟨by omega⟩, rfl⟩
  case round =>
    obtain ⟨y, n, HY, HK, rfl, rfl, HN, rfl⟩ := hrel
    have hn : n ≤ 11 := by have := HN.out; have := HB.out; omega
    have hyb : y < 9223372036854775808 := HY.out
    by_cases hy : 128 ≤ y
    · have HS := Aside.mk (vform_len_step hy)
      have hd : decide ((128 : Int) ≤ (y : Int)) = true := decide_eq_true (by omega)
      have hy0 : (0 : Int) ≤ (y : Int) := by omega
      have hy1 : (y : Int) ≤ 9223372036854775807 := by omega
      go_wp2
      go_roundg (vform (y / 128)).length
      case measure => have := HK.out; have := HS.out; omega
      case rel => exact ⟨y / 128, n + 1, ⟨by have := HY.out; omega⟩, ⟨rfl⟩, by first | rfl | (go_num) | simp, by go_num, ⟨by have := HN.out; have := HS.out; omega⟩, rfl⟩
    · have HS := Aside.mk (vform_len_small (show y < 128 by omega))
      have hnv : n = (vform x).length := by have := HN.out; have := HS.out; omega
      replace hy : y < 128 := by omega
      have hd : decide ((128 : Int) ≤ (y : Int)) = false := decide_eq_false (by omega)
      clear HN HB
      go_wp2
      go_ret
      exact ⟨by first | rfl | (rw [hnv]; rfl), rfl⟩
end Go.Proofs.YtgbladpoglhleaaGreatDoor
