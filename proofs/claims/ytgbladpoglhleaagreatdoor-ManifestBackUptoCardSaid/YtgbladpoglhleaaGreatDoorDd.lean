/- Reading all numbers of a payload (pure). No condition. -/
import Derived.Test.YtgbladpoglhleaaGreatDoorDi
namespace Go.Proofs.YtgbladpoglhleaaGreatDoor
open Go.RowKit
def rdAll : Nat → List UInt8 → Option (List Int)
  | 0, bs => if bs = [] then some [] else none
  | f + 1, bs => if bs = [] then some [] else match vread bs with
    | none => none
    | some (x, n) => (rdAll f (bs.drop n)).map ((x : Int) :: ·)
theorem rdAll_nil (f : Nat) : rdAll f [] = some [] := by cases f <;> simp [rdAll]
/-- The fuel does not matter, so long as it is enough. -/
theorem rdAll_fuel : ∀ (f g : Nat) (bs : List UInt8), bs.length ≤ f → bs.length ≤ g → rdAll f bs = rdAll g bs
  | f, g, [], _, _ => by rw [rdAll_nil, rdAll_nil]
  | 0, _, _ :: _, h, _ => by simp at h
  | _ + 1, 0, _ :: _, _, h => by simp at h
  | f + 1, g + 1, c :: r, hf, hg => by
    simp only [rdAll, reduceCtorEq, if_false]
    cases hv : vread (c :: r) with
    | none => rfl
    | some xn =>
      obtain ⟨x, n⟩ := xn
      have h := vread_le hv
      simp only
      rw [rdAll_fuel f g ((c :: r).drop n) (by simp only [List.length_drop, List.length_cons] at *; omega) (by simp only [List.length_drop, List.length_cons] at *; omega)]
def degFrame (bs : List UInt8) : Option (List Int) := rdAll bs.length bs
theorem degFrame_nil : degFrame [] = some [] := rfl
theorem degFrame_no {bs : List UInt8} (h0 : bs ≠ []) (h : vread bs = none) : degFrame bs = none := by
  unfold degFrame
  obtain ⟨c, r, rfl⟩ : ∃ c r, bs = c :: r := by cases bs with | nil => exact absurd rfl h0 | cons c r => exact ⟨c, r, rfl⟩
  simp only [List.length_cons, rdAll, reduceCtorEq, if_false, h]
theorem degFrame_step {bs : List UInt8} {x n : Nat} (h : vread bs = some (x, n)) : degFrame bs = (degFrame (bs.drop n)).map ((x : Int) :: ·) := by
  have hl := vread_le h
  unfold degFrame
  obtain ⟨c, r, rfl⟩ : ∃ c r, bs = c :: r := by cases bs with | nil => simp at hl; omega | cons c r => exact ⟨c, r, rfl⟩
  simp only [List.length_cons, rdAll, reduceCtorEq, if_false, h]
  rw [rdAll_fuel r.length ((c :: r).drop n).length ((c :: r).drop n) (by simp only [List.length_drop, List.length_cons] at *; omega) (Nat.le_refl _)]
def degF : List (List UInt8) → Option (List Int)
  | [] => some []
  | b :: r => (degFrame b).bind fun l => (degF r).map (l ++ ·)
/-- What has been written is read. -/
theorem degFrame_row : ∀ (c : List Int), (∀ d ∈ c, 0 ≤ d ∧ d < 9223372036854775808) → degFrame (rowD c) = some c
  | [], _ => rfl
  | d :: c, h => by
    have hd := h d List.mem_cons_self
    have e : rowD (d :: c) = vform d.toNat ++ rowD c := by simp [rowD, vI]
    have h9 : (128 : Nat) ^ 9 = 9223372036854775808 := by decide
    have hv := vread_vform (x := d.toNat) (by omega) (rowD c)
    rw [← e] at hv
    rw [degFrame_step hv, e, List.drop_left, degFrame_row c fun d hd => h d (List.mem_cons_of_mem _ hd)]
    simp
    omega
theorem degF_rows (cs : List (List Int)) (h : ∀ c ∈ cs, ∀ d ∈ c, 0 ≤ d ∧ d < 9223372036854775808) : degF (cs.map rowD) = some cs.flatten := by
  induction cs with
  | nil => rfl
  | cons c cs ih =>
    simp only [List.map_cons, degF, degFrame_row c (h c List.mem_cons_self), ih fun c hc => h c (List.mem_cons_of_mem _ hc)]
    simp
theorem degFrame_len : ∀ (k : Nat) (bs : List UInt8) (l : List Int), bs.length ≤ k → degFrame bs = some l → l.length ≤ bs.length
  | _, [], l, _, h => by rw [degFrame_nil] at h; cases h; simp
  | 0, _ :: _, _, h, _ => by simp at h
  | k + 1, c :: r, l, hk, h => by
    cases hv : vread (c :: r) with
    | none => rw [degFrame_no (by simp) hv] at h; cases h
    | some xn =>
      obtain ⟨x, n⟩ := xn
      have hl := vread_le hv
      rw [degFrame_step hv] at h
      cases hd : degFrame ((c :: r).drop n) with
      | none => rw [hd] at h; cases h
      | some l' =>
        rw [hd] at h
        cases h
        have := degFrame_len k ((c :: r).drop n) l' (by simp only [List.length_drop, List.length_cons] at *; omega) hd
        simp only [List.length_drop, List.length_cons] at *
        omega
end Go.Proofs.YtgbladpoglhleaaGreatDoor
