/- The forms of numbers (varint): there and back. No condition. -/
import Derived.Test.YtgbladpoglhleaaGreatDoorB
namespace Go.Proofs.YtgbladpoglhleaaGreatDoor
/-- The groups of seven bits ahead of the last one, each marked. -/
def vhi (x : Nat) : List UInt8 := if _h : x = 0 then [] else vhi (x / 128) ++ [UInt8.ofNat (128 + x % 128)]
termination_by x
decreasing_by omega
/-- A number's form. -/
def vform (x : Nat) : List UInt8 := vhi (x / 128) ++ [UInt8.ofNat (x % 128)]
theorem vhi_zero : vhi 0 = [] := by rw [vhi]; rfl
theorem vhi_pos {x : Nat} (h : 0 < x) : vhi x = vhi (x / 128) ++ [UInt8.ofNat (128 + x % 128)] := by
  rw [vhi, dif_neg (by omega)]
/-- The number and the length of the form that bytes begin with; none: there is none. fuel: how many bytes a form may have. -/
def vgo : Nat → Nat → Nat → List UInt8 → Option (Nat × Nat)
  | 0, _, _, _ => none
  | _ + 1, _, _, [] => none
  | f + 1, x, i, c :: r => if c.toNat < 128 then some (x * 128 + c.toNat, i + 1) else vgo f (x * 128 + c.toNat % 128) (i + 1) r
def vread (bs : List UInt8) : Option (Nat × Nat) := if bs.head? = some 128 then none else vgo 9 0 0 bs
theorem vgo_hi : ∀ (n y : Nat) (f x i : Nat) (r : List UInt8), y < 128 ^ n → (vhi y).length ≤ f → vgo f x i (vhi y ++ r) = vgo (f - (vhi y).length) (x * 128 ^ (vhi y).length + y) (i + (vhi y).length) r := by
  intro n
  induction n with
  | zero =>
    intro y f x i r hy hf
    have : y = 0 := by simpa using hy
    subst this
    simp [vhi_zero]
  | succ n ih =>
    intro y f x i r hy hf
    rcases Nat.eq_zero_or_pos y with h0 | h0
    · subst h0; simp [vhi_zero]
    · rw [vhi_pos h0, List.append_assoc] at *
      rw [List.length_append] at hf ⊢
      simp only [List.length_singleton] at hf ⊢
      have hyd : y / 128 < 128 ^ n := by rw [Nat.div_lt_iff_lt_mul (by omega)]; rw [Nat.pow_succ] at hy; omega
      rw [ih (y / 128) f x i _ hyd (by omega)]
      obtain ⟨g, hg⟩ : ∃ g, f - (vhi (y / 128)).length = g + 1 := ⟨f - (vhi (y / 128)).length - 1, by omega⟩
      rw [hg]
      simp only [List.singleton_append, vgo]
      have hc : (UInt8.ofNat (128 + y % 128)).toNat = 128 + y % 128 := by rw [UInt8.toNat_ofNat']; omega
      rw [hc, if_neg (by omega)]
      rw [show f - ((vhi (y / 128)).length + 1) = g by omega, show i + (vhi (y / 128)).length + 1 = i + ((vhi (y / 128)).length + 1) by omega]
      congr 1
      rw [Nat.pow_succ, Nat.add_mul, Nat.mul_assoc]
      omega
theorem vhi_length : ∀ (n y : Nat), y < 128 ^ n → (vhi y).length ≤ n := by
  intro n
  induction n with
  | zero => intro y hy; have : y = 0 := by simpa using hy
            subst this; simp [vhi_zero]
  | succ n ih =>
    intro y hy
    rcases Nat.eq_zero_or_pos y with h0 | h0
    · subst h0; simp [vhi_zero]
    · rw [vhi_pos h0, List.length_append]
      have hyd : y / 128 < 128 ^ n := by rw [Nat.div_lt_iff_lt_mul (by omega)]; rw [Nat.pow_succ] at hy; omega
      have := ih _ hyd
      simp only [List.length_singleton]
      omega
theorem vhi_head : ∀ (n y : Nat), y < 128 ^ n → 0 < y → ∃ c r, vhi y = c :: r ∧ c ≠ 128 ∧ 128 ≤ c.toNat := by
  intro n
  induction n with
  | zero => intro y hy h0; have : y = 0 := by simpa using hy
            omega
  | succ n ih =>
    intro y hy h0
    rw [vhi_pos h0]
    rcases Nat.eq_zero_or_pos (y / 128) with h1 | h1
    · rw [h1, vhi_zero]
      have hc : (UInt8.ofNat (128 + y % 128)).toNat = 128 + y % 128 := by rw [UInt8.toNat_ofNat']; omega
      refine ⟨_, [], rfl, fun e => ?_, by omega⟩
      have := congrArg UInt8.toNat e
      rw [hc] at this
      have h2 : (128 : UInt8).toNat = 128 := rfl
      omega
    · have hyd : y / 128 < 128 ^ n := by rw [Nat.div_lt_iff_lt_mul (by omega)]; rw [Nat.pow_succ] at hy; omega
      obtain ⟨c, r, e, hc⟩ := ih _ hyd h1
      exact ⟨c, r ++ [UInt8.ofNat (128 + y % 128)], by rw [e]; rfl, hc⟩
/-- There and back. -/
theorem vread_vform {x : Nat} (hx : x < 128 ^ 9) (r : List UInt8) : vread (vform x ++ r) = some (x, (vform x).length) := by
  have hd : x / 128 < 128 ^ 8 := by rw [Nat.div_lt_iff_lt_mul (by omega)]; omega
  have hl := vhi_length 8 _ hd
  have hc : (UInt8.ofNat (x % 128)).toNat = x % 128 := by rw [UInt8.toNat_ofNat']; omega
  have hno : (vform x ++ r).head? ≠ some 128 := by
    unfold vform
    rcases Nat.eq_zero_or_pos (x / 128) with h0 | h0
    · rw [h0, vhi_zero]
      simp only [List.nil_append, List.singleton_append, List.head?_cons, ne_eq, Option.some.injEq]
      intro e
      have := congrArg UInt8.toNat e
      rw [hc] at this
      have h2 : (128 : UInt8).toNat = 128 := rfl
      omega
    · obtain ⟨c, t, e, h1, _⟩ := vhi_head 8 _ hd h0
      rw [e]
      simpa using h1
  unfold vread
  rw [if_neg hno]
  unfold vform
  rw [List.append_assoc, vgo_hi 8 (x / 128) 9 0 0 _ hd (by omega)]
  obtain ⟨g, hg⟩ : ∃ g, 9 - (vhi (x / 128)).length = g + 1 := ⟨9 - (vhi (x / 128)).length - 1, by omega⟩
  rw [hg]
  simp only [List.singleton_append, vgo, hc]
  rw [if_pos (by omega), List.length_append]
  simp only [List.length_singleton]
  congr 2
  · omega
  · omega
theorem vform_pos (x : Nat) : 0 < (vform x).length := by simp [vform]
/-- All the numbers of a row. -/
def vrow (l : List Nat) : List UInt8 := l.flatMap vform
end Go.Proofs.YtgbladpoglhleaaGreatDoor
