/- Numbers in a name: what the document reads as a number is what strconv writes and reads. No program. No condition. -/
import Derived.Lib.AtoiAll
import Derived.Lib.Atoi
import Derived.Lib.ItoaMem
namespace Go.Proofs.YtgbladpoglhleaaGreatDoor
open Go.Lib
/-- The document's number in a name. -/
def numF (l : List UInt8) : Option Nat :=
  if l = [] ∨ 10 < l.length ∨ (1 < l.length ∧ l.head? = some 48) then none else
  match decFrom 0 l with
  | some n => if n ≤ 2147483647 then some n else none
  | none => none
theorem decFrom_append : ∀ (xs ys : List UInt8) (acc : Nat), decFrom acc (xs ++ ys) = (decFrom acc xs).bind fun m => decFrom m ys
  | [], ys, acc => by simp [decFrom]
  | x :: xs, ys, acc => by
    simp only [List.cons_append, decFrom]
    cases digitVal x with
    | none => rfl
    | some d => exact decFrom_append xs ys _
theorem digitVal_of {d : Nat} (h : d < 10) : digitVal (UInt8.ofNat (48 + d)) = some d := by
  have e : (UInt8.ofNat (48 + d)).toNat = 48 + d := by rw [UInt8.toNat_ofNat']; omega
  unfold digitVal
  rw [e, if_pos (by omega)]
  congr 1
  omega
theorem digitVal_lt {b : UInt8} {d : Nat} (h : digitVal b = some d) : d < 10 ∧ b = UInt8.ofNat (48 + d) := by
  unfold digitVal at h
  split at h
  · rename_i hb
    simp only [Option.some.injEq] at h
    refine ⟨by omega, ?_⟩
    apply UInt8.toNat_inj.1
    rw [UInt8.toNat_ofNat']
    omega
  · cases h
theorem decFrom_decDigits (n : Nat) : decFrom 0 (decDigits n) = some n := by
  induction n using Nat.strongRecOn with
  | _ n ih =>
    rw [decDigits]
    split
    · rename_i h
      simp only [decFrom, digitVal_of h]
      simp
    · rename_i h
      rw [decFrom_append, ih (n / 10) (by omega)]
      simp only [Option.bind_some, decFrom, digitVal_of (show n % 10 < 10 by omega)]
      congr 1
      omega
theorem decDigits_ne (n : Nat) : decDigits n ≠ [] := by
  rw [decDigits]
  split <;> simp
theorem decDigits_head {n : Nat} (h : 1 ≤ n) : (decDigits n).head? ≠ some 48 := by
  induction n using Nat.strongRecOn with
  | _ n ih =>
    rw [decDigits]
    split
    · rename_i h10
      intro e
      simp only [List.head?_cons, Option.some.injEq] at e
      have := congrArg UInt8.toNat e
      rw [UInt8.toNat_ofNat'] at this
      have h48 : (48 : UInt8).toNat = 48 := rfl
      omega
    · rename_i h10
      have := ih (n / 10) (by omega) (by omega)
      cases hq : decDigits (n / 10) with
      | nil => exact absurd hq (decDigits_ne _)
      | cons a t =>
        rw [hq] at this
        simpa using this
theorem digits_of_dec : ∀ (k : Nat) (l : List UInt8), l.length = k → l ≠ [] → (1 < l.length → l.head? ≠ some 48) → ∀ n, decFrom 0 l = some n → l = decDigits n
  | 0, l, hk, hne, _, _, _ => absurd (List.eq_nil_of_length_eq_zero hk) hne
  | k + 1, l, hk, hne, hh, n, h => by
    obtain ⟨xs, d, rfl⟩ : ∃ xs d, l = xs ++ [d] := ⟨l.dropLast, l.getLast hne, (List.dropLast_concat_getLast hne).symm⟩
    have hx : xs.length = k := by simpa using hk
    rw [decFrom_append] at h
    cases hv : decFrom 0 xs with
    | none => simp [hv] at h
    | some v =>
      rw [hv] at h
      simp only [Option.bind_some, decFrom] at h
      cases hd : digitVal d with
      | none => simp [hd] at h
      | some e =>
        simp only [hd, Option.some.injEq] at h
        obtain ⟨he, rfl⟩ := digitVal_lt hd
        cases xs with
        | nil =>
          simp only [decFrom, Option.some.injEq] at hv
          subst hv
          have : n = e := by omega
          subst this
          rw [decDigits_one he]
          rfl
        | cons x xs =>
          have hh2 : (x :: xs).head? ≠ some 48 := by
            have := hh (by simp)
            simpa using this
          have ih := digits_of_dec k (x :: xs) hx (by simp) (fun _ => hh2) v hv
          have hv1 : 1 ≤ v := by
            rcases Nat.eq_zero_or_pos v with h0 | h0
            · subst h0
              rw [decDigits_one (by omega)] at ih
              rw [ih] at hh2
              exact absurd rfl hh2
            · exact h0
          rw [decDigits, dif_neg (by omega), ih]
          have h1 : n / 10 = v := by omega
          have h2 : n % 10 = e := by omega
          rw [h1, h2]
theorem nDigits_le : ∀ (k n : Nat), n < 10 ^ (k + 1) → nDigits n ≤ k + 1
  | 0, n, h => by rw [nDigits_small (by simpa using h)]; exact Nat.le_refl _
  | k + 1, n, h => by
    by_cases hn : n < 10
    · rw [nDigits_small hn]; omega
    · rw [nDigits_big hn]
      have := nDigits_le k (n / 10) (by rw [Nat.pow_succ] at h; omega)
      omega
theorem numF_dec {n : Nat} (h : n ≤ 2147483647) : numF (decDigits n) = some n := by
  unfold numF
  rw [if_neg, decFrom_decDigits]
  · simp [h]
  · rintro (e | e | ⟨e1, e2⟩)
    · exact decDigits_ne n e
    · rw [decDigits_length] at e
      have := nDigits_le 9 n (by omega)
      omega
    · rcases Nat.eq_zero_or_pos n with h0 | h0
      · subst h0
        rw [decDigits_one (by omega)] at e1
        simp at e1
      · exact decDigits_head h0 e2
theorem dec_numF {l : List UInt8} {n : Nat} (h : numF l = some n) : l = decDigits n ∧ n ≤ 2147483647 := by
  unfold numF at h
  split at h
  · cases h
  · rename_i hc
    cases hd : decFrom 0 l with
    | none => simp [hd] at h
    | some m =>
      simp only [hd] at h
      split at h
      · simp only [Option.some.injEq] at h
        subst h
        exact ⟨digits_of_dec _ l rfl (fun e => hc (.inl e)) (fun h1 h2 => hc (.inr (.inr ⟨h1, h2⟩))) _ hd, by assumption⟩
      · cases h
theorem decFrom_ge : ∀ (l : List UInt8) (acc n : Nat), decFrom acc l = some n → acc ≤ n
  | [], acc, n, h => by simp only [decFrom, Option.some.injEq] at h; omega
  | x :: xs, acc, n, h => by
    simp only [decFrom] at h
    cases hd : digitVal x with
    | none => simp [hd] at h
    | some d =>
      simp only [hd] at h
      have := decFrom_ge xs _ n h
      omega
theorem parse_of_dec : ∀ (l : List UInt8) (acc n : Nat), decFrom acc l = some n → n < 1844674407370955162 → parseUint10 acc l = .ok n
  | [], acc, n, h, _ => by simp only [decFrom, Option.some.injEq] at h; subst h; rfl
  | x :: xs, acc, n, h, hn => by
    simp only [decFrom] at h
    cases hd : digitVal x with
    | none => simp [hd] at h
    | some d =>
      simp only [hd] at h
      have hge := decFrom_ge xs _ n h
      have hx : 48 ≤ x.toNat ∧ x.toNat ≤ 57 ∧ d = x.toNat - 48 := by
        unfold digitVal at hd
        split at hd
        · rename_i hb; exact ⟨hb.1, hb.2, by simpa using hd.symm⟩
        · cases hd
      obtain ⟨h1, h2, rfl⟩ := hx
      rw [parseUint10, if_pos ⟨h1, h2⟩, if_neg (by omega), if_neg (by omega)]
      exact parse_of_dec xs _ n h hn
theorem atoi_dec {n : Nat} (h : n ≤ 2147483647) : atoiAll (decDigits n) = .ok (n : Int) := by
  have hd := decFrom_decDigits n
  cases hq : decDigits n with
  | nil => exact absurd hq (decDigits_ne n)
  | cons c r =>
    rw [hq] at hd
    have hc : 48 ≤ c.toNat ∧ c.toNat ≤ 57 := by
      simp only [decFrom] at hd
      by_cases hb : 48 ≤ c.toNat ∧ c.toNat ≤ 57
      · exact hb
      · have he : digitVal c = none := by unfold digitVal; rw [if_neg hb]
        simp [he] at hd
    unfold atoiAll
    simp only
    rw [if_neg (by omega)]
    unfold parseMag
    rw [if_neg (by simp), parse_of_dec _ _ _ hd (by omega)]
    simp only
    rw [if_neg (by omega), if_neg (by omega), if_neg (by omega)]
/-- What the program asks of a part of a name is what the document asks. -/
theorem part_ok {l : List UInt8} {v : Int} (h0 : 0 ≤ v) (h1 : v ≤ 2147483647) (h2 : itoa v = l) : numF l = some v.toNat := by
  have e : itoa v = decDigits v.toNat := by
    have : v = (v.toNat : Int) := by omega
    have h3 := itoa_nonneg v.toNat
    rw [← this] at h3
    exact h3
  rw [← h2, e]
  exact numF_dec (by omega)
theorem ok_part {l : List UInt8} {n : Nat} (h : numF l = some n) : atoiAll l = .ok (n : Int) ∧ itoa (n : Int) = l ∧ n ≤ 2147483647 := by
  obtain ⟨rfl, hn⟩ := dec_numF h
  exact ⟨atoi_dec hn, itoa_nonneg n, hn⟩
end Go.Proofs.YtgbladpoglhleaaGreatDoor
