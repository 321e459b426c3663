/- The document's numbers (all of a list), stands. No condition. -/
import Derived.Lib.AtoiAll
import Derived.Lib.Atoi
import Derived.Lib.ItoaMem
import Derived.Test.YtgbladpoglhleaaGreatDoorB
namespace Go.Proofs.YtgbladpoglhleaaGreatDoor
section
open Go.Lib
/-- The document's number in a name. -/
def numF (l : List UInt8) : Option Nat :=
  if l = [] ∨ 10 < l.length ∨ (1 < l.length ∧ l.head? = some 48) then none else
  match decFrom 0 l with
  | some n => if n ≤ 2147483647 then some n else none
  | none => none
theorem decFrom_append : ∀ (xs ys : List UInt8) (acc : Nat), decFrom acc (xs ++ ys) = (decFrom acc xs).bind fun m => decFrom m ys
  | [], ys, acc => by simp [decFrom]
  | x :: xs, ys, acc => by
    simp only [List.cons_append, decFrom]
    cases digitVal x with
    | none => rfl
    | some d => exact decFrom_append xs ys _
theorem digitVal_of {d : Nat} (h : d < 10) : digitVal (UInt8.ofNat (48 + d)) = some d := by
  have e : (UInt8.ofNat (48 + d)).toNat = 48 + d := by rw [UInt8.toNat_ofNat']; omega
  unfold digitVal
  rw [e, if_pos (by omega)]
  congr 1
  omega
theorem digitVal_lt {b : UInt8} {d : Nat} (h : digitVal b = some d) : d < 10 ∧ b = UInt8.ofNat (48 + d) := by
  unfold digitVal at h
  split at h
  · rename_i hb
    simp only [Option.some.injEq] at h
    refine ⟨by omega, ?_⟩
    apply UInt8.toNat_inj.1
    rw [UInt8.toNat_ofNat']
    omega
  · cases h
theorem decFrom_decDigits (n : Nat) : decFrom 0 (decDigits n) = some n := by
  induction n using Nat.strongRecOn with
  | _ n ih =>
    rw [decDigits]
    split
    · rename_i h
      simp only [decFrom, digitVal_of h]
      simp
    · rename_i h
      rw [decFrom_append, ih (n / 10) (by omega)]
      simp only [Option.bind_some, decFrom, digitVal_of (show n % 10 < 10 by omega)]
      congr 1
      omega
theorem decDigits_ne (n : Nat) : decDigits n ≠ [] := by
  rw [decDigits]
  split <;> simp
theorem decDigits_head {n : Nat} (h : 1 ≤ n) : (decDigits n).head? ≠ some 48 := by
  induction n using Nat.strongRecOn with
  | _ n ih =>
    rw [decDigits]
    split
    · rename_i h10
      intro e
      simp only [List.head?_cons, Option.some.injEq] at e
      have := congrArg UInt8.toNat e
      rw [UInt8.toNat_ofNat'] at this
      have h48 : (48 : UInt8).toNat = 48 := rfl
      omega
    · rename_i h10
      have := ih (n / 10) (by omega) (by omega)
      cases hq : decDigits (n / 10) with
      | nil => exact absurd hq (decDigits_ne _)
      | cons a t =>
        rw [hq] at this
        simpa using this
theorem digits_of_dec : ∀ (k : Nat) (l : List UInt8), l.length = k → l ≠ [] → (1 < l.length → l.head? ≠ some 48) → ∀ n, decFrom 0 l = some n → l = decDigits n
  | 0, l, hk, hne, _, _, _ => absurd (List.eq_nil_of_length_eq_zero hk) hne
  | k + 1, l, hk, hne, hh, n, h => by
    obtain ⟨xs, d, rfl⟩ : ∃ xs d, l = xs ++ [d] := ⟨l.dropLast, l.getLast hne, (List.dropLast_concat_getLast hne).symm⟩
    have hx : xs.length = k := by simpa using hk
    rw [decFrom_append] at h
    cases hv : decFrom 0 xs with
    | none => simp [hv] at h
    | some v =>
      rw [hv] at h
      simp only [Option.bind_some, decFrom] at h
      cases hd : digitVal d with
      | none => simp [hd] at h
      | some e =>
        simp only [hd, Option.some.injEq] at h
        obtain ⟨he, rfl⟩ := digitVal_lt hd
        cases xs with
        | nil =>
          simp only [decFrom, Option.some.injEq] at hv
          subst hv
          have : n = e := by omega
          subst this
          rw [decDigits_one he]
          rfl
        | cons x xs =>
          have hh2 : (x :: xs).head? ≠ some 48 := by
            have := hh (by simp)
            simpa using this
          have ih := digits_of_dec k (x :: xs) hx (by simp) (fun _ => hh2) v hv
          have hv1 : 1 ≤ v := by
            rcases Nat.eq_zero_or_pos v with h0 | h0
            · subst h0
              rw [decDigits_one (by omega)] at ih
              rw [ih] at hh2
              exact absurd rfl hh2
            · exact h0
          rw [decDigits, dif_neg (by omega), ih]
          have h1 : n / 10 = v := by omega
          have h2 : n % 10 = e := by omega
          rw [h1, h2]
theorem nDigits_le : ∀ (k n : Nat), n < 10 ^ (k + 1) → nDigits n ≤ k + 1
  | 0, n, h => by rw [nDigits_small (by simpa using h)]; exact Nat.le_refl _
  | k + 1, n, h => by
    by_cases hn : n < 10
    · rw [nDigits_small hn]; omega
    · rw [nDigits_big hn]
      have := nDigits_le k (n / 10) (by rw [Nat.pow_succ] at h; omega)
      omega
theorem numF_dec {n : Nat} (h : n ≤ 2147483647) : numF (decDigits n) = some n := by
  unfold numF
  rw [if_neg, decFrom_decDigits]
  · simp [h]
  · rintro (e | e | ⟨e1, e2⟩)
    · exact decDigits_ne n e
    · rw [decDigits_length] at e
      have := nDigits_le 9 n (by omega)
      omega
    · rcases Nat.eq_zero_or_pos n with h0 | h0
      · subst h0
        rw [decDigits_one (by omega)] at e1
        simp at e1
      · exact decDigits_head h0 e2
theorem dec_numF {l : List UInt8} {n : Nat} (h : numF l = some n) : l = decDigits n ∧ n ≤ 2147483647 := by
  unfold numF at h
  split at h
  · cases h
  · rename_i hc
    cases hd : decFrom 0 l with
    | none => simp [hd] at h
    | some m =>
      simp only [hd] at h
      split at h
      · simp only [Option.some.injEq] at h
        subst h
        exact ⟨digits_of_dec _ l rfl (fun e => hc (.inl e)) (fun h1 h2 => hc (.inr (.inr ⟨h1, h2⟩))) _ hd, by assumption⟩
      · cases h
theorem decFrom_ge : ∀ (l : List UInt8) (acc n : Nat), decFrom acc l = some n → acc ≤ n
  | [], acc, n, h => by simp only [decFrom, Option.some.injEq] at h; omega
  | x :: xs, acc, n, h => by
    simp only [decFrom] at h
    cases hd : digitVal x with
    | none => simp [hd] at h
    | some d =>
      simp only [hd] at h
      have := decFrom_ge xs _ n h
      omega
theorem parse_of_dec : ∀ (l : List UInt8) (acc n : Nat), decFrom acc l = some n → n < 1844674407370955162 → parseUint10 acc l = .ok n
  | [], acc, n, h, _ => by simp only [decFrom, Option.some.injEq] at h; subst h; rfl
  | x :: xs, acc, n, h, hn => by
    simp only [decFrom] at h
    cases hd : digitVal x with
    | none => simp [hd] at h
    | some d =>
      simp only [hd] at h
      have hge := decFrom_ge xs _ n h
      have hx : 48 ≤ x.toNat ∧ x.toNat ≤ 57 ∧ d = x.toNat - 48 := by
        unfold digitVal at hd
        split at hd
        · rename_i hb; exact ⟨hb.1, hb.2, by simpa using hd.symm⟩
        · cases hd
      obtain ⟨h1, h2, rfl⟩ := hx
      rw [parseUint10, if_pos ⟨h1, h2⟩, if_neg (by omega), if_neg (by omega)]
      exact parse_of_dec xs _ n h hn
theorem atoi_dec {n : Nat} (h : n ≤ 2147483647) : atoiAll (decDigits n) = .ok (n : Int) := by
  have hd := decFrom_decDigits n
  cases hq : decDigits n with
  | nil => exact absurd hq (decDigits_ne n)
  | cons c r =>
    rw [hq] at hd
    have hc : 48 ≤ c.toNat ∧ c.toNat ≤ 57 := by
      simp only [decFrom] at hd
      by_cases hb : 48 ≤ c.toNat ∧ c.toNat ≤ 57
      · exact hb
      · have he : digitVal c = none := by unfold digitVal; rw [if_neg hb]
        simp [he] at hd
    unfold atoiAll
    simp only
    rw [if_neg (by omega)]
    unfold parseMag
    rw [if_neg (by simp), parse_of_dec _ _ _ hd (by omega)]
    simp only
    rw [if_neg (by omega), if_neg (by omega), if_neg (by omega)]
/-- What the program asks of a part of a name is what the document asks. -/
theorem part_ok {l : List UInt8} {v : Int} (h0 : 0 ≤ v) (h1 : v ≤ 2147483647) (h2 : itoa v = l) : numF l = some v.toNat := by
  have e : itoa v = decDigits v.toNat := by
    have : v = (v.toNat : Int) := by omega
    have h3 := itoa_nonneg v.toNat
    rw [← this] at h3
    exact h3
  rw [← h2, e]
  exact numF_dec (by omega)
theorem ok_part {l : List UInt8} {n : Nat} (h : numF l = some n) : atoiAll l = .ok (n : Int) ∧ itoa (n : Int) = l ∧ n ≤ 2147483647 := by
  obtain ⟨rfl, hn⟩ := dec_numF h
  exact ⟨atoi_dec hn, itoa_nonneg n, hn⟩
end
section
open Go.RowKit Go.Lib
def numZ (l : List UInt8) : Int := match numF l with
  | some n => n
  | none => -1
theorem take_snoc' {α : Type} {xs : List α} {i : Nat} (hi : i < xs.length) : xs.take (i + 1) = xs.take i ++ [xs[i]] := by
  rw [List.take_add_one, List.getElem?_eq_getElem hi]
  rfl
theorem numZ_none {l : List UInt8} (h : l = [] ∨ 10 < l.length ∨ (1 < l.length ∧ l.head? = some 48)) : numZ l = -1 := by unfold numZ numF; rw [if_pos h]
theorem decFrom_bound : ∀ (l : List UInt8) (acc n : Nat), decFrom acc l = some n → n < (acc + 1) * 10 ^ l.length
  | [], acc, n, h => by simp only [decFrom, Option.some.injEq] at h; subst h; simp
  | x :: xs, acc, n, h => by
    simp only [decFrom] at h
    cases hd : digitVal x with
    | none => simp [hd] at h
    | some d =>
      simp only [hd] at h
      have := decFrom_bound xs _ n h
      have hd2 := (digitVal_lt hd).1
      have h1 : acc * 10 + d + 1 ≤ (acc + 1) * 10 := by omega
      calc n < (acc * 10 + d + 1) * 10 ^ xs.length := this
        _ ≤ ((acc + 1) * 10) * 10 ^ xs.length := Nat.mul_le_mul_right _ h1
        _ = (acc + 1) * 10 ^ (x :: xs).length := by rw [List.length_cons, Nat.pow_succ, Nat.mul_assoc, Nat.mul_comm 10]
theorem decFrom_stop {l : List UInt8} {i : Nat} (hi : i < l.length) (h : digitVal l[i] = none) : decFrom 0 l = none := by
  rw [show l = l.take i ++ l[i] :: l.drop (i + 1) by rw [← List.drop_eq_getElem_cons hi, List.take_append_drop], decFrom_append]
  cases decFrom 0 (l.take i) with
  | none => rfl
  | some m => simp [decFrom, h]
theorem byte_at {s : ByteArray} {i : Nat} (h : i < s.size) : s.data.toList[i]'(by simpa using h) = s[i] := by
  simp [ByteArray.getElem_eq_getElem_data]
set_option maxHeartbeats 2000000 in
set_option maxRecDepth 100000 in
theorem Number_any {w : World} (s : ByteArray) : Calls Tryz.prog 72 #[.string s] w fun e w' => e = .returned (.int .i64 (numZ s.data.toList)) ∧ Same w w' := by
  have hlen : s.data.toList.length = s.size := by simp
  by_cases h0 : s.size = 0
  · have HP : Aside (numZ s.data.toList = -1) := ⟨numZ_none (.inl (List.eq_nil_of_length_eq_zero (by omega)))⟩
    obtain ⟨f1, f2, f3, f4⟩ := natEq h0
    clear hlen
    go_enter Tryz.func72, Tryz.ntmps72
    go_wp2
    go_ret
    exact ⟨reti HP.out, Same.refl _⟩
  · by_cases h1 : 10 < s.size
    · have HP : Aside (numZ s.data.toList = -1) := ⟨numZ_none (.inr (.inl (by omega)))⟩
      have f1 : ((s.size : Int) == 0) = false := beq_false_of_ne (by omega)
      have f2 : decide ((10 : Int) < (s.size : Int)) = true := decide_eq_true (by omega)
      clear hlen h0
      go_enter Tryz.func72, Tryz.ntmps72
      go_wp2
      go_ret
      exact ⟨reti HP.out, Same.refl _⟩
    · have f1 : ((s.size : Int) == 0) = false := beq_false_of_ne (by omega)
      have f2 : decide ((10 : Int) < (s.size : Int)) = false := decide_eq_false (by omega)
      have hpos : 0 < s.size := by omega
      by_cases h2 : 1 < s.size ∧ s[0] = 48
      · obtain ⟨h2, h3⟩ := h2
        have HP : Aside (numZ s.data.toList = -1) := ⟨numZ_none (.inr (.inr ⟨by omega, by
          rw [List.head?_eq_getElem?, List.getElem?_eq_getElem (by omega), byte_at hpos, h3]⟩))⟩
        have f3 : decide ((1 : Int) < (s.size : Int)) = true := decide_eq_true (by omega)
        have f4 : ((s[0].toNat : Int) == 48) = true := by rw [h3]; rfl
        have f5 : (s[0].toNat == 48) = true := by rw [h3]; rfl
        clear hlen h0 h3
        go_enter Tryz.func72, Tryz.ntmps72
        go_wp2
        go_ret
        exact ⟨reti HP.out, Same.refl _⟩
      · have hh : decide ((1 : Int) < (s.size : Int)) = false ∨ (decide ((1 : Int) < (s.size : Int)) = true ∧ ((s[0].toNat : Int) == 48) = false ∧ (s[0].toNat == 48) = false) := by
          by_cases h3 : 1 < s.size
          · have h4 : s[0].toNat ≠ 48 := fun e => h2 ⟨h3, UInt8.toNat_inj.1 e⟩
            exact .inr ⟨decide_eq_true (by omega), beq_false_of_ne (by omega), beq_false_of_ne h4⟩
          · exact .inl (decide_eq_false (by omega))
        have HL : Aside (s.data.toList.length = s.size) := ⟨hlen⟩
        have HH : Aside (∀ n, decFrom 0 s.data.toList = some n → numZ s.data.toList = if n ≤ 2147483647 then (n : Int) else -1) := ⟨fun n hn => by
          unfold numZ numF
          rw [if_neg, hn]
          · by_cases hm : n ≤ 2147483647 <;> simp [hm]
          · rintro (e | e | ⟨e1, e2⟩)
            · exact h0 (by rw [← hlen, e]; rfl)
            · omega
            · rw [List.head?_eq_getElem?, List.getElem?_eq_getElem (by omega), byte_at hpos, Option.some.injEq] at e2
              exact h2 ⟨by omega, e2⟩⟩
        have HZ : Aside (decFrom 0 s.data.toList = none → numZ s.data.toList = -1) := ⟨fun hn => by
          unfold numZ numF
          split
          · rename_i m hm
            split at hm
            · cases hm
            · rw [hn] at hm; cases hm
          · rfl⟩
        have H10 : s.size ≤ 10 := by omega
        clear hlen h0 h1 h2
        rcases hh with f3 | ⟨f3, f4, f5⟩
        · go_enter Tryz.func72, Tryz.ntmps72
          go_wp2
          go_loopg [3, 4] s.size (fun kq v3 v4 wr => ∃ (i n : Nat), Aside (i + kq = s.size) ∧ v3 = .int .i64 n ∧ v4 = .int .i64 i ∧ Aside (decFrom 0 (s.data.toList.take i) = some n) ∧ Aside (n < 10000000000) ∧ Same w wr)
          case atStart => exact ⟨0, 0, ⟨by omega⟩, rfl, rfl, ⟨rfl⟩, ⟨by decide⟩, Same.refl _⟩
          case round =>
            obtain ⟨i, n, HI, rfl, rfl, HD, HN, ⟨⟨q, rfl⟩⟩⟩ := hrel
            by_cases hi : i < s.size
            · have hil : i < s.data.toList.length := by rw [HL.out]; exact hi
              have HX : Aside (s.data.toList[i] = s[i]) := ⟨byte_at hi⟩
              by_cases hd : 48 ≤ s[i].toNat ∧ s[i].toNat ≤ 57
              · have HD2 : Aside (decFrom 0 (s.data.toList.take (i + 1)) = some (10 * n + (s[i].toNat - 48))) := ⟨by
                  rw [take_snoc' hil, decFrom_append, HD.out, HX.out]
                  simp only [Option.bind_some, decFrom, digitVal, if_pos hd]
                  congr 1; omega⟩
                have HN2 : Aside (10 * n + (s[i].toNat - 48) < 10000000000) := ⟨by
                  have := decFrom_bound _ _ _ HD2.out
                  have h3 : (s.data.toList.take (i + 1)).length ≤ 10 := by rw [List.length_take]; omega
                  have h4 : 10 ^ (s.data.toList.take (i + 1)).length ≤ 10 ^ 10 := Nat.pow_le_pow_right (by decide) h3
                  omega⟩
                obtain ⟨d1, d2⟩ := hd
                have hn := HN.out
                have HV : Aside (Value.int .i64 (10 * (n : Int) + ((s[i].toNat : Int) - 48)) = .int .i64 ((10 * n + (s[i].toNat - 48) : Nat) : Int)) := ⟨by congr 1; omega⟩
                go_wp2
                go_roundg (s.size - (i + 1))
                case measure => have := HI.out; omega
                case rel => exact ⟨i + 1, 10 * n + (s[i].toNat - 48), ⟨by have := HI.out; omega⟩, HV.out, by go_num, HD2, HN2, ⟨⟨_, rfl⟩⟩⟩
              · have HP : Aside (numZ s.data.toList = -1) := ⟨HZ.out (decFrom_stop hil (by rw [HX.out]; unfold digitVal; rw [if_neg hd]))⟩
                have hd2 : s[i].toNat < 48 ∨ (¬ s[i].toNat < 48 ∧ 57 < s[i].toNat) := by omega
                rcases hd2 with d1 | ⟨d0, d1⟩
                · have g1 : decide ((s[i].toNat : Int) < 48) = true := decide_eq_true (by omega)
                  clear hd
                  go_wp2
                  go_ret
                  exact ⟨reti HP.out, ⟨⟨_, rfl⟩⟩⟩
                · have g1 : decide ((s[i].toNat : Int) < 48) = false := decide_eq_false (by omega)
                  have g2 : decide ((57 : Int) < (s[i].toNat : Int)) = true := decide_eq_true (by omega)
                  clear hd
                  go_wp2
                  go_ret
                  exact ⟨reti HP.out, ⟨⟨_, rfl⟩⟩⟩
            · have hie : i = s.size := by have := HI.out; omega
              have hfull : decFrom 0 s.data.toList = some n := by
                have := HD.out
                rw [List.take_of_length_le (by rw [HL.out]; omega)] at this
                exact this
              have HF := Aside.mk (HH.out n hfull)
              clear hfull
              replace hi : s.size ≤ i := by omega
              clear hie
              by_cases hn : n ≤ 2147483647
              · rw [if_pos hn] at HF
                go_wp2
                go_ret
                exact ⟨reti HF.out, ⟨⟨_, rfl⟩⟩⟩
              · rw [if_neg hn] at HF
                replace hn : 2147483647 < n := by omega
                go_wp2
                go_ret
                exact ⟨reti HF.out, ⟨⟨_, rfl⟩⟩⟩
        · go_enter Tryz.func72, Tryz.ntmps72
          go_wp2
          go_loopg [3, 4] s.size (fun kq v3 v4 wr => ∃ (i n : Nat), Aside (i + kq = s.size) ∧ v3 = .int .i64 n ∧ v4 = .int .i64 i ∧ Aside (decFrom 0 (s.data.toList.take i) = some n) ∧ Aside (n < 10000000000) ∧ Same w wr)
          case atStart => exact ⟨0, 0, ⟨by omega⟩, rfl, rfl, ⟨rfl⟩, ⟨by decide⟩, Same.refl _⟩
          case round =>
            obtain ⟨i, n, HI, rfl, rfl, HD, HN, ⟨⟨q, rfl⟩⟩⟩ := hrel
            by_cases hi : i < s.size
            · have hil : i < s.data.toList.length := by rw [HL.out]; exact hi
              have HX : Aside (s.data.toList[i] = s[i]) := ⟨byte_at hi⟩
              by_cases hd : 48 ≤ s[i].toNat ∧ s[i].toNat ≤ 57
              · have HD2 : Aside (decFrom 0 (s.data.toList.take (i + 1)) = some (10 * n + (s[i].toNat - 48))) := ⟨by
                  rw [take_snoc' hil, decFrom_append, HD.out, HX.out]
                  simp only [Option.bind_some, decFrom, digitVal, if_pos hd]
                  congr 1; omega⟩
                have HN2 : Aside (10 * n + (s[i].toNat - 48) < 10000000000) := ⟨by
                  have := decFrom_bound _ _ _ HD2.out
                  have h3 : (s.data.toList.take (i + 1)).length ≤ 10 := by rw [List.length_take]; omega
                  have h4 : 10 ^ (s.data.toList.take (i + 1)).length ≤ 10 ^ 10 := Nat.pow_le_pow_right (by decide) h3
                  omega⟩
                obtain ⟨d1, d2⟩ := hd
                have hn := HN.out
                have HV : Aside (Value.int .i64 (10 * (n : Int) + ((s[i].toNat : Int) - 48)) = .int .i64 ((10 * n + (s[i].toNat - 48) : Nat) : Int)) := ⟨by congr 1; omega⟩
                go_wp2
                go_roundg (s.size - (i + 1))
                case measure => have := HI.out; omega
                case rel => exact ⟨i + 1, 10 * n + (s[i].toNat - 48), ⟨by have := HI.out; omega⟩, HV.out, by go_num, HD2, HN2, ⟨⟨_, rfl⟩⟩⟩
              · have HP : Aside (numZ s.data.toList = -1) := ⟨HZ.out (decFrom_stop hil (by rw [HX.out]; unfold digitVal; rw [if_neg hd]))⟩
                have hd2 : s[i].toNat < 48 ∨ (¬ s[i].toNat < 48 ∧ 57 < s[i].toNat) := by omega
                rcases hd2 with d1 | ⟨d0, d1⟩
                · have g1 : decide ((s[i].toNat : Int) < 48) = true := decide_eq_true (by omega)
                  clear hd
                  go_wp2
                  go_ret
                  exact ⟨reti HP.out, ⟨⟨_, rfl⟩⟩⟩
                · have g1 : decide ((s[i].toNat : Int) < 48) = false := decide_eq_false (by omega)
                  have g2 : decide ((57 : Int) < (s[i].toNat : Int)) = true := decide_eq_true (by omega)
                  clear hd
                  go_wp2
                  go_ret
                  exact ⟨reti HP.out, ⟨⟨_, rfl⟩⟩⟩
            · have hie : i = s.size := by have := HI.out; omega
              have hfull : decFrom 0 s.data.toList = some n := by
                have := HD.out
                rw [List.take_of_length_le (by rw [HL.out]; omega)] at this
                exact this
              have HF := Aside.mk (HH.out n hfull)
              clear hfull
              replace hi : s.size ≤ i := by omega
              clear hie
              by_cases hn : n ≤ 2147483647
              · rw [if_pos hn] at HF
                go_wp2
                go_ret
                exact ⟨reti HF.out, ⟨⟨_, rfl⟩⟩⟩
              · rw [if_neg hn] at HF
                replace hn : 2147483647 < n := by omega
                go_wp2
                go_ret
                exact ⟨reti HF.out, ⟨⟨_, rfl⟩⟩⟩
end
section
open Go.RowKit Go.Lib
/-- A text as a value. -/
def strV (l : List UInt8) : Value := .string ⟨l.toArray⟩
theorem strV_of (s : ByteArray) : strV s.data.toList = .string s := by simp [strV]
/-- What stands between the points. -/
def split46 : List UInt8 → List (List UInt8)
  | [] => [[]]
  | c :: cs => if c = 46 then [] :: split46 cs else match split46 cs with
    | [] => [[c]]
    | p :: ps => (c :: p) :: ps
theorem split46_ne : ∀ l, split46 l ≠ []
  | [] => by simp [split46]
  | c :: cs => by
    rw [split46]
    split
    · simp
    · split <;> simp
/-- cur stands ahead of the first part. -/
def withHead (cur : List UInt8) : List (List UInt8) → List (List UInt8)
  | [] => [cur]
  | p :: ps => (cur ++ p) :: ps
theorem withHead_nil (l : List UInt8) : withHead [] (split46 l) = split46 l := by
  cases h : split46 l with
  | nil => exact absurd h (split46_ne l)
  | cons p ps => rfl
theorem withHead_step (cur : List UInt8) (c : UInt8) (cs : List UInt8) (hc : c ≠ 46) : withHead cur (split46 (c :: cs)) = withHead (cur ++ [c]) (split46 cs) := by
  rw [split46, if_neg hc]
  cases h : split46 cs with
  | nil => exact absurd h (split46_ne cs)
  | cons p ps => simp [withHead]
theorem withHead_point (cur : List UInt8) (cs : List UInt8) : withHead cur (split46 (46 :: cs)) = cur :: split46 cs := by
  rw [split46, if_pos rfl]
  simp [withHead]
def strs (l : List (List UInt8)) : List Value := l.map strV
theorem strs_snoc (l : List (List UInt8)) (x : List UInt8) : strs (l ++ [x]) = strs l ++ [strV x] := by simp [strs]
theorem extract_strV {s : ByteArray} {a b : Nat} : Value.string (s.extract a b) = strV ((s.data.toList.take b).drop a) := by
  unfold strV
  congr 1
  apply ByteArray.ext
  apply Array.ext'
  rw [ByteArray.data_extract, Array.toList_extract, List.extract_eq_take_drop, List.drop_take]
theorem Tryz.infoStr : (Tryz.prog.info? 9).map (fun i => (i.zero, i.size, i.bytes)) = some (some (.string ByteArray.empty), 1, 16) := by kernel_rfl
def PartsPost (w : World) (l : List UInt8) (e : Ending) (w' : World) : Prop := ∃ v, e = .returned v ∧ w'.ownsRow w.heap.size 9 1 v (split46 l).length (strs (split46 l)) ∧ Below w.heap.size w w'
set_option maxHeartbeats 2000000 in
set_option maxRecDepth 100000 in
theorem parts_any {w : World} (s : ByteArray) (hs : s.size ≤ 4096) : Calls Tryz.prog 41 #[.string s] w (PartsPost w s.data.toList) := by
  have hlen : s.data.toList.length = s.size := by simp
  have HL := Aside.mk hlen
  have HR0 := Aside.mk (World.ownsRow_nil w w.heap.size 9 1)
  have HB0 := Aside.mk (Below.refl w.heap.size w)
  clear hlen
  go_enter Tryz.func41, Tryz.ntmps41
  go_wp2
  go_loopg [3, 4, 5] (s.size + 1) (fun kq v3 v4 v5 wr => ∃ (i fr : Nat) (P : List (List UInt8)), Aside (i + kq = s.size + 1) ∧ v4 = .int .i64 fr ∧ v5 = .int .i64 i ∧ Aside (Below w.heap.size w wr) ∧ Aside (wr.ownsRow w.heap.size 9 1 v3 P.length (strs P)) ∧ Aside (P.length ≤ i ∧ fr ≤ i) ∧
    Aside ((i ≤ s.size → split46 s.data.toList = P ++ withHead ((s.data.toList.take i).drop fr) (split46 (s.data.toList.drop i))) ∧ (i = s.size + 1 → split46 s.data.toList = P)))
  case atStart => exact ⟨0, 0, [], ⟨by omega⟩, rfl, rfl, HB0, HR0, ⟨by simp⟩, ⟨fun _ => by simp [withHead_nil], fun h => by omega⟩⟩
  case round =>
    clear HR0 HB0
    obtain ⟨i, fr, P, HI, rfl, rfl, HB, HR, HP, HV⟩ := hrel
    have hfr := HP.out.2
    have HPl : Aside (P.length ≤ 16777216) := ⟨by have := HP.out.1; have := HI.out; omega⟩
    by_cases hi : i ≤ s.size
    · have hv := HV.out.1 hi
      have hcap : Aside ((i = s.size ∨ (∃ h : i < s.size, s[i] = 46)) → ∀ (wx : World) (v : Value), wx.ownsRow w.heap.size 9 1 v (P.length + 1) (strs P ++ [.string (s.extract fr i)]) →
          wx.ownsRow w.heap.size 9 1 v (P ++ [(s.data.toList.take i).drop fr]).length (strs (P ++ [(s.data.toList.take i).drop fr])) ∧ (P ++ [(s.data.toList.take i).drop fr]).length ≤ i + 1 ∧
          ((i + 1 ≤ s.size → split46 s.data.toList = (P ++ [(s.data.toList.take i).drop fr]) ++ withHead ((s.data.toList.take (i + 1)).drop (i + 1)) (split46 (s.data.toList.drop (i + 1)))) ∧ (i + 1 = s.size + 1 → split46 s.data.toList = P ++ [(s.data.toList.take i).drop fr]))) := ⟨fun hc wx v hown => by
        refine ⟨by rw [strs_snoc, ← extract_strV, List.length_append]; exact hown, by have := HP.out.1; simp; omega, fun h1 => ?_, fun h1 => ?_⟩
        · rcases hc with hc | ⟨hlt, hc⟩
          · omega
          · have hil : i < s.data.toList.length := by rw [HL.out]; exact hlt
            rw [hv, List.drop_eq_getElem_cons hil, byte_at hlt, hc, withHead_point]
            have : (s.data.toList.take (i + 1)).drop (i + 1) = [] := List.drop_eq_nil_of_le (by rw [List.length_take]; omega)
            rw [this, withHead_nil]
            simp
        · have : i = s.size := by omega
          subst this
          have e2 : s.data.toList.drop s.size = [] := List.drop_eq_nil_of_le (by rw [HL.out]; exact Nat.le_refl _)
          rw [hv, e2]
          simp [split46, withHead]⟩
      by_cases he : i = s.size
      · have HC := Aside.mk (hcap.out (.inl he))
        obtain ⟨e1, e2, e3, e4⟩ := natEq he
        have HE := Aside.mk he
        have hfs : fr ≤ s.size := by omega
        clear hv hcap he HV
        go_wp2_with (at_builtin; go_must (refine app_one w.heap.size rfl _ _ 22 9 (.string ByteArray.empty) 1 16 rfl Tryz.underlying22 Tryz.infoStr rfl (by decide) (by decide) u3 P.length _ [.string (s.extract fr i)] rfl rfl rfl (by simp [Value.oneCell']) HR.out HB.out.size (by have := HPl.out; omega) ?_; intro v1 w6 hown hg6 hat; have HB6 := Aside.mk (HB.out.grown hg6 HB.out.size fun q e => (HR.out.lt q e).1); obtain ⟨hO6, hP6, hV6⟩ := HC.out w6 v1 hown; have HO6 := Aside.mk hO6; have HP6 := Aside.mk hP6; have HV6 := Aside.mk hV6; clear hown hg6 hat hO6 hP6 hV6))
        go_roundg (s.size + 1 - (i + 1))
        case measure => have := HI.out; omega
        case rel => exact ⟨i + 1, i + 1, P ++ [(s.data.toList.take i).drop fr], ⟨by have := HI.out; omega⟩, by go_num, by go_num, HB6, HO6, ⟨HP6.out, Nat.le_refl _⟩, HV6⟩
      · have hlt : i < s.size := by omega
        have hil : i < s.data.toList.length := by rw [HL.out]; exact hlt
        have e1 : ((i : Int) == (s.size : Int)) = false := beq_false_of_ne (by omega)
        have e2 : (i == s.size) = false := beq_false_of_ne he
        have HX : Aside (s.data.toList[i] = s[i]) := ⟨byte_at hlt⟩
        by_cases h46 : s[i] = 46
        · have HC := Aside.mk (hcap.out (.inr ⟨hlt, h46⟩))
          have e3 : ((s[i].toNat : Int) == 46) = true := by rw [h46]; rfl
          have e4 : (s[i].toNat == 46) = true := by rw [h46]; rfl
          clear hv hcap he HV h46 HX
          go_wp2_with (at_builtin; go_must (refine app_one w.heap.size rfl _ _ 22 9 (.string ByteArray.empty) 1 16 rfl Tryz.underlying22 Tryz.infoStr rfl (by decide) (by decide) u3 P.length _ [.string (s.extract fr i)] rfl rfl rfl (by simp [Value.oneCell']) HR.out HB.out.size (by have := HPl.out; omega) ?_; intro v1 w6 hown hg6 hat; have HB6 := Aside.mk (HB.out.grown hg6 HB.out.size fun q e => (HR.out.lt q e).1); obtain ⟨hO6, hP6, hV6⟩ := HC.out w6 v1 hown; have HO6 := Aside.mk hO6; have HP6 := Aside.mk hP6; have HV6 := Aside.mk hV6; clear hown hg6 hat hO6 hP6 hV6))
          go_roundg (s.size + 1 - (i + 1))
          case measure => have := HI.out; omega
          case rel => exact ⟨i + 1, i + 1, P ++ [(s.data.toList.take i).drop fr], ⟨by have := HI.out; omega⟩, by go_num, by go_num, HB6, HO6, ⟨HP6.out, Nat.le_refl _⟩, HV6⟩
        · have h46n : s[i].toNat ≠ 46 := fun e => h46 (UInt8.toNat_inj.1 e)
          have e3 : ((s[i].toNat : Int) == 46) = false := beq_false_of_ne (by omega)
          have e4 : (s[i].toNat == 46) = false := beq_false_of_ne h46n
          have HV6 : Aside ((i + 1 ≤ s.size → split46 s.data.toList = P ++ withHead ((s.data.toList.take (i + 1)).drop fr) (split46 (s.data.toList.drop (i + 1)))) ∧ (i + 1 = s.size + 1 → split46 s.data.toList = P)) := ⟨fun _ => by
            rw [hv, List.drop_eq_getElem_cons hil, withHead_step _ _ _ (by rw [HX.out]; exact h46), take_snoc' hil, List.drop_append_of_le_length (by rw [List.length_take]; omega)], fun h => by omega⟩
          clear hv hcap he HV h46 HX h46n
          go_wp2
          go_roundg (s.size + 1 - (i + 1))
          case measure => have := HI.out; omega
          case rel => exact ⟨i + 1, fr, P, ⟨by have := HI.out; omega⟩, rfl, by go_num, HB, HR, ⟨by have := HP.out.1; omega, by omega⟩, HV6⟩
    · have hie : i = s.size + 1 := by have := HI.out; omega
      have hv := HV.out.2 hie
      have HF : Aside (PartsPost w s.data.toList (.returned u3) wr) := ⟨_, rfl, by rw [hv]; exact HR.out, HB.out⟩
      replace hi : s.size < i := by omega
      clear hv hie HV
      go_wp2
      go_ret
      exact HF.out
end
section
open Go.RowKit Go.Lib
def kstr : Kind (List UInt8) := flat 1 (fun x => [strV x]) (fun _ => rfl) (by simp [Value.oneCell', strV])
theorem Sl.str {w : World} {ok : Nat → Prop} {A : Option Addr} {n c : Nat} {xs : List (List UInt8)} (h : Sl kstr w ok (.slice A n c) xs) (i : Nat) (hi : i < xs.length) : ∃ b o, A = some ⟨b, o, none⟩ ∧ w.cell? ⟨b, o + i, none⟩ = some (.string ⟨xs[i].toArray⟩) := by
  obtain ⟨b, o, cs, e, _, _, rfl, q⟩ := h.at i hi
  exact ⟨b, o, e, by simpa [kstr, flat, strV] using q 0 _ rfl⟩
theorem own_strs {w : World} {B : Nat} {v : Value} {xs : List (List UInt8)} (h : w.ownsRow B 9 1 v xs.length (strs xs)) : Own kstr 9 w B v xs := by
  refine ⟨strs xs, h, fun i x hx => ?_⟩
  show ((strs xs).drop (i * 1)).take 1 = [strV x]
  refine List.ext_getElem? fun j => ?_
  rw [List.getElem?_take]
  rcases j with _ | j
  · simp [strs, hx]
  · simp
def allNum (l : List (List UInt8)) : Bool := l.all fun p => (numF p).isSome
theorem numZ_neg {l : List UInt8} : decide (numZ l < 0) = !(numF l).isSome := by
  unfold numZ
  cases numF l with
  | none => rfl
  | some n => simp
set_option maxHeartbeats 2000000 in
set_option maxRecDepth 100000 in
theorem numbers_any {w : World} {ok : Nat → Prop} {v : Value} {xs : List (List UInt8)} (hs : Sl kstr w ok v xs) : Calls Tryz.prog 42 #[v] w fun e w' => e = .returned (.bool (allNum xs)) ∧ Same w w' := by
  obtain ⟨A, c, rfl, hc, hm⟩ := hs.slice
  have HS := Aside.mk hs
  clear hs
  go_enter Tryz.func42, Tryz.ntmps42
  go_wp2
  go_loopg [3] xs.length (fun kq v3 wr => ∃ (i : Nat), Aside (i + kq = xs.length) ∧ v3 = .int .i64 i ∧ Aside (allNum (xs.take i) = true) ∧ Same w wr)
  case atStart => exact ⟨0, ⟨by omega⟩, rfl, ⟨rfl⟩, Same.refl _⟩
  case round =>
    obtain ⟨i, HI, rfl, HA, ⟨⟨q, rfl⟩⟩⟩ := hrel
    by_cases hi : i < xs.length
    · obtain ⟨b, o, e, k0⟩ := HS.out.str i hi
      cases e
      have hcall := Aside.mk fun n => Number_any (w := w.drewN n) ⟨xs[i].toArray⟩
      have HM : Aside (xs.length - (i + 1) < gk ∧ i + 1 + (xs.length - (i + 1)) = xs.length) := ⟨by have := HI.out; omega⟩
      have HT : Aside (allNum (xs.take (i + 1)) = (numF xs[i]).isSome) := ⟨by rw [take_snoc' hi]; unfold allNum at HA ⊢; rw [List.all_append, HA.out]; simp⟩
      have HF : Aside ((numF xs[i]).isSome = false → allNum xs = false) := ⟨fun h => by
        unfold allNum
        rw [List.all_eq_false]
        exact ⟨xs[i], List.getElem_mem hi, by rw [h]; decide⟩⟩
      obtain ⟨z, hz⟩ : ∃ z, z = numZ xs[i] := ⟨_, rfl⟩
      have HZ : Aside (decide (z < 0) = !(numF xs[i]).isSome) := ⟨by rw [hz]; exact numZ_neg⟩
      have HW : Aside (numZ xs[i] = z) := ⟨hz.symm⟩
      clear hz
      generalize xs[i] = x at *
      go_wp2_with fail
      refine (hcall.out _).mono ?_
      rintro e w1 ⟨rfl, ⟨⟨n, rfl⟩⟩⟩
      rw [World.drewN_drewN, show numZ (⟨x.toArray⟩ : ByteArray).data.toList = z from HW.out]
      cases hx : (numF x).isSome with
      | true =>
        have hz : decide (z < 0) = false := by rw [HZ.out, hx]; rfl
        rw [hx] at HT
        clear hx hcall HZ HF HW
        go_wp2
        go_roundg (xs.length - (i + 1))
        case measure => exact HM.out.1
        case rel => exact ⟨i + 1, ⟨HM.out.2⟩, by go_num, HT, ⟨⟨_, rfl⟩⟩⟩
      | false =>
        have hz : decide (z < 0) = true := by rw [HZ.out, hx]; rfl
        have HP := Aside.mk (HF.out hx)
        clear hx hcall HZ HF HW HT
        go_wp2
        go_ret
        exact ⟨retb HP.out, ⟨⟨_, rfl⟩⟩⟩
    · have ht : xs.take i = xs := List.take_of_length_le (by omega)
      rw [ht] at HA
      replace hi : xs.length ≤ i := by omega
      clear ht
      go_wp2
      go_ret
      exact ⟨retb HA.out, ⟨⟨_, rfl⟩⟩⟩
/-- Are two texts the same? -/
theorem str_beq {a b : List UInt8} : ((⟨a.toArray⟩ : ByteArray) == ⟨b.toArray⟩) = decide (a = b) := by
  have key : ((⟨a.toArray⟩ : ByteArray) == ⟨b.toArray⟩) = true ↔ a = b := by
    show (a.toArray == b.toArray) = true ↔ a = b
    rw [beq_iff_eq]
    simp
  by_cases h : a = b
  · rw [decide_eq_true h]; exact key.2 h
  · rw [decide_eq_false h]
    exact Bool.eq_false_iff.2 fun e => h (key.1 e)
def standsB (l : List (List UInt8)) (x : List UInt8) : Bool := l.any fun y => decide (y = x)
set_option maxHeartbeats 2000000 in
set_option maxRecDepth 100000 in
theorem stands_any {w : World} {ok : Nat → Prop} {v : Value} {xs : List (List UInt8)} {y : List UInt8} (hs : Sl kstr w ok v xs) : Calls Tryz.prog 76 #[v, strV y] w fun e w' => e = .returned (.bool (standsB xs y)) ∧ Same w w' := by
  obtain ⟨A, c, rfl, hc, hm⟩ := hs.slice
  have HS := Aside.mk hs
  clear hs
  unfold strV
  go_enter Tryz.func76, Tryz.ntmps76
  go_wp2
  go_loopg [5] xs.length (fun kq v3 wr => ∃ (i : Nat), Aside (i + kq = xs.length) ∧ v3 = .int .i64 i ∧ Aside (standsB (xs.take i) y = false) ∧ Same w wr)
  case atStart => exact ⟨0, ⟨by omega⟩, rfl, ⟨rfl⟩, Same.refl _⟩
  case round =>
    obtain ⟨i, HI, rfl, HA, ⟨⟨q, rfl⟩⟩⟩ := hrel
    by_cases hi : i < xs.length
    · obtain ⟨b, o, e, k0⟩ := HS.out.str i hi
      cases e
      have HM : Aside (xs.length - (i + 1) < gk ∧ i + 1 + (xs.length - (i + 1)) = xs.length) := ⟨by have := HI.out; omega⟩
      by_cases hx : xs[i] = y
      · have HP : Aside (standsB xs y = true) := ⟨by unfold standsB; rw [List.any_eq_true]; exact ⟨xs[i], List.getElem_mem hi, by simpa using hx⟩⟩
        have hb : (xs[i] == y) = true := by simpa using hx
        generalize xs[i] = x at *
        clear hx
        go_wp2
        go_ret
        exact ⟨retb HP.out, ⟨⟨_, rfl⟩⟩⟩
      · have HP : Aside (standsB (xs.take (i + 1)) y = false) := ⟨by rw [take_snoc' hi]; unfold standsB at HA ⊢; rw [List.any_append, HA.out]; simpa using hx⟩
        have hb : (xs[i] == y) = false := by simpa using hx
        generalize xs[i] = x at *
        clear hx
        go_wp2
        go_roundg (xs.length - (i + 1))
        case measure => exact HM.out.1
        case rel => exact ⟨i + 1, ⟨HM.out.2⟩, by go_num, HP, ⟨⟨_, rfl⟩⟩⟩
    · have ht : xs.take i = xs := List.take_of_length_le (by omega)
      rw [ht] at HA
      replace hi : xs.length ≤ i := by omega
      clear ht
      go_wp2
      go_ret
      exact ⟨retb HA.out, ⟨⟨_, rfl⟩⟩⟩
end
end Go.Proofs.YtgbladpoglhleaaGreatDoor
