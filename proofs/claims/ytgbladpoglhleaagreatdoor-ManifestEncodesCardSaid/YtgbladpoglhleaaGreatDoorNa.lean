/- The document's numbers in names, walked. No condition. -/
import Derived.Test.YtgbladpoglhleaaGreatDoorB
import Derived.Test.YtgbladpoglhleaaGreatDoorSn
namespace Go.Proofs.YtgbladpoglhleaaGreatDoor
open Go.RowKit Go.Lib
def numZ (l : List UInt8) : Int := match numF l with
  | some n => n
  | none => -1
theorem take_snoc' {α : Type} {xs : List α} {i : Nat} (hi : i < xs.length) : xs.take (i + 1) = xs.take i ++ [xs[i]] := by
  rw [List.take_add_one, List.getElem?_eq_getElem hi]
  rfl
theorem numZ_none {l : List UInt8} (h : l = [] ∨ 10 < l.length ∨ (1 < l.length ∧ l.head? = some 48)) : numZ l = -1 := by unfold numZ numF; rw [if_pos h]
theorem decFrom_bound : ∀ (l : List UInt8) (acc n : Nat), decFrom acc l = some n → n < (acc + 1) * 10 ^ l.length
  | [], acc, n, h => by simp only [decFrom, Option.some.injEq] at h; subst h; simp
  | x :: xs, acc, n, h => by
    simp only [decFrom] at h
    cases hd : digitVal x with
    | none => simp [hd] at h
    | some d =>
      simp only [hd] at h
      have := decFrom_bound xs _ n h
      have hd2 := (digitVal_lt hd).1
      have h1 : acc * 10 + d + 1 ≤ (acc + 1) * 10 := by omega
      calc n < (acc * 10 + d + 1) * 10 ^ xs.length := this
        _ ≤ ((acc + 1) * 10) * 10 ^ xs.length := Nat.mul_le_mul_right _ h1
        _ = (acc + 1) * 10 ^ (x :: xs).length := by rw [List.length_cons, Nat.pow_succ, Nat.mul_assoc, Nat.mul_comm 10]
theorem decFrom_stop {l : List UInt8} {i : Nat} (hi : i < l.length) (h : digitVal l[i] = none) : decFrom 0 l = none := by
  rw [show l = l.take i ++ l[i] :: l.drop (i + 1) by rw [← List.drop_eq_getElem_cons hi, List.take_append_drop], decFrom_append]
  cases decFrom 0 (l.take i) with
  | none => rfl
  | some m => simp [decFrom, h]
theorem byte_at {s : ByteArray} {i : Nat} (h : i < s.size) : s.data.toList[i]'(by simpa using h) = s[i] := by
  simp [ByteArray.getElem_eq_getElem_data]
set_option maxHeartbeats 2000000 in
set_option maxRecDepth 100000 in
theorem Number_any {w : World} (s : ByteArray) : Calls Tryz.prog 72 #[.string s] w fun e w' => e = .returned (.int .i64 (numZ s.data.toList)) ∧ Same w w' := by
  have hlen : s.data.toList.length = s.size := by simp
  by_cases h0 : s.size = 0
  · have HP : Aside (numZ s.data.toList = -1) := ⟨numZ_none (.inl (List.eq_nil_of_length_eq_zero (by omega)))⟩
    obtain ⟨f1, f2, f3, f4⟩ := natEq h0
    clear hlen
    go_enter Tryz.func72, Tryz.ntmps72
    go_wp2
    go_ret
    exact ⟨reti HP.out, Same.refl _⟩
  · by_cases h1 : 10 < s.size
    · have HP : Aside (numZ s.data.toList = -1) := ⟨numZ_none (.inr (.inl (by omega)))⟩
      have f1 : ((s.size : Int) == 0) = false := beq_false_of_ne (by omega)
      have f2 : decide ((10 : Int) < (s.size : Int)) = true := decide_eq_true (by omega)
      clear hlen h0
      go_enter Tryz.func72, Tryz.ntmps72
      go_wp2
      go_ret
      exact ⟨reti HP.out, Same.refl _⟩
    · have f1 : ((s.size : Int) == 0) = false := beq_false_of_ne (by omega)
      have f2 : decide ((10 : Int) < (s.size : Int)) = false := decide_eq_false (by omega)
      have hpos : 0 < s.size := by omega
      by_cases h2 : 1 < s.size ∧ s[0] = 48
      · obtain ⟨h2, h3⟩ := h2
        have HP : Aside (numZ s.data.toList = -1) := ⟨numZ_none (.inr (.inr ⟨by omega, by
          rw [List.head?_eq_getElem?, List.getElem?_eq_getElem (by omega), byte_at hpos, h3]⟩))⟩
        have f3 : decide ((1 : Int) < (s.size : Int)) = true := decide_eq_true (by omega)
        have f4 : ((s[0].toNat : Int) == 48) = true := by rw [h3]; rfl
        have f5 : (s[0].toNat == 48) = true := by rw [h3]; rfl
        clear hlen h0 h3
        go_enter Tryz.func72, Tryz.ntmps72
        go_wp2
        go_ret
        exact ⟨reti HP.out, Same.refl _⟩
      · have hh : decide ((1 : Int) < (s.size : Int)) = false ∨ (decide ((1 : Int) < (s.size : Int)) = true ∧ ((s[0].toNat : Int) == 48) = false ∧ (s[0].toNat == 48) = false) := by
          by_cases h3 : 1 < s.size
          · have h4 : s[0].toNat ≠ 48 := fun e => h2 ⟨h3, UInt8.toNat_inj.1 e⟩
            exact .inr ⟨decide_eq_true (by omega), beq_false_of_ne (by omega), beq_false_of_ne h4⟩
          · exact .inl (decide_eq_false (by omega))
        have HL : Aside (s.data.toList.length = s.size) := ⟨hlen⟩
        have HH : Aside (∀ n, decFrom 0 s.data.toList = some n → numZ s.data.toList = if n ≤ 2147483647 then (n : Int) else -1) := ⟨fun n hn => by
          unfold numZ numF
          rw [if_neg, hn]
          · by_cases hm : n ≤ 2147483647 <;> simp [hm]
          · rintro (e | e | ⟨e1, e2⟩)
            · exact h0 (by rw [← hlen, e]; rfl)
            · omega
            · rw [List.head?_eq_getElem?, List.getElem?_eq_getElem (by omega), byte_at hpos, Option.some.injEq] at e2
              exact h2 ⟨by omega, e2⟩⟩
        have HZ : Aside (decFrom 0 s.data.toList = none → numZ s.data.toList = -1) := ⟨fun hn => by
          unfold numZ numF
          split
          · rename_i m hm
            split at hm
            · cases hm
            · rw [hn] at hm; cases hm
          · rfl⟩
        have H10 : s.size ≤ 10 := by omega
        clear hlen h0 h1 h2
        rcases hh with f3 | ⟨f3, f4, f5⟩
        · go_enter Tryz.func72, Tryz.ntmps72
          go_wp2
          go_loopg [3, 4] s.size (fun kq v3 v4 wr => ∃ (i n : Nat), Aside (i + kq = s.size) ∧ v3 = .int .i64 n ∧ v4 = .int .i64 i ∧ Aside (decFrom 0 (s.data.toList.take i) = some n) ∧ Aside (n < 10000000000) ∧ Same w wr)
          case atStart => exact ⟨0, 0, ⟨by omega⟩, rfl, rfl, ⟨rfl⟩, ⟨by decide⟩, Same.refl _⟩
          case round =>
            obtain ⟨i, n, HI, rfl, rfl, HD, HN, ⟨⟨q, rfl⟩⟩⟩ := hrel
            by_cases hi : i < s.size
            · have hil : i < s.data.toList.length := by rw [HL.out]; exact hi
              have HX : Aside (s.data.toList[i] = s[i]) := ⟨byte_at hi⟩
              by_cases hd : 48 ≤ s[i].toNat ∧ s[i].toNat ≤ 57
              · have HD2 : Aside (decFrom 0 (s.data.toList.take (i + 1)) = some (10 * n + (s[i].toNat - 48))) := ⟨by
                  rw [take_snoc' hil, decFrom_append, HD.out, HX.out]
                  simp only [Option.bind_some, decFrom, digitVal, if_pos hd]
                  congr 1; omega⟩
                have HN2 : Aside (10 * n + (s[i].toNat - 48) < 10000000000) := ⟨by
                  have := decFrom_bound _ _ _ HD2.out
                  have h3 : (s.data.toList.take (i + 1)).length ≤ 10 := by rw [List.length_take]; omega
                  have h4 : 10 ^ (s.data.toList.take (i + 1)).length ≤ 10 ^ 10 := Nat.pow_le_pow_right (by decide) h3
                  omega⟩
                obtain ⟨d1, d2⟩ := hd
                have hn := HN.out
                have HV : Aside (Value.int .i64 (10 * (n : Int) + ((s[i].toNat : Int) - 48)) = .int .i64 ((10 * n + (s[i].toNat - 48) : Nat) : Int)) := ⟨by congr 1; omega⟩
                go_wp2
                go_roundg (s.size - (i + 1))
                case measure => have := HI.out; omega
                case rel => exact ⟨i + 1, 10 * n + (s[i].toNat - 48), ⟨by have := HI.out; omega⟩, HV.out, by go_num, HD2, HN2, ⟨⟨_, rfl⟩⟩⟩
              · have HP : Aside (numZ s.data.toList = -1) := ⟨HZ.out (decFrom_stop hil (by rw [HX.out]; unfold digitVal; rw [if_neg hd]))⟩
                have hd2 : s[i].toNat < 48 ∨ (¬ s[i].toNat < 48 ∧ 57 < s[i].toNat) := by omega
                rcases hd2 with d1 | ⟨d0, d1⟩
                · have g1 : decide ((s[i].toNat : Int) < 48) = true := decide_eq_true (by omega)
                  clear hd
                  go_wp2
                  go_ret
                  exact ⟨reti HP.out, ⟨⟨_, rfl⟩⟩⟩
                · have g1 : decide ((s[i].toNat : Int) < 48) = false := decide_eq_false (by omega)
                  have g2 : decide ((57 : Int) < (s[i].toNat : Int)) = true := decide_eq_true (by omega)
                  clear hd
                  go_wp2
                  go_ret
                  exact ⟨reti HP.out, ⟨⟨_, rfl⟩⟩⟩
            · have hie : i = s.size := by have := HI.out; omega
              have hfull : decFrom 0 s.data.toList = some n := by
                have := HD.out
                rw [List.take_of_length_le (by rw [HL.out]; omega)] at this
                exact this
              have HF := Aside.mk (HH.out n hfull)
              clear hfull
              replace hi : s.size ≤ i := by omega
              clear hie
              by_cases hn : n ≤ 2147483647
              · rw [if_pos hn] at HF
                go_wp2
                go_ret
                exact ⟨reti HF.out, ⟨⟨_, rfl⟩⟩⟩
              · rw [if_neg hn] at HF
                replace hn : 2147483647 < n := by omega
                go_wp2
                go_ret
                exact ⟨reti HF.out, ⟨⟨_, rfl⟩⟩⟩
        · go_enter Tryz.func72, Tryz.ntmps72
          go_wp2
          go_loopg [3, 4] s.size (fun kq v3 v4 wr => ∃ (i n : Nat), Aside (i + kq = s.size) ∧ v3 = .int .i64 n ∧ v4 = .int .i64 i ∧ Aside (decFrom 0 (s.data.toList.take i) = some n) ∧ Aside (n < 10000000000) ∧ Same w wr)
          case atStart => exact ⟨0, 0, ⟨by omega⟩, rfl, rfl, ⟨rfl⟩, ⟨by decide⟩, Same.refl _⟩
          case round =>
            obtain ⟨i, n, HI, rfl, rfl, HD, HN, ⟨⟨q, rfl⟩⟩⟩ := hrel
            by_cases hi : i < s.size
            · have hil : i < s.data.toList.length := by rw [HL.out]; exact hi
              have HX : Aside (s.data.toList[i] = s[i]) := ⟨byte_at hi⟩
              by_cases hd : 48 ≤ s[i].toNat ∧ s[i].toNat ≤ 57
              · have HD2 : Aside (decFrom 0 (s.data.toList.take (i + 1)) = some (10 * n + (s[i].toNat - 48))) := ⟨by
                  rw [take_snoc' hil, decFrom_append, HD.out, HX.out]
                  simp only [Option.bind_some, decFrom, digitVal, if_pos hd]
                  congr 1; omega⟩
                have HN2 : Aside (10 * n + (s[i].toNat - 48) < 10000000000) := ⟨by
                  have := decFrom_bound _ _ _ HD2.out
                  have h3 : (s.data.toList.take (i + 1)).length ≤ 10 := by rw [List.length_take]; omega
                  have h4 : 10 ^ (s.data.toList.take (i + 1)).length ≤ 10 ^ 10 := Nat.pow_le_pow_right (by decide) h3
                  omega⟩
                obtain ⟨d1, d2⟩ := hd
                have hn := HN.out
                have HV : Aside (Value.int .i64 (10 * (n : Int) + ((s[i].toNat : Int) - 48)) = .int .i64 ((10 * n + (s[i].toNat - 48) : Nat) : Int)) := ⟨by congr 1; omega⟩
                go_wp2
                go_roundg (s.size - (i + 1))
                case measure => have := HI.out; omega
                case rel => exact ⟨i + 1, 10 * n + (s[i].toNat - 48), ⟨by have := HI.out; omega⟩, HV.out, by go_num, HD2, HN2, ⟨⟨_, rfl⟩⟩⟩
              · have HP : Aside (numZ s.data.toList = -1) := ⟨HZ.out (decFrom_stop hil (by rw [HX.out]; unfold digitVal; rw [if_neg hd]))⟩
                have hd2 : s[i].toNat < 48 ∨ (¬ s[i].toNat < 48 ∧ 57 < s[i].toNat) := by omega
                rcases hd2 with d1 | ⟨d0, d1⟩
                · have g1 : decide ((s[i].toNat : Int) < 48) = true := decide_eq_true (by omega)
                  clear hd
                  go_wp2
                  go_ret
                  exact ⟨reti HP.out, ⟨⟨_, rfl⟩⟩⟩
                · have g1 : decide ((s[i].toNat : Int) < 48) = false := decide_eq_false (by omega)
                  have g2 : decide ((57 : Int) < (s[i].toNat : Int)) = true := decide_eq_true (by omega)
                  clear hd
                  go_wp2
                  go_ret
                  exact ⟨reti HP.out, ⟨⟨_, rfl⟩⟩⟩
            · have hie : i = s.size := by have := HI.out; omega
              have hfull : decFrom 0 s.data.toList = some n := by
                have := HD.out
                rw [List.take_of_length_le (by rw [HL.out]; omega)] at this
                exact this
              have HF := Aside.mk (HH.out n hfull)
              clear hfull
              replace hi : s.size ≤ i := by omega
              clear hie
              by_cases hn : n ≤ 2147483647
              · rw [if_pos hn] at HF
                go_wp2
                go_ret
                exact ⟨reti HF.out, ⟨⟨_, rfl⟩⟩⟩
              · rw [if_neg hn] at HF
                replace hn : 2147483647 < n := by omega
                go_wp2
                go_ret
                exact ⟨reti HF.out, ⟨⟨_, rfl⟩⟩⟩
end Go.Proofs.YtgbladpoglhleaaGreatDoor
