/- The document's numbers (all of a list), stands. No condition. -/
import Derived.Test.YtgbladpoglhleaaGreatDoorNm
namespace Go.Proofs.YtgbladpoglhleaaGreatDoor
open Go.RowKit Go.Lib
def kstr : Kind (List UInt8) := flat 1 (fun x => [strV x]) (fun _ => rfl) (by simp [Value.oneCell', strV])
theorem Sl.str {w : World} {ok : Nat → Prop} {A : Option Addr} {n c : Nat} {xs : List (List UInt8)} (h : Sl kstr w ok (.slice A n c) xs) (i : Nat) (hi : i < xs.length) : ∃ b o, A = some ⟨b, o, none⟩ ∧ w.cell? ⟨b, o + i, none⟩ = some (.string ⟨xs[i].toArray⟩) := by
  obtain ⟨b, o, cs, e, _, _, rfl, q⟩ := h.at i hi
  exact ⟨b, o, e, by simpa [kstr, flat, strV] using q 0 _ rfl⟩
theorem own_strs {w : World} {B : Nat} {v : Value} {xs : List (List UInt8)} (h : w.ownsRow B 9 1 v xs.length (strs xs)) : Own kstr 9 w B v xs := by
  refine ⟨strs xs, h, fun i x hx => ?_⟩
  show ((strs xs).drop (i * 1)).take 1 = [strV x]
  refine List.ext_getElem? fun j => ?_
  rw [List.getElem?_take]
  rcases j with _ | j
  · simp [strs, hx]
  · simp
def allNum (l : List (List UInt8)) : Bool := l.all fun p => (numF p).isSome
theorem numZ_neg {l : List UInt8} : decide (numZ l < 0) = !(numF l).isSome := by
  unfold numZ
  cases numF l with
  | none => rfl
  | some n => simp
set_option maxHeartbeats 2000000 in
set_option maxRecDepth 100000 in
theorem numbers_any {w : World} {ok : Nat → Prop} {v : Value} {xs : List (List UInt8)} (hs : Sl kstr w ok v xs) : Calls Tryz.prog 42 #[v] w fun e w' => e = .returned (.bool (allNum xs)) ∧ Same w w' := by
  obtain ⟨A, c, rfl, hc, hm⟩ := hs.slice
  have HS := Aside.mk hs
  clear hs
  go_enter Tryz.func42, Tryz.ntmps42
  go_wp2
  go_loopg [3] xs.length (fun kq v3 wr => ∃ (i : Nat), Aside (i + kq = xs.length) ∧ v3 = .int .i64 i ∧ Aside (allNum (xs.take i) = true) ∧ Same w wr)
  case atStart => exact ⟨0, ⟨by omega⟩, rfl, ⟨rfl⟩, Same.refl _⟩
  case round =>
    obtain ⟨i, HI, rfl, HA, ⟨⟨q, rfl⟩⟩⟩ := hrel
    by_cases hi : i < xs.length
    · obtain ⟨b, o, e, k0⟩ := HS.out.str i hi
      cases e
      have hcall := Aside.mk fun n => Number_any (w := w.drewN n) ⟨xs[i].toArray⟩
      have HM : Aside (xs.length - (i + 1) < gk ∧ i + 1 + (xs.length - (i + 1)) = xs.length) := ⟨by have := HI.out; omega⟩
      have HT : Aside (allNum (xs.take (i + 1)) = (numF xs[i]).isSome) := ⟨by rw [take_snoc' hi]; unfold allNum at HA ⊢; rw [List.all_append, HA.out]; simp⟩
      have HF : Aside ((numF xs[i]).isSome = false → allNum xs = false) := ⟨fun h => by
        unfold allNum
        rw [List.all_eq_false]
        exact ⟨xs[i], List.getElem_mem hi, by rw [h]; decide⟩⟩
      obtain ⟨z, hz⟩ : ∃ z, z = numZ xs[i] := ⟨_, rfl⟩
      have HZ : Aside (decide (z < 0) = !(numF xs[i]).isSome) := ⟨by rw [hz]; exact numZ_neg⟩
      have HW : Aside (numZ xs[i] = z) := ⟨hz.symm⟩
      clear hz
      generalize xs[i] = x at *
      go_wp2_with fail
      refine (hcall.out _).mono ?_
      rintro e w1 ⟨rfl, ⟨⟨n, rfl⟩⟩⟩
      rw [World.drewN_drewN, show numZ (⟨x.toArray⟩ : ByteArray).data.toList = z from HW.out]
      cases hx : (numF x).isSome with
      | true =>
        have hz : decide (z < 0) = false := by rw [HZ.out, hx]; rfl
        rw [hx] at HT
        clear hx hcall HZ HF HW
        go_wp2
        go_roundg (xs.length - (i + 1))
        case measure => exact HM.out.1
        case rel => exact ⟨i + 1, ⟨HM.out.2⟩, by go_num, HT, ⟨⟨_, rfl⟩⟩⟩
      | false =>
        have hz : decide (z < 0) = true := by rw [HZ.out, hx]; rfl
        have HP := Aside.mk (HF.out hx)
        clear hx hcall HZ HF HW HT
        go_wp2
        go_ret
        exact ⟨retb HP.out, ⟨⟨_, rfl⟩⟩⟩
    · have ht : xs.take i = xs := List.take_of_length_le (by omega)
      rw [ht] at HA
      replace hi : xs.length ≤ i := by omega
      clear ht
      go_wp2
      go_ret
      exact ⟨retb HA.out, ⟨⟨_, rfl⟩⟩⟩
/-- Are two texts the same? -/
theorem str_beq {a b : List UInt8} : ((⟨a.toArray⟩ : ByteArray) == ⟨b.toArray⟩) = decide (a = b) := by
  have key : ((⟨a.toArray⟩ : ByteArray) == ⟨b.toArray⟩) = true ↔ a = b := by
    show (a.toArray == b.toArray) = true ↔ a = b
    rw [beq_iff_eq]
    simp
  by_cases h : a = b
  · rw [decide_eq_true h]; exact key.2 h
  · rw [decide_eq_false h]
    exact Bool.eq_false_iff.2 fun e => h (key.1 e)
def standsB (l : List (List UInt8)) (x : List UInt8) : Bool := l.any fun y => decide (y = x)
set_option maxHeartbeats 2000000 in
set_option maxRecDepth 100000 in
theorem stands_any {w : World} {ok : Nat → Prop} {v : Value} {xs : List (List UInt8)} {y : List UInt8} (hs : Sl kstr w ok v xs) : Calls Tryz.prog 76 #[v, strV y] w fun e w' => e = .returned (.bool (standsB xs y)) ∧ Same w w' := by
  obtain ⟨A, c, rfl, hc, hm⟩ := hs.slice
  have HS := Aside.mk hs
  clear hs
  unfold strV
  go_enter Tryz.func76, Tryz.ntmps76
  go_wp2
  go_loopg [5] xs.length (fun kq v3 wr => ∃ (i : Nat), Aside (i + kq = xs.length) ∧ v3 = .int .i64 i ∧ Aside (standsB (xs.take i) y = false) ∧ Same w wr)
  case atStart => exact ⟨0, ⟨by omega⟩, rfl, ⟨rfl⟩, Same.refl _⟩
  case round =>
    obtain ⟨i, HI, rfl, HA, ⟨⟨q, rfl⟩⟩⟩ := hrel
    by_cases hi : i < xs.length
    · obtain ⟨b, o, e, k0⟩ := HS.out.str i hi
      cases e
      have HM : Aside (xs.length - (i + 1) < gk ∧ i + 1 + (xs.length - (i + 1)) = xs.length) := ⟨by have := HI.out; omega⟩
      by_cases hx : xs[i] = y
      · have HP : Aside (standsB xs y = true) := ⟨by unfold standsB; rw [List.any_eq_true]; exact ⟨xs[i], List.getElem_mem hi, by simpa using hx⟩⟩
        have hb : (xs[i] == y) = true := by simpa using hx
        generalize xs[i] = x at *
        clear hx
        go_wp2
        go_ret
        exact ⟨retb HP.out, ⟨⟨_, rfl⟩⟩⟩
      · have HP : Aside (standsB (xs.take (i + 1)) y = false) := ⟨by rw [take_snoc' hi]; unfold standsB at HA ⊢; rw [List.any_append, HA.out]; simpa using hx⟩
        have hb : (xs[i] == y) = false := by simpa using hx
        generalize xs[i] = x at *
        clear hx
        go_wp2
        go_roundg (xs.length - (i + 1))
        case measure => exact HM.out.1
        case rel => exact ⟨i + 1, ⟨HM.out.2⟩, by go_num, HP, ⟨⟨_, rfl⟩⟩⟩
    · have ht : xs.take i = xs := List.take_of_length_le (by omega)
      rw [ht] at HA
      replace hi : xs.length ≤ i := by omega
      clear ht
      go_wp2
      go_ret
      exact ⟨retb HA.out, ⟨⟨_, rfl⟩⟩⟩
end Go.Proofs.YtgbladpoglhleaaGreatDoor
