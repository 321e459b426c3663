/- varint.form walked: the number and the length of the form that the bytes begin with. No condition. -/
import Derived.Test.YtgbladpoglhleaaGreatDoorFm
import Derived.Lib.MinMax
namespace Go.Proofs.YtgbladpoglhleaaGreatDoor
open Go.RowKit
theorem or_low (x d : Nat) (hx : x < 72057594037927936) (hd : d < 128) : bits .or .i64 ((x : Int) * 128) (d : Int) = ((x * 128 + d : Nat) : Int) := by
  have e : ((x : Int) * 128) = ((x * 128 : Nat) : Int) := by omega
  have h1 : (BitVec.ofInt 64 ((x * 128 : Nat) : Int)).toNat = x * 128 := by
    rw [BitVec.ofInt_natCast, BitVec.toNat_ofNat]; exact Nat.mod_eq_of_lt (by omega)
  have h2 : (BitVec.ofInt 64 (d : Int)).toNat = d := by
    rw [BitVec.ofInt_natCast, BitVec.toNat_ofNat]; exact Nat.mod_eq_of_lt (by omega)
  have h3 : x * 128 ||| d = x * 128 + d := by
    have h := Nat.two_pow_add_eq_or_of_lt (i := 7) (b := d) (by omega) x
    rw [show 2 ^ 7 * x = x * 128 by omega] at h
    exact h.symm
  rw [e]
  show IntKind.i64.wrap ((BitVec.ofInt 64 ((x * 128 : Nat) : Int) ||| BitVec.ofInt 64 (d : Int)).toNat : Int) = _
  rw [BitVec.toNat_or, h1, h2, h3]
  exact Go.IntWalk.i64_in _ (by omega)
def FormPost (w : World) (bs : List UInt8) (e : Ending) (w' : World) : Prop := w' = w ∧
    ((∀ x n, vread bs = some (x, n) → e = .returned (.tuple #[.int .i64 (x : Nat), .int .i64 (n : Nat), .int .i64 0])) ∧ (vread bs = none → ∃ c : Int, c ≠ 0 ∧ e = .returned (.tuple #[.int .i64 0, .int .i64 0, .int .i64 c])))
theorem form_no {w : World} {bs : List UInt8} {c : Int} (h : vread bs = none) (hc : c ≠ 0) : FormPost w bs (.returned (.tuple #[.int .i64 0, .int .i64 0, .int .i64 c])) w :=
  ⟨rfl, (fun x n e => by rw [h] at e; cases e), fun _ => ⟨c, hc, rfl⟩⟩
theorem form_yes {w : World} {bs : List UInt8} {x n : Nat} (h : vread bs = some (x, n)) : FormPost w bs (.returned (.tuple #[.int .i64 (x : Nat), .int .i64 (n : Nat), .int .i64 0])) w :=
  ⟨rfl, (fun x' n' e => by rw [h] at e; cases e; rfl), fun e => by rw [h] at e; cases e⟩
set_option maxHeartbeats 4000000 in
set_option maxRecDepth 100000 in
theorem form_any {w : World} {ok : Nat → Prop} {v : Value} {bs : List UInt8} (hs : Sl kbyte w ok v bs) : Calls Tryz.prog 104 #[v] w (FormPost w bs) := by
  obtain ⟨A, c, rfl, hc, hm⟩ := hs.slice
  by_cases h0 : bs.length = 0
  · obtain rfl := List.eq_nil_of_length_eq_zero h0
    have HP : ∀ c : Int, c ≠ 0 → Aside (FormPost w [] (.returned (.tuple #[.int .i64 0, .int .i64 0, .int .i64 c])) w) := fun c h => ⟨form_no rfl h⟩
    go_enter Tryz.func104, Tryz.ntmps104
    go_wp2_with fail
    go_loopg [5, 26] 0 (fun kq v5 v26 wr => v5 = .int .i64 0 ∧ v26 = .int .i64 0 ∧ wr = w)
    case atStart => exact ⟨rfl, rfl, rfl⟩
    case round =>
      obtain ⟨rfl, rfl, rfl⟩ := hrel
      go_wp2_with fail
      exact bodyPost_ret (by simp [results, Tryz.results104, go_sem]) rfl (HP 10 (by decide)).out
  · obtain ⟨b, o, rfl, k0⟩ := hs.byte 0 (by omega)
    rw [Nat.add_zero] at k0
    by_cases h1 : bs[0] = 128
    · have hno : vread bs = none := by
        unfold vread
        rw [if_pos (by rw [List.head?_eq_getElem?, List.getElem?_eq_getElem (by omega), h1])]
      have HP : ∀ c : Int, c ≠ 0 → Aside (FormPost w bs (.returned (.tuple #[.int .i64 0, .int .i64 0, .int .i64 c])) w) := fun c h => ⟨form_no hno h⟩
      have e1 : (((bs[0]).toNat : Int) == 128) = true := by rw [h1]; decide
      have hl : 0 < bs.length := by omega
      clear hno hs h1
      generalize bs[0] = c0 at *
      go_enter Tryz.func104, Tryz.ntmps104
      go_wp2_with fail
      exact bodyPost_ret (by simp [results, Tryz.results104, go_sem]) rfl (HP 11 (by decide)).out
    · have e1 : (((bs[0]).toNat : Int) == 128) = false := by
        refine beq_false_of_ne fun e => h1 ?_
        have : (bs[0]).toNat = (128 : UInt8).toNat := by rw [show (128 : UInt8).toNat = 128 from rfl]; omega
        exact UInt8.toNat_inj.1 this
      have hv : vread bs = vgo 9 0 0 bs := by
        unfold vread
        rw [if_neg]
        rw [List.head?_eq_getElem?, List.getElem?_eq_getElem (by omega)]
        intro e
        exact h1 (Option.some.inj e)
      have hl : 0 < bs.length := by omega
      have HS := Aside.mk hs
      have HV0 : Aside (vread bs = vgo (9 - 0) 0 0 (bs.drop 0)) := ⟨hv⟩
      obtain ⟨L, hL⟩ : ∃ L, L = min bs.length 9 := ⟨_, rfl⟩
      have hmin : min (bs.length : Int) 9 = (L : Int) := by omega
      have HL := Aside.mk hL
      have hL1 : L ≤ bs.length := by omega
      have hL2 : L ≤ 9 := by omega
      have hLc : L ≤ c := by omega
      clear hs h1 hv hL
      generalize bs[0] = c0 at *
      clear h0
      go_enter Tryz.func104, Tryz.ntmps104
      go_wp2_with fail
      go_loopg [5, 26] L (fun kq v5 v26 wr => ∃ (i x : Nat), Aside (i + kq = L) ∧ v26 = .int .i64 i ∧ v5 = .int .i64 x ∧ Aside (x < 128 ^ i) ∧ Aside (vread bs = vgo (9 - i) x i (bs.drop i)) ∧ wr = w)
      case atStart => exact ⟨0, 0, ⟨by omega⟩, rfl, rfl, ⟨by simp⟩, HV0, rfl⟩
      case round =>
        clear k0 HV0 e1
        obtain ⟨i, x, HI, rfl, rfl, HX, HV, rfl⟩ := hrel
        by_cases hi : i < L
        · have hib : i < bs.length := by omega
          obtain ⟨b', o', e, k0⟩ := HS.out.byte i hib
          cases e
          have hxb : x < 72057594037927936 := by
            have h1 := HX.out
            have h2 : 128 ^ i ≤ 128 ^ 8 := Nat.pow_le_pow_right (by omega) (by omega)
            have h3 : (128 : Nat) ^ 8 = 72057594037927936 := by decide
            omega
          have hd : bs.drop i = bs[i] :: bs.drop (i + 1) := List.drop_eq_getElem_cons hib
          have hg : 9 - i = (9 - (i + 1)) + 1 := by omega
          have hstep : vread bs = if (bs[i]).toNat < 128 then some (x * 128 + (bs[i]).toNat, i + 1) else vgo (9 - (i + 1)) (x * 128 + (bs[i]).toNat % 128) (i + 1) (bs.drop (i + 1)) := by
            rw [HV.out, hd, hg, vgo]
          have hc8 : (bs[i]).toNat < 256 := (bs[i]).toNat_lt
          generalize bs[i] = ci at *
          obtain ⟨cn, hcn⟩ : ∃ cn, cn = ci.toNat := ⟨_, rfl⟩
          rw [← hcn] at hstep hc8 k0
          have hM : Aside (L - (i + 1) < gk ∧ i + 1 + (L - (i + 1)) = L) := ⟨by have := HI.out; omega⟩
          have ha := and127 cn hc8
          have hor := or_low x (cn % 128) hxb (Nat.mod_lt _ (by decide))
          have hor2 : bits .or .i64 ((x : Int) * 128) ((cn : Int) % 128) = ((x * 128 + cn % 128 : Nat) : Int) := by rw [← hor]; simp
          have hiL : (i : Int) < (L : Int) := by omega
          have hi0 : (0 : Int) ≤ (i : Int) := by omega
          by_cases h128 : cn < 128
          · rw [if_pos h128] at hstep
            have e2 : decide ((cn : Int) < 128) = true := decide_eq_true (by omega)
            have HP : Aside (FormPost wr bs (.returned (.tuple #[.int .i64 ((x : Int) * 128 + (cn : Int)), .int .i64 ((i : Int) + 1), .int .i64 0])) wr) := ⟨by have h := form_yes (w := wr) hstep; simpa using h⟩
            have hmod : cn % 128 = cn := Nat.mod_eq_of_lt h128
            rw [hmod] at ha hor hor2
            clear hmod hstep hd hg hcn h128
            go_wp2_with fail
            exact bodyPost_ret (by simp [results, Tryz.results104, go_sem]) rfl HP.out
          · rw [if_neg h128] at hstep
            have e2 : decide ((cn : Int) < 128) = false := decide_eq_false (by omega)
            have HV1 := Aside.mk hstep
            have HX1 : Aside (x * 128 + cn % 128 < 128 ^ (i + 1)) := ⟨by
              have h1 := HX.out
              have h2 := Nat.mod_lt cn (show 0 < 128 by decide)
              rw [Nat.pow_succ]
              omega⟩
            clear hstep hd hg hcn h128
            go_wp2_with fail
            go_roundg (L - (i + 1))
            case measure => exact hM.out.1
            case rel => exact ⟨i + 1, x * 128 + cn % 128, ⟨hM.out.2⟩, by go_num, by first | rfl | go_num, HX1, HV1, rfl⟩
        · have hie : i = L := by have := HI.out; omega
          have hno : vread bs = none := by
            rw [HV.out]
            have := HL.out
            rcases Nat.lt_or_ge bs.length 9 with h | h
            · rw [List.drop_eq_nil_of_le (by omega)]
              obtain ⟨g, hg⟩ : ∃ g, 9 - i = g + 1 := ⟨8 - i, by omega⟩
              rw [hg, vgo]
            · rw [show 9 - i = 0 by omega, vgo]
          have HP : ∀ c : Int, c ≠ 0 → Aside (FormPost wr bs (.returned (.tuple #[.int .i64 0, .int .i64 0, .int .i64 c])) wr) := fun c h => ⟨form_no hno h⟩
          have hiL : ¬ ((i : Int) < (L : Int)) := by omega
          clear HV HX HI HL hno
          by_cases h9 : 9 ≤ bs.length
          · have f9 : decide ((9 : Int) ≤ (bs.length : Int)) = true := decide_eq_true (by omega)
            go_wp2_with fail
            exact bodyPost_ret (by simp [results, Tryz.results104, go_sem]) rfl (HP 12 (by decide)).out
          · have f9 : decide ((9 : Int) ≤ (bs.length : Int)) = false := decide_eq_false (by omega)
            go_wp2_with fail
            exact bodyPost_ret (by simp [results, Tryz.results104, go_sem]) rfl (HP 10 (by decide)).out
end Go.Proofs.YtgbladpoglhleaaGreatDoor
