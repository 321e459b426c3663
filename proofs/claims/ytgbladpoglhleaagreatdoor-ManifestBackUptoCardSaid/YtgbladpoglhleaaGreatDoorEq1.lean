/- bytes.Equal, and slices.EqualFunc with it: whether two lists of bytes' lists are the same. No condition. -/
import Derived.Test.YtgbladpoglhleaaGreatDoorMu
namespace Go.Proofs.YtgbladpoglhleaaGreatDoor
open Go.RowKit Go.Shelf
set_option maxHeartbeats 400000 in
set_option maxRecDepth 100000 in
theorem bytesEq_any {w : World} {ok ok2 : Nat → Prop} {v v2 : Value} {xs ys : List UInt8} (hx : Sl kbyte w ok v xs) (hy : Sl kbyte w ok2 v2 ys) :
    Calls Tryz.prog 63 #[v, v2] w fun e w' => e = .returned (.bool (eqB xs ys)) ∧ w' = w := by
  obtain ⟨A, c, rfl, hc, hm⟩ := hx.slice
  obtain ⟨A2, c2, rfl, hc2, hm2⟩ := hy.slice
  have h1 := conv_bytes hx
  have h2 := conv_bytes hy
  clear hx hy
  go_enter Tryz.func63, Tryz.ntmps63
  go_wp2
  go_ret
  exact ⟨retb bytes_same.symm, rfl⟩
set_option maxHeartbeats 400000 in
set_option maxRecDepth 100000 in
theorem equalFunc_any {w : World} {ok ok2 : Nat → Prop} {v v2 : Value} {xs ys : List (List UInt8)} (hx : Sl (kslice kbyte) w ok v xs) (hy : Sl (kslice kbyte) w ok2 v2 ys) :
    Calls Tryz.prog 62 #[v, v2, .func (.func 63) #[] #[]] w fun e w' => e = .returned (.bool (eqB xs ys)) ∧ Same w w' := by
  obtain ⟨A, c, rfl, hc, hm⟩ := hx.slice
  obtain ⟨A2, c2, rfl, hc2, hm2⟩ := hy.slice
  have Hx := Aside.mk hx
  have Hy := Aside.mk hy
  clear hx hy
  by_cases hl : xs.length = ys.length
  · obtain ⟨hl1, hl2, hl3, _⟩ := natEq hl
    have HL := Aside.mk hl
    clear hl
    go_enter Tryz.func62, Tryz.ntmps62
    go_wp2
    go_loopg [7, 8, 9, 17] xs.length (fun kq v7 v8 v9 i wr => ∃ k : Nat, Aside (k + kq = xs.length) ∧ i = .int .i64 k ∧ Aside (∀ j, (hj : j < k) → (h1 : j < xs.length) → (h2 : j < ys.length) → xs[j] = ys[j]) ∧ Same w wr)
    case atStart => exact ⟨0, ⟨by omega⟩, rfl, ⟨fun j hj => absurd hj (Nat.not_lt_zero _)⟩, Same.refl _⟩
    case round =>
      obtain ⟨k, HK, rfl, HR, ⟨⟨m, rfl⟩⟩⟩ := hrel
      by_cases hlt : k < xs.length
      · have hlt2 : k < ys.length := by have := HL.out; omega
        obtain ⟨b, o, q1, e, h1, s1⟩ := Hx.out.row k hlt
        cases e
        obtain ⟨b2, o2, q2, e, h2, s2⟩ := Hy.out.row k hlt2
        cases e
        have HCon : Aside (∀ n, Calls Tryz.prog 63 #[q1, q2] (w.drewN n) fun e w' => e = .returned (.bool (eqB xs[k] ys[k])) ∧ w' = w.drewN n) := ⟨fun n => bytesEq_any (s1.move fun _ _ => rfl) (s2.move fun _ _ => rfl)⟩
        have HM : Aside (xs.length - (k + 1) < gk) := ⟨by have := HK.out; omega⟩
        obtain ⟨A3, c3, rfl, _⟩ := s1.slice
        obtain ⟨A4, c4, rfl, _⟩ := s2.slice
        clear s1 s2
        obtain ⟨bb, hbb⟩ : ∃ bb, bb = eqB xs[k] ys[k] := ⟨_, rfl⟩
        have HBB := Aside.mk hbb
        rw [← hbb] at HCon
        clear hbb
        go_wp2_with fail
        refine (HCon.out _).mono ?_
        rintro e w9 ⟨rfl, rfl⟩
        cases bb with
        | true =>
          have HE : Aside (xs[k] = ys[k]) := ⟨eqB_iff.1 HBB.out.symm⟩
          go_wp2
          go_roundg (xs.length - (k + 1))
          case measure => exact HM.out
          case rel =>
            refine ⟨k + 1, ⟨by omega⟩, by go_num, ⟨fun j hj h3 h4 => ?_⟩, ?_⟩
            · rcases Nat.lt_or_ge j k with h5 | h5
              · exact HR.out j h5 h3 h4
              · obtain rfl : j = k := by omega
                exact HE.out
            · first | exact Same.refl _ | exact ⟨⟨_, rfl⟩⟩ | exact ((Same.refl _).step _).step _
        | false =>
          have HE : Aside (xs[k] ≠ ys[k]) := ⟨fun e => by have := HBB.out; rw [eqB_yes e] at this; cases this⟩
          go_wp2
          go_ret
          exact ⟨retb (eqB_no (fun e => by subst e; exact HE.out rfl)), by first | exact Same.refl _ | exact ⟨⟨_, rfl⟩⟩ | exact ((Same.refl _).step _).step _⟩
      · replace hlt : xs.length ≤ k := by omega
        go_wp2
        go_ret
        refine ⟨retb (eqB_yes (eq_of_getElem HL.out fun j hj => HR.out j (by omega) hj (by have := HL.out; omega))), by first | exact Same.refl _ | exact ⟨⟨_, rfl⟩⟩ | exact ((Same.refl _).step _).step _⟩
  · obtain ⟨hl1, hl2, hl3, _⟩ := natNe hl
    have HL := Aside.mk hl
    go_enter Tryz.func62, Tryz.ntmps62
    go_wp2
    go_ret
    exact ⟨retb (eqB_no (fun e => HL.out (congrArg List.length e))), Same.refl _⟩
end Go.Proofs.YtgbladpoglhleaaGreatDoor
