/- Comparing bytes and lists of bytes' lists: the references' and the library's. No condition. -/
import Derived.Test.YtjncnppbaldmiaaGreatDoorVy
import Derived.Shelf.Bytes.SlSmallAll
namespace Go.Proofs.YtjncnppbaldmiaaGreatDoor
open Go.RowKit Go.Shelf
def bnums (xs : List UInt8) : List Int := xs.map fun b => (b.toNat : Int)
theorem strOf_bnums (xs : List UInt8) : strOfNums (bnums xs) = ⟨xs.toArray⟩ := by
  unfold strOfNums bnums
  rw [List.map_map]
  have e : (xs.map ((fun n : Int => UInt8.ofNat n.toNat) ∘ fun b : UInt8 => (b.toNat : Int))) = xs := by
    conv => rhs; rw [← List.map_id xs]
    refine List.map_congr_left fun b _ => ?_
    simp
  rw [e]
theorem bytesIn {w : World} {ok : Nat → Prop} {A : Option Addr} {n c : Nat} {xs : List UInt8} (h : Sl kbyte w ok (.slice A n c) xs) : Lib.BytesIn w A n (bnums xs) := by
  intro hn
  obtain ⟨A', c', e, h1, h2, h3⟩ := h
  cases e
  obtain ⟨b, o, e, h4, h5, h6⟩ := h3 hn
  refine ⟨b, o, e, fun i hi => ?_⟩
  obtain ⟨cs, rfl, q⟩ := h6 i xs[i] (List.getElem?_eq_getElem hi)
  have := q 0 _ rfl
  simp only [kbyte, flat, Nat.mul_one, Nat.add_zero] at this
  rw [this]
  simp [bnums, List.getD_eq_getElem?_getD, hi]
theorem conv_bytes {w : World} {ok : Nat → Prop} {A : Option Addr} {n c : Nat} {xs : List UInt8} (h : Sl kbyte w ok (.slice A n c) xs) : (convert 25 9 (.slice A n c)).run Tryz.prog w = .ok (.string ⟨xs.toArray⟩) w := by
  have hb := bytesIn h
  obtain ⟨A', c', e, _⟩ := h
  cases e
  have e2 := strOf_bnums xs
  have hlen : (bnums xs).length = xs.length := by simp [bnums]
  rw [← e2]
  rcases Nat.eq_zero_or_pos xs.length with hn | hn
  · obtain rfl := List.eq_nil_of_length_eq_zero hn
    exact run_convert_bytes_zero w _ _ Tryz.underlying25 Tryz.underlying5 A c _ Tryz.underlying9
  · obtain ⟨b, o, rfl, hc⟩ := hb.at hn
    exact run_convert_bytes_arg (P := Tryz.prog) w _ _ Tryz.underlying25 Tryz.underlying5 b o _ c (bnums xs) hlen hc _ Tryz.underlying9
theorem bytes_same {xs ys : List UInt8} : (xs == ys) = eqB xs ys := by
  by_cases h : xs = ys
  · subst h; rw [eqB_yes rfl]; exact beq_self_eq_true _
  · rw [eqB_no h]
    exact beq_eq_false_iff_ne.2 h
set_option maxHeartbeats 400000 in
set_option maxRecDepth 100000 in
theorem SameBytes_any {w : World} {ok ok2 : Nat → Prop} {v v2 : Value} {xs ys : List UInt8} (hx : Sl kbyte w ok v xs) (hy : Sl kbyte w ok2 v2 ys) :
    Calls Tryz.prog 10 #[v, v2] w fun e w' => e = .returned (.bool (eqB xs ys)) ∧ w' = w := by
  obtain ⟨A, c, rfl, hc, hm⟩ := hx.slice
  obtain ⟨A2, c2, rfl, hc2, hm2⟩ := hy.slice
  have h1 := conv_bytes hx
  have h2 := conv_bytes hy
  clear hx hy
  go_enter Tryz.func10, Tryz.ntmps10
  go_wp2
  go_ret
  exact ⟨retb bytes_same.symm, rfl⟩
set_option maxHeartbeats 400000 in
set_option maxRecDepth 100000 in
theorem SameByteLists_any {w : World} {ok ok2 : Nat → Prop} {v v2 : Value} {xs ys : List (List UInt8)} (hx : Sl (kslice kbyte) w ok v xs) (hy : Sl (kslice kbyte) w ok2 v2 ys) :
    Calls Tryz.prog 11 #[v, v2] w fun e w' => e = .returned (.bool (eqB xs ys)) ∧ Same w w' := by
  obtain ⟨A, c, rfl, hc, hm⟩ := hx.slice
  obtain ⟨A2, c2, rfl, hc2, hm2⟩ := hy.slice
  have Hx := Aside.mk hx
  have Hy := Aside.mk hy
  clear hx hy
  by_cases hl : xs.length = ys.length
  · obtain ⟨hl1, hl2, hl3, _⟩ := natEq hl
    have HL := Aside.mk hl
    clear hl
    go_enter Tryz.func11, Tryz.ntmps11
    go_wp2
    go_loopg [5, 6] xs.length (fun kq i v6 wr => ∃ k : Nat, Aside (k + kq = xs.length) ∧ i = .int .i64 k ∧ Aside (∀ j, (hj : j < k) → (h1 : j < xs.length) → (h2 : j < ys.length) → xs[j] = ys[j]) ∧ Same w wr)
    case atStart => exact ⟨0, ⟨by omega⟩, rfl, ⟨fun j hj => absurd hj (Nat.not_lt_zero _)⟩, Same.refl _⟩
    case round =>
      obtain ⟨k, HK, rfl, HR, ⟨⟨m, rfl⟩⟩⟩ := hrel
      by_cases hlt : k < xs.length
      · have hlt2 : k < ys.length := by have := HL.out; omega
        obtain ⟨b, o, q1, e, h1, s1⟩ := Hx.out.row k hlt
        cases e
        obtain ⟨b2, o2, q2, e, h2, s2⟩ := Hy.out.row k hlt2
        cases e
        have HCon : Aside (∀ n, Calls Tryz.prog 10 #[q1, q2] (w.drewN n) fun e w' => e = .returned (.bool (eqB xs[k] ys[k])) ∧ w' = w.drewN n) := ⟨fun n => SameBytes_any (s1.move fun _ _ => rfl) (s2.move fun _ _ => rfl)⟩
        have HM : Aside (xs.length - (k + 1) < gk) := ⟨by have := HK.out; omega⟩
        obtain ⟨A3, c3, rfl, _⟩ := s1.slice
        obtain ⟨A4, c4, rfl, _⟩ := s2.slice
        clear s1 s2
        obtain ⟨bb, hbb⟩ : ∃ bb, bb = eqB xs[k] ys[k] := ⟨_, rfl⟩
        have HBB := Aside.mk hbb
        rw [← hbb] at HCon
        clear hbb
        go_wp2
        go_quiet (first | (go_at_call 10; go_must (refine (HCon.out _).mono ?_; rintro e w9 ⟨h1, h2⟩; exact ⟨h1, _, h2⟩)))
        cases bb with
        | true =>
          have HE : Aside (xs[k] = ys[k]) := ⟨eqB_iff.1 HBB.out.symm⟩
          go_wp2
          go_roundg (xs.length - (k + 1))
          case measure => exact HM.out
          case rel =>
            refine ⟨k + 1, ⟨by omega⟩, by go_num, ⟨fun j hj h3 h4 => ?_⟩, ?_⟩
            · rcases Nat.lt_or_ge j k with h5 | h5
              · exact HR.out j h5 h3 h4
              · obtain rfl : j = k := by omega
                exact HE.out
            · first | exact Same.refl _ | exact ⟨⟨_, rfl⟩⟩ | exact ((Same.refl _).step _).step _
        | false =>
          have HE : Aside (xs[k] ≠ ys[k]) := ⟨fun e => by have := HBB.out; rw [eqB_yes e] at this; cases this⟩
          go_wp2
          go_ret
          exact ⟨retb (eqB_no (fun e => by subst e; exact HE.out rfl)), by first | exact Same.refl _ | exact ⟨⟨_, rfl⟩⟩ | exact ((Same.refl _).step _).step _⟩
      · replace hlt : xs.length ≤ k := by omega
        go_wp2
        go_ret
        refine ⟨retb (eqB_yes (eq_of_getElem HL.out fun j hj => HR.out j (by omega) hj (by have := HL.out; omega))), by first | exact Same.refl _ | exact ⟨⟨_, rfl⟩⟩ | exact ((Same.refl _).step _).step _⟩
  · obtain ⟨hl1, hl2, hl3, _⟩ := natNe hl
    have HL := Aside.mk hl
    go_enter Tryz.func11, Tryz.ntmps11
    go_wp2
    go_ret
    exact ⟨retb (eqB_no (fun e => HL.out (congrArg List.length e))), Same.refl _⟩
set_option maxHeartbeats 400000 in
set_option maxRecDepth 100000 in
theorem bytesEq_any {w : World} {ok ok2 : Nat → Prop} {v v2 : Value} {xs ys : List UInt8} (hx : Sl kbyte w ok v xs) (hy : Sl kbyte w ok2 v2 ys) :
    Calls Tryz.prog 40 #[v, v2] w fun e w' => e = .returned (.bool (eqB xs ys)) ∧ w' = w := by
  obtain ⟨A, c, rfl, hc, hm⟩ := hx.slice
  obtain ⟨A2, c2, rfl, hc2, hm2⟩ := hy.slice
  have h1 := conv_bytes hx
  have h2 := conv_bytes hy
  clear hx hy
  go_enter Tryz.func40, Tryz.ntmps40
  go_wp2
  go_ret
  exact ⟨retb bytes_same.symm, rfl⟩
set_option maxHeartbeats 400000 in
set_option maxRecDepth 100000 in
theorem equalFunc_any {w : World} {ok ok2 : Nat → Prop} {v v2 : Value} {xs ys : List (List UInt8)} (hx : Sl (kslice kbyte) w ok v xs) (hy : Sl (kslice kbyte) w ok2 v2 ys) :
    Calls Tryz.prog 41 #[v, v2, .func (.func 40) #[] #[]] w fun e w' => e = .returned (.bool (eqB xs ys)) ∧ Same w w' := by
  obtain ⟨A, c, rfl, hc, hm⟩ := hx.slice
  obtain ⟨A2, c2, rfl, hc2, hm2⟩ := hy.slice
  have Hx := Aside.mk hx
  have Hy := Aside.mk hy
  clear hx hy
  by_cases hl : xs.length = ys.length
  · obtain ⟨hl1, hl2, hl3, _⟩ := natEq hl
    have HL := Aside.mk hl
    clear hl
    go_enter Tryz.func41, Tryz.ntmps41
    go_wp2
    go_loopg [7, 8, 9, 17] xs.length (fun kq v7 v8 v9 i wr => ∃ k : Nat, Aside (k + kq = xs.length) ∧ i = .int .i64 k ∧ Aside (∀ j, (hj : j < k) → (h1 : j < xs.length) → (h2 : j < ys.length) → xs[j] = ys[j]) ∧ Same w wr)
    case atStart => exact ⟨0, ⟨by omega⟩, rfl, ⟨fun j hj => absurd hj (Nat.not_lt_zero _)⟩, Same.refl _⟩
    case round =>
      obtain ⟨k, HK, rfl, HR, ⟨⟨m, rfl⟩⟩⟩ := hrel
      by_cases hlt : k < xs.length
      · have hlt2 : k < ys.length := by have := HL.out; omega
        obtain ⟨b, o, q1, e, h1, s1⟩ := Hx.out.row k hlt
        cases e
        obtain ⟨b2, o2, q2, e, h2, s2⟩ := Hy.out.row k hlt2
        cases e
        have HCon : Aside (∀ n, Calls Tryz.prog 40 #[q1, q2] (w.drewN n) fun e w' => e = .returned (.bool (eqB xs[k] ys[k])) ∧ w' = w.drewN n) := ⟨fun n => bytesEq_any (s1.move fun _ _ => rfl) (s2.move fun _ _ => rfl)⟩
        have HM : Aside (xs.length - (k + 1) < gk) := ⟨by have := HK.out; omega⟩
        obtain ⟨A3, c3, rfl, _⟩ := s1.slice
        obtain ⟨A4, c4, rfl, _⟩ := s2.slice
        clear s1 s2
        obtain ⟨bb, hbb⟩ : ∃ bb, bb = eqB xs[k] ys[k] := ⟨_, rfl⟩
        have HBB := Aside.mk hbb
        rw [← hbb] at HCon
        clear hbb
        go_wp2_with fail
        refine (HCon.out _).mono ?_
        rintro e w9 ⟨rfl, rfl⟩
        cases bb with
        | true =>
          have HE : Aside (xs[k] = ys[k]) := ⟨eqB_iff.1 HBB.out.symm⟩
          go_wp2
          go_roundg (xs.length - (k + 1))
          case measure => exact HM.out
          case rel =>
            refine ⟨k + 1, ⟨by omega⟩, by go_num, ⟨fun j hj h3 h4 => ?_⟩, ?_⟩
            · rcases Nat.lt_or_ge j k with h5 | h5
              · exact HR.out j h5 h3 h4
              · obtain rfl : j = k := by omega
                exact HE.out
            · first | exact Same.refl _ | exact ⟨⟨_, rfl⟩⟩ | exact ((Same.refl _).step _).step _
        | false =>
          have HE : Aside (xs[k] ≠ ys[k]) := ⟨fun e => by have := HBB.out; rw [eqB_yes e] at this; cases this⟩
          go_wp2
          go_ret
          exact ⟨retb (eqB_no (fun e => by subst e; exact HE.out rfl)), by first | exact Same.refl _ | exact ⟨⟨_, rfl⟩⟩ | exact ((Same.refl _).step _).step _⟩
      · replace hlt : xs.length ≤ k := by omega
        go_wp2
        go_ret
        refine ⟨retb (eqB_yes (eq_of_getElem HL.out fun j hj => HR.out j (by omega) hj (by have := HL.out; omega))), by first | exact Same.refl _ | exact ⟨⟨_, rfl⟩⟩ | exact ((Same.refl _).step _).step _⟩
  · obtain ⟨hl1, hl2, hl3, _⟩ := natNe hl
    have HL := Aside.mk hl
    go_enter Tryz.func41, Tryz.ntmps41
    go_wp2
    go_ret
    exact ⟨retb (eqB_no (fun e => HL.out (congrArg List.length e))), Same.refl _⟩
end Go.Proofs.YtjncnppbaldmiaaGreatDoor
