/- The references' comparisons of lists: each answers whether the two lists are the same. No condition. -/
import Derived.Test.YtikgdhmnnnicmaaDoorB
namespace Go.Proofs.YtikgdhmnnnicmaaDoor
open Go.RowKit

theorem eq_of_getElem {α : Type} {xs ys : List α} (hl : xs.length = ys.length) (h : ∀ j, (hj : j < xs.length) → xs[j] = ys[j]) : xs = ys :=
  List.ext_getElem hl fun j h1 _ => h j h1

set_option maxHeartbeats 400000 in
set_option maxRecDepth 100000 in
theorem SameInts_any {w : World} {ok ok2 : Nat → Prop} {v v2 : Value} {xs ys : List Int} (hx : Sl kint w ok v xs) (hy : Sl kint w ok2 v2 ys) :
    Calls Tryd.prog 17 #[v, v2] w fun e w' => e = .returned (.bool (eqB xs ys)) ∧ Same w w' := by
  obtain ⟨A, c, rfl, hc, hm⟩ := hx.slice
  obtain ⟨A2, c2, rfl, hc2, hm2⟩ := hy.slice
  have Hx := Aside.mk hx
  have Hy := Aside.mk hy
  clear hx hy
  by_cases hl : xs.length = ys.length
  · obtain ⟨hl1, hl2, hl3, _⟩ := natEq hl
    have HL := Aside.mk hl
    clear hl
    go_enter Tryd.func17, Tryd.ntmps17
    go_wp2
    go_loopw [5] (fun i wr => ∃ k : Nat, k ≤ xs.length ∧ i = .int .i64 k ∧ Aside (∀ j, (hj : j < k) → (h1 : j < xs.length) → (h2 : j < ys.length) → xs[j] = ys[j]) ∧ Same w wr) (fun i _ => xs.length - (intOf i).toNat)
    case atStart => exact ⟨0, by omega, rfl, ⟨fun j hj => absurd hj (Nat.not_lt_zero _)⟩, Same.refl _⟩
    case round =>
      obtain ⟨k, hk, rfl, HR, ⟨⟨m, rfl⟩⟩⟩ := hrel
      by_cases hlt : k < xs.length
      · have hlt2 : k < ys.length := by have := HL.out; omega
        obtain ⟨b, o, e, h1⟩ := Hx.out.int k hlt
        cases e
        obtain ⟨b2, o2, e, h2⟩ := Hy.out.int k hlt2
        cases e
        by_cases h0 : (xs[k] == ys[k]) = true
        · have h0n : (xs[k] != ys[k]) = false := by simpa using h0
          go_wp2
          go_quiet (fail)
          go_wp2
          go_roundw
          case rel =>
            refine ⟨k + 1, by omega, by go_num, ⟨fun j hj h3 h4 => ?_⟩, ?_⟩
            · rcases Nat.lt_or_ge j k with h5 | h5
              · exact HR.out j h5 h3 h4
              · obtain rfl : j = k := by omega
                simpa using h0
            · first | exact Same.refl _ | exact ⟨⟨_, rfl⟩⟩ | exact ((Same.refl _).step _).step _
          case measure => simp [intOf]; omega
        · replace h0 : (xs[k] == ys[k]) = false := by simpa using h0
          have h0n : (xs[k] != ys[k]) = true := by simpa using h0
          go_wp2
          go_quiet (fail)
          go_wp2
          go_ret
          exact ⟨retb (eqB_no (fun e => by subst e; simp at h0)), by first | exact Same.refl _ | exact ⟨⟨_, rfl⟩⟩ | exact ((Same.refl _).step _).step _⟩
      · replace hlt : xs.length ≤ k := by omega
        go_wp2
        go_ret
        refine ⟨retb (eqB_yes (eq_of_getElem HL.out fun j hj => HR.out j (by omega) hj (by have := HL.out; omega))), by first | exact Same.refl _ | exact ⟨⟨_, rfl⟩⟩ | exact ((Same.refl _).step _).step _⟩
  · obtain ⟨hl1, hl2, hl3, _⟩ := natNe hl
    have HL := Aside.mk hl
    clear hl
    go_enter Tryd.func17, Tryd.ntmps17
    go_wp2
    go_ret
    exact ⟨retb (eqB_no (fun e => HL.out (by rw [e]))), by first | exact Same.refl _ | exact ⟨⟨_, rfl⟩⟩ | exact ((Same.refl _).step _).step _⟩
theorem node_ext {x y : Node} (h0 : x.K = y.K) (h1 : x.Least = y.Least) (h2 : x.Size = y.Size) (h3 : x.Parent = y.Parent) : x = y := by cases x; cases y; simp_all
set_option maxHeartbeats 400000 in
set_option maxRecDepth 100000 in
theorem SameNodes_any {w : World} {ok ok2 : Nat → Prop} {v v2 : Value} {xs ys : List Node} (hx : Sl knode w ok v xs) (hy : Sl knode w ok2 v2 ys) :
    Calls Tryd.prog 10 #[v, v2] w fun e w' => e = .returned (.bool (eqB xs ys)) ∧ Same w w' := by
  obtain ⟨A, c, rfl, hc, hm⟩ := hx.slice
  obtain ⟨A2, c2, rfl, hc2, hm2⟩ := hy.slice
  have Hx := Aside.mk hx
  have Hy := Aside.mk hy
  clear hx hy
  by_cases hl : xs.length = ys.length
  · obtain ⟨hl1, hl2, hl3, _⟩ := natEq hl
    have HL := Aside.mk hl
    clear hl
    go_enter Tryd.func10, Tryd.ntmps10
    go_wp2
    go_loopw [5] (fun i wr => ∃ k : Nat, k ≤ xs.length ∧ i = .int .i64 k ∧ Aside (∀ j, (hj : j < k) → (h1 : j < xs.length) → (h2 : j < ys.length) → xs[j] = ys[j]) ∧ Same w wr) (fun i _ => xs.length - (intOf i).toNat)
    case atStart => exact ⟨0, by omega, rfl, ⟨fun j hj => absurd hj (Nat.not_lt_zero _)⟩, Same.refl _⟩
    case round =>
      obtain ⟨k, hk, rfl, HR, ⟨⟨m, rfl⟩⟩⟩ := hrel
      by_cases hlt : k < xs.length
      · have hlt2 : k < ys.length := by have := HL.out; omega
        obtain ⟨b, o, e, h10, h11, h12, h13⟩ := Hx.out.node k hlt
        cases e
        obtain ⟨b2, o2, e, h20, h21, h22, h23⟩ := Hy.out.node k hlt2
        cases e
        by_cases e0 : (xs[k].K == ys[k].K) = true
        · have e0n : (xs[k].K != ys[k].K) = false := by simpa using e0
          by_cases e1 : (xs[k].Least == ys[k].Least) = true
          · have e1n : (xs[k].Least != ys[k].Least) = false := by simpa using e1
            by_cases e2 : (xs[k].Size == ys[k].Size) = true
            · have e2n : (xs[k].Size != ys[k].Size) = false := by simpa using e2
              by_cases e3 : (xs[k].Parent == ys[k].Parent) = true
              · have e3n : (xs[k].Parent != ys[k].Parent) = false := by simpa using e3
                go_wp2
                go_quiet (fail)
                go_wp2
                go_roundw
                case rel =>
                  refine ⟨k + 1, by omega, by go_num, ⟨fun j hj h3 h4 => ?_⟩, ?_⟩
                  · rcases Nat.lt_or_ge j k with h5 | h5
                    · exact HR.out j h5 h3 h4
                    · obtain rfl : j = k := by omega
                      exact node_ext (by simpa using e0) (by simpa using e1) (by simpa using e2) (by simpa using e3)
                  · first | exact Same.refl _ | exact ⟨⟨_, rfl⟩⟩ | exact ((Same.refl _).step _).step _
                case measure => simp [intOf]; omega
              · replace e3 : (xs[k].Parent == ys[k].Parent) = false := by simpa using e3
                have e3n : (xs[k].Parent != ys[k].Parent) = true := by simpa using e3
                go_wp2
                go_quiet (fail)
                go_wp2
                go_ret
                exact ⟨retb (eqB_no (fun e => by subst e; simp at e3)), by first | exact Same.refl _ | exact ⟨⟨_, rfl⟩⟩ | exact ((Same.refl _).step _).step _⟩
            · replace e2 : (xs[k].Size == ys[k].Size) = false := by simpa using e2
              have e2n : (xs[k].Size != ys[k].Size) = true := by simpa using e2
              go_wp2
              go_quiet (fail)
              go_wp2
              go_ret
              exact ⟨retb (eqB_no (fun e => by subst e; simp at e2)), by first | exact Same.refl _ | exact ⟨⟨_, rfl⟩⟩ | exact ((Same.refl _).step _).step _⟩
          · replace e1 : (xs[k].Least == ys[k].Least) = false := by simpa using e1
            have e1n : (xs[k].Least != ys[k].Least) = true := by simpa using e1
            go_wp2
            go_quiet (fail)
            go_wp2
            go_ret
            exact ⟨retb (eqB_no (fun e => by subst e; simp at e1)), by first | exact Same.refl _ | exact ⟨⟨_, rfl⟩⟩ | exact ((Same.refl _).step _).step _⟩
        · replace e0 : (xs[k].K == ys[k].K) = false := by simpa using e0
          have e0n : (xs[k].K != ys[k].K) = true := by simpa using e0
          go_wp2
          go_quiet (fail)
          go_wp2
          go_ret
          exact ⟨retb (eqB_no (fun e => by subst e; simp at e0)), by first | exact Same.refl _ | exact ⟨⟨_, rfl⟩⟩ | exact ((Same.refl _).step _).step _⟩
      · replace hlt : xs.length ≤ k := by omega
        go_wp2
        go_ret
        refine ⟨retb (eqB_yes (eq_of_getElem HL.out fun j hj => HR.out j (by omega) hj (by have := HL.out; omega))), by first | exact Same.refl _ | exact ⟨⟨_, rfl⟩⟩ | exact ((Same.refl _).step _).step _⟩
  · obtain ⟨hl1, hl2, hl3, _⟩ := natNe hl
    have HL := Aside.mk hl
    clear hl
    go_enter Tryd.func10, Tryd.ntmps10
    go_wp2
    go_ret
    exact ⟨retb (eqB_no (fun e => HL.out (by rw [e]))), by first | exact Same.refl _ | exact ⟨⟨_, rfl⟩⟩ | exact ((Same.refl _).step _).step _⟩
end Go.Proofs.YtikgdhmnnnicmaaDoor
