/- The references' comparisons of manifests: each answers whether the two are the same. No condition. -/
import Derived.Test.YtgbladpoglhleaaGreatDoorMa
namespace Go.Proofs.YtgbladpoglhleaaGreatDoor
open Go.RowKit
theorem info_ext {x y : Info} (h0 : x.Size = y.Size) (h1 : x.Sum = y.Sum) (h2 : x.Arcs = y.Arcs) : x = y := by cases x; cases y; simp_all
set_option maxHeartbeats 400000 in
set_option maxRecDepth 100000 in
theorem SameInts_any {w : World} {ok ok2 : Nat → Prop} {v v2 : Value} {xs ys : List Int} (hx : Sl kint w ok v xs) (hy : Sl kint w ok2 v2 ys) :
    Calls Tryz.prog 64 #[v, v2] w fun e w' => e = .returned (.bool (eqB xs ys)) ∧ Same w w' := by
  obtain ⟨A, c, rfl, hc, hm⟩ := hx.slice
  obtain ⟨A2, c2, rfl, hc2, hm2⟩ := hy.slice
  have Hx := Aside.mk hx
  have Hy := Aside.mk hy
  clear hx hy
  by_cases hl : xs.length = ys.length
  · obtain ⟨hl1, hl2, hl3, _⟩ := natEq hl
    have HL := Aside.mk hl
    clear hl
    go_enter Tryz.func64, Tryz.ntmps64
    go_wp2
    go_loopw [5] (fun i wr => ∃ k : Nat, k ≤ xs.length ∧ i = .int .i64 k ∧ Aside (∀ j, (hj : j < k) → (h1 : j < xs.length) → (h2 : j < ys.length) → xs[j] = ys[j]) ∧ Same w wr) (fun i _ => xs.length - (intOf i).toNat)
    case atStart => exact ⟨0, by omega, rfl, ⟨fun j hj => absurd hj (Nat.not_lt_zero _)⟩, Same.refl _⟩
    case round =>
      obtain ⟨k, hk, rfl, HR, ⟨⟨m, rfl⟩⟩⟩ := hrel
      by_cases hlt : k < xs.length
      · have hlt2 : k < ys.length := by have := HL.out; omega
        obtain ⟨b, o, e, h1⟩ := Hx.out.int k hlt
        cases e
        obtain ⟨b2, o2, e, h2⟩ := Hy.out.int k hlt2
        cases e
        by_cases h0 : (xs[k] == ys[k]) = true
        · have h0n : (xs[k] != ys[k]) = false := by simpa using h0
          go_wp2
          go_quiet (fail)
          go_wp2
          go_roundw
          case rel =>
            refine ⟨k + 1, by omega, by go_num, ⟨fun j hj h3 h4 => ?_⟩, ?_⟩
            · rcases Nat.lt_or_ge j k with h5 | h5
              · exact HR.out j h5 h3 h4
              · obtain rfl : j = k := by omega
                simpa using h0
            · first | exact Same.refl _ | exact ⟨⟨_, rfl⟩⟩ | exact ((Same.refl _).step _).step _
          case measure => simp [intOf]; omega
        · replace h0 : (xs[k] == ys[k]) = false := by simpa using h0
          have h0n : (xs[k] != ys[k]) = true := by simpa using h0
          go_wp2
          go_quiet (fail)
          go_wp2
          go_ret
          exact ⟨retb (eqB_no (fun e => by subst e; simp at h0)), by first | exact Same.refl _ | exact ⟨⟨_, rfl⟩⟩ | exact ((Same.refl _).step _).step _⟩
      · replace hlt : xs.length ≤ k := by omega
        go_wp2
        go_ret
        refine ⟨retb (eqB_yes (eq_of_getElem HL.out fun j hj => HR.out j (by omega) hj (by have := HL.out; omega))), by first | exact Same.refl _ | exact ⟨⟨_, rfl⟩⟩ | exact ((Same.refl _).step _).step _⟩
  · obtain ⟨hl1, hl2, hl3, _⟩ := natNe hl
    have HL := Aside.mk hl
    clear hl
    go_enter Tryz.func64, Tryz.ntmps64
    go_wp2
    go_ret
    exact ⟨retb (eqB_no (fun e => HL.out (by rw [e]))), by first | exact Same.refl _ | exact ⟨⟨_, rfl⟩⟩ | exact ((Same.refl _).step _).step _⟩
set_option maxHeartbeats 400000 in
set_option maxRecDepth 100000 in
theorem SameInfos_any {w : World} {ok ok2 : Nat → Prop} {v v2 : Value} {xs ys : List Info} (hx : Sl kinfo w ok v xs) (hy : Sl kinfo w ok2 v2 ys) :
    Calls Tryz.prog 65 #[v, v2] w fun e w' => e = .returned (.bool (eqB xs ys)) ∧ Same w w' := by
  obtain ⟨A, c, rfl, hc, hm⟩ := hx.slice
  obtain ⟨A2, c2, rfl, hc2, hm2⟩ := hy.slice
  have Hx := Aside.mk hx
  have Hy := Aside.mk hy
  clear hx hy
  by_cases hl : xs.length = ys.length
  · obtain ⟨hl1, hl2, hl3, _⟩ := natEq hl
    have HL := Aside.mk hl
    clear hl
    go_enter Tryz.func65, Tryz.ntmps65
    go_wp2
    go_loopw [5] (fun i wr => ∃ k : Nat, k ≤ xs.length ∧ i = .int .i64 k ∧ Aside (∀ j, (hj : j < k) → (h1 : j < xs.length) → (h2 : j < ys.length) → xs[j] = ys[j]) ∧ Same w wr) (fun i _ => xs.length - (intOf i).toNat)
    case atStart => exact ⟨0, by omega, rfl, ⟨fun j hj => absurd hj (Nat.not_lt_zero _)⟩, Same.refl _⟩
    case round =>
      obtain ⟨k, hk, rfl, HR, ⟨⟨m, rfl⟩⟩⟩ := hrel
      by_cases hlt : k < xs.length
      · have hlt2 : k < ys.length := by have := HL.out; omega
        obtain ⟨b, o, e, h10, h11, h12⟩ := Hx.out.info k hlt
        cases e
        obtain ⟨b2, o2, e, h20, h21, h22⟩ := Hy.out.info k hlt2
        cases e
        by_cases e0 : (xs[k].Size == ys[k].Size) = true
        · have e0n : (xs[k].Size != ys[k].Size) = false := by simpa using e0
          by_cases e1 : ((xs[k].Sum.toNat : Int) == (ys[k].Sum.toNat : Int)) = true
          · have e1n : ((xs[k].Sum.toNat : Int) != (ys[k].Sum.toNat : Int)) = false := by simpa using e1
            have e1c : (xs[k].Sum.toNat == ys[k].Sum.toNat) = true := by simp at e1 ⊢; omega
            by_cases e2 : (xs[k].Arcs == ys[k].Arcs) = true
            · have e2n : (xs[k].Arcs != ys[k].Arcs) = false := by simpa using e2
              go_wp2
              go_quiet (fail)
              go_wp2
              go_roundw
              case rel =>
                refine ⟨k + 1, by omega, by go_num, ⟨fun j hj h3 h4 => ?_⟩, ?_⟩
                · rcases Nat.lt_or_ge j k with h5 | h5
                  · exact HR.out j h5 h3 h4
                  · obtain rfl : j = k := by omega
                    exact info_ext (by simpa using e0) (UInt32.toNat_inj.1 (by simp at e1; omega)) (by simpa using e2)
                · first | exact Same.refl _ | exact ⟨⟨_, rfl⟩⟩ | exact ((Same.refl _).step _).step _
              case measure => simp [intOf]; omega
            · replace e2 : (xs[k].Arcs == ys[k].Arcs) = false := by simpa using e2
              have e2n : (xs[k].Arcs != ys[k].Arcs) = true := by simpa using e2
              go_wp2
              go_quiet (fail)
              go_wp2
              go_ret
              exact ⟨retb (eqB_no (fun e => by subst e; simp at e2)), by first | exact Same.refl _ | exact ⟨⟨_, rfl⟩⟩ | exact ((Same.refl _).step _).step _⟩
          · replace e1 : ((xs[k].Sum.toNat : Int) == (ys[k].Sum.toNat : Int)) = false := by simpa using e1
            have e1n : ((xs[k].Sum.toNat : Int) != (ys[k].Sum.toNat : Int)) = true := by simpa using e1
            have e1c : (xs[k].Sum.toNat == ys[k].Sum.toNat) = false := by simp at e1 ⊢; omega
            go_wp2
            go_quiet (fail)
            go_wp2
            go_ret
            exact ⟨retb (eqB_no (fun e => by subst e; simp at e1)), by first | exact Same.refl _ | exact ⟨⟨_, rfl⟩⟩ | exact ((Same.refl _).step _).step _⟩
        · replace e0 : (xs[k].Size == ys[k].Size) = false := by simpa using e0
          have e0n : (xs[k].Size != ys[k].Size) = true := by simpa using e0
          go_wp2
          go_quiet (fail)
          go_wp2
          go_ret
          exact ⟨retb (eqB_no (fun e => by subst e; simp at e0)), by first | exact Same.refl _ | exact ⟨⟨_, rfl⟩⟩ | exact ((Same.refl _).step _).step _⟩
      · replace hlt : xs.length ≤ k := by omega
        go_wp2
        go_ret
        refine ⟨retb (eqB_yes (eq_of_getElem HL.out fun j hj => HR.out j (by omega) hj (by have := HL.out; omega))), by first | exact Same.refl _ | exact ⟨⟨_, rfl⟩⟩ | exact ((Same.refl _).step _).step _⟩
  · obtain ⟨hl1, hl2, hl3, _⟩ := natNe hl
    have HL := Aside.mk hl
    clear hl
    go_enter Tryz.func65, Tryz.ntmps65
    go_wp2
    go_ret
    exact ⟨retb (eqB_no (fun e => HL.out (by rw [e]))), by first | exact Same.refl _ | exact ⟨⟨_, rfl⟩⟩ | exact ((Same.refl _).step _).step _⟩
theorem man_eqB (m m2 : Man) : eqB m m2 = (eqB m.Cuts m2.Cuts && eqB m.Shards m2.Shards && eqB m.Degrees m2.Degrees && (m.Gen == m2.Gen) && (m.N == m2.N)) := by
  rw [Bool.eq_iff_iff]
  simp only [eqB_iff, Bool.and_eq_true, beq_iff_eq]
  constructor
  · rintro rfl; simp
  · rintro ⟨⟨⟨⟨h1, h2⟩, h3⟩, h4⟩, h5⟩
    cases m; cases m2; simp_all
def manRow (m : Man) (a b c : Value) : Array Value := #[.int .i64 m.Gen, .int .i64 m.N, a, b, c]
set_option maxHeartbeats 1000000 in
set_option maxRecDepth 100000 in
theorem SameManifest_any {w : World} {ok ok2 : Nat → Prop} {v v2 : Value} {m m2 : Man} (hx : ManV w ok v m) (hy : ManV w ok2 v2 m2) :
    Calls Tryz.prog 33 #[v, v2] w fun e w' => e = .returned (.bool (eqB m m2)) ∧ Below w.heap.size w w' := by
  obtain ⟨a, b, c, rfl, h1, h2, h3⟩ := hx
  obtain ⟨a2, b2, c2, rfl, k1, k2, k3⟩ := hy
  have hb : ∀ n, Below w.heap.size w (((w.alloc (.cells #[.int .i64 m.Gen, .int .i64 m.N, a, b, c] 33)).alloc (.cells #[.int .i64 m2.Gen, .int .i64 m2.N, a2, b2, c2] 33)).drewN n) := fun n => bdrew (((Below.refl _ w).alloc (Nat.le_refl _) _).alloc (by simp) _) n
  have c1 := Aside.mk fun n => SameInts_any (h1.below (hb n)) (k1.below (hb n))
  have c2' := Aside.mk fun n => SameInfos_any (h2.below (hb n)) (k2.below (hb n))
  have c3 := Aside.mk fun n => SameInts_any (h3.below (hb n)) (k3.below (hb n))
  have HB := Aside.mk hb
  have HE := Aside.mk (man_eqB m m2)
  obtain ⟨Aa, ca, rfl, _⟩ := h1.slice
  obtain ⟨Ab, cb, rfl, _⟩ := h2.slice
  obtain ⟨Ac, cc, rfl, _⟩ := h3.slice
  obtain ⟨Aa2, ca2, rfl, _⟩ := k1.slice
  obtain ⟨Ab2, cb2, rfl, _⟩ := k2.slice
  obtain ⟨Ac2, cc2, rfl, _⟩ := k3.slice
  clear h1 h2 h3 k1 k2 k3 hb
  generalize eqB m m2 = q at *
  generalize eqB m.Cuts m2.Cuts = q1 at *
  generalize eqB m.Shards m2.Shards = q2 at *
  generalize eqB m.Degrees m2.Degrees = q3 at *
  go_enter Tryz.func33, Tryz.ntmps33
  go_wp2_with fail
  refine (c1.out 0).mono ?_
  rintro e w1 ⟨rfl, ⟨⟨n1, rfl⟩⟩⟩
  go_wp2_with fail
  refine (c2'.out n1).mono ?_
  rintro e w2 ⟨rfl, ⟨⟨n2, rfl⟩⟩⟩
  rw [World.drewN_drewN]
  go_wp2_with fail
  refine (c3.out (n1 + n2)).mono ?_
  rintro e w3 ⟨rfl, ⟨⟨n3, rfl⟩⟩⟩
  rw [World.drewN_drewN]
  have fin : ∀ (r : Bool) (W : World), r = q → Below w.heap.size w W → Ending.returned (.bool r) = .returned (.bool q) ∧ Below w.heap.size w W := fun r W e h => ⟨by rw [e], h⟩
  cases q1 with
  | false =>
    go_wp2
    go_ret
    exact ⟨retb HE.out, HB.out _⟩
  | true =>
    cases q2 with
    | false =>
      go_wp2
      go_ret
      exact ⟨retb HE.out, HB.out _⟩
    | true =>
      cases q3 with
      | false =>
        go_wp2
        go_ret
        exact ⟨retb HE.out, HB.out _⟩
      | true =>
        by_cases e4 : (m.Gen == m2.Gen) = true
        · rw [e4] at HE
          go_wp2
          go_ret
          exact ⟨retb HE.out, HB.out _⟩
        · replace e4 : (m.Gen == m2.Gen) = false := by simpa using e4
          rw [e4] at HE
          go_wp2
          go_ret
          exact ⟨retb HE.out, HB.out _⟩
end Go.Proofs.YtgbladpoglhleaaGreatDoor
