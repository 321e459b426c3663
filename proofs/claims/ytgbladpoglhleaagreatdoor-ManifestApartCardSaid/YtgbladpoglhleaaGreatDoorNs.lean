/- The references' copies and comparisons of lists of texts. No condition. -/
import Derived.Test.YtgbladpoglhleaaGreatDoorNr
namespace Go.Proofs.YtgbladpoglhleaaGreatDoor
open Go.RowKit Go.Lib
theorem eq_of_getElem' {α : Type} {xs ys : List α} (hl : xs.length = ys.length) (h : ∀ j, (hj : j < xs.length) → xs[j] = ys[j]) : xs = ys :=
  List.ext_getElem hl fun j h1 _ => h j h1
set_option maxHeartbeats 1000000 in
set_option maxRecDepth 100000 in
theorem Texts_any {w : World} {ok : Nat → Prop} {v : Value} {cs : List (List UInt8)} (hs : Sl kstr w ok v cs) (hl : cs.length ≤ 16777216) : Calls Tryz.prog 14 #[v] w (StrsPost w cs) := by
  obtain ⟨A, c, rfl, hc, hm⟩ := hs.slice
  have HS := Aside.mk hs
  obtain ⟨i0, hi0, hz0, hz1, hz2⟩ := info_parts Tryz.infoStr
  have hmk := run_make (P := Tryz.prog) w 22 9 i0 _ Tryz.underlying22 hi0 hz0 .i64 .i64 0 cs.length (by omega) (by omega) (by rw [hz2]; omega) (by omega)
  rw [hz1, Int.toNat_natCast] at hmk
  have HR0 : Aside ((w.alloc (.cells (madeCells #[.string ByteArray.empty] cs.length) 9)).ownsRow w.heap.size 9 1 (.slice (some ⟨w.heap.size, 0, none⟩) 0 cs.length) 0 []) := ⟨World.ownsRow_made w _ cs.length (Nat.le_refl _) (by simp only [maxLen]; omega) (by rw [size_madeCells]; omega)⟩
  have HB0 : Aside (Below w.heap.size w (w.alloc (.cells (madeCells #[.string ByteArray.empty] cs.length) 9))) := ⟨(Below.refl _ w).alloc (Nat.le_refl _) _⟩
  clear hs hi0 hz0 hz1 hz2
  go_enter Tryz.func14, Tryz.ntmps14
  go_wp2
  clear hmk
  generalize w.alloc (.cells (madeCells #[.string ByteArray.empty] cs.length) 9) = w0 at *
  go_loopg [3, 4] cs.length (fun kq v3 iv wr => ∃ (i : Nat), Aside (i + kq = cs.length) ∧ iv = .int .i64 i ∧ Aside (Below w.heap.size w wr) ∧ Aside (wr.ownsRow w.heap.size 9 1 v3 (cs.take i).length (strs (cs.take i))))
  case atStart => exact ⟨0, ⟨by omega⟩, rfl, HB0, HR0⟩
  case round =>
    clear HR0 HB0
    obtain ⟨i, HI, rfl, HB, HR⟩ := hrel
    by_cases hi : i < cs.length
    · obtain ⟨b, o, e, k0⟩ := (HS.out.below HB.out).str i hi
      cases e
      have HT := Aside.mk (take_snoc' hi)
      have hlen : (cs.take i).length ≤ 16777216 := by simp; omega
      generalize cs[i] = x at *
      go_wp2_with (at_builtin; go_must (refine app_one w.heap.size rfl _ _ 22 9 (.string ByteArray.empty) 1 16 rfl Tryz.underlying22 Tryz.infoStr rfl (by decide) (by decide) u3 (cs.take i).length _ [.string ⟨x.toArray⟩] rfl rfl rfl (by simp [Value.oneCell']) HR.out HB.out.size (by omega) ?_; intro v1 w6 hown hg6 hat; have HB6 := Aside.mk (HB.out.grown hg6 HB.out.size fun q e => (HR.out.lt q e).1); have HO6 := Aside.mk hown; clear hown hg6 hat))
      go_roundg (cs.length - (i + 1))
      case measure => have := HI.out; omega
      case rel => exact ⟨i + 1, ⟨by omega⟩, by go_num, HB6, ⟨by rw [HT.out, strs_snoc, List.length_append]; exact HO6.out⟩⟩
    · have ht : cs.take i = cs := List.take_of_length_le (by omega)
      have HP : Aside (StrsPost w cs (.returned u3) wr) := ⟨_, rfl, by rw [← ht]; exact HR.out, HB.out⟩
      replace hi : cs.length ≤ i := by omega
      clear ht HR HB
      go_wp2
      go_ret
      exact HP.out
set_option maxHeartbeats 400000 in
set_option maxRecDepth 100000 in
theorem SameTexts_any {w : World} {ok ok2 : Nat → Prop} {v v2 : Value} {xs ys : List (List UInt8)} (hx : Sl kstr w ok v xs) (hy : Sl kstr w ok2 v2 ys) :
    Calls Tryz.prog 16 #[v, v2] w fun e w' => e = .returned (.bool (eqB xs ys)) ∧ Same w w' := by
  obtain ⟨A, c, rfl, hc, hm⟩ := hx.slice
  obtain ⟨A2, c2, rfl, hc2, hm2⟩ := hy.slice
  have Hx := Aside.mk hx
  have Hy := Aside.mk hy
  clear hx hy
  by_cases hl : xs.length = ys.length
  · obtain ⟨hl1, hl2, hl3, _⟩ := natEq hl
    have HL := Aside.mk hl
    clear hl
    go_enter Tryz.func16, Tryz.ntmps16
    go_wp2
    go_loopw [5] (fun i wr => ∃ k : Nat, k ≤ xs.length ∧ i = .int .i64 k ∧ Aside (∀ j, (hj : j < k) → (h1 : j < xs.length) → (h2 : j < ys.length) → xs[j] = ys[j]) ∧ Same w wr) (fun i _ => xs.length - (intOf i).toNat)
    case atStart => exact ⟨0, by omega, rfl, ⟨fun j hj => absurd hj (Nat.not_lt_zero _)⟩, Same.refl _⟩
    case round =>
      obtain ⟨k, hk, rfl, HR, ⟨⟨m, rfl⟩⟩⟩ := hrel
      by_cases hlt : k < xs.length
      · have hlt2 : k < ys.length := by have := HL.out; omega
        obtain ⟨b, o, e, h1⟩ := Hx.out.str k hlt
        cases e
        obtain ⟨b2, o2, e, h2⟩ := Hy.out.str k hlt2
        cases e
        by_cases h0 : (xs[k] == ys[k]) = true
        · have h0n : (xs[k] != ys[k]) = false := by simpa using h0
          go_wp2
          go_quiet (fail)
          go_wp2
          go_roundw
          case rel =>
            refine ⟨k + 1, by omega, by go_num, ⟨fun j hj h3 h4 => ?_⟩, ?_⟩
            · rcases Nat.lt_or_ge j k with h5 | h5
              · exact HR.out j h5 h3 h4
              · obtain rfl : j = k := by omega
                simpa using h0
            · first | exact Same.refl _ | exact ⟨⟨_, rfl⟩⟩ | exact ((Same.refl _).step _).step _
          case measure => simp [intOf]; omega
        · replace h0 : (xs[k] == ys[k]) = false := by simpa using h0
          have h0n : (xs[k] != ys[k]) = true := by simpa using h0
          go_wp2
          go_quiet (fail)
          go_wp2
          go_ret
          exact ⟨retb (eqB_no (fun e => by subst e; simp at h0)), by first | exact Same.refl _ | exact ⟨⟨_, rfl⟩⟩ | exact ((Same.refl _).step _).step _⟩
      · replace hlt : xs.length ≤ k := by omega
        go_wp2
        go_ret
        refine ⟨retb (eqB_yes (eq_of_getElem' HL.out fun j hj => HR.out j (by omega) hj (by have := HL.out; omega))), by first | exact Same.refl _ | exact ⟨⟨_, rfl⟩⟩ | exact ((Same.refl _).step _).step _⟩
  · obtain ⟨hl1, hl2, hl3, _⟩ := natNe hl
    have HL := Aside.mk hl
    clear hl
    go_enter Tryz.func16, Tryz.ntmps16
    go_wp2
    go_ret
    exact ⟨retb (eqB_no (fun e => HL.out (by rw [e]))), by first | exact Same.refl _ | exact ⟨⟨_, rfl⟩⟩ | exact ((Same.refl _).step _).step _⟩
end Go.Proofs.YtgbladpoglhleaaGreatDoor
