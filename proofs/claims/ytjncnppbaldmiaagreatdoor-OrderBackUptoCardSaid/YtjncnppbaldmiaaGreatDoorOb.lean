/- Lists in memory: the references' copies and comparisons of numbers, rows of the call's own. No condition. -/
import Derived.Test.YtjncnppbaldmiaaGreatDoorB
import Derived.Lib.BufferMore
import Derived.Laws.Rows
namespace Go.Proofs.YtjncnppbaldmiaaGreatDoor
open Go.RowKit
theorem Tryz.infoInt : (Tryz.prog.info? 3).map (fun i => (i.zero, i.size, i.bytes)) = some (some (.int .i64 0), 1, 8) := by kernel_rfl
def ints (xs : List Int) : List Value := xs.map (Value.int .i64)
theorem ints_length (xs : List Int) : (ints xs).length = xs.length := by simp [ints]
theorem ints_snoc (xs : List Int) (x : Int) : ints (xs ++ [x]) = ints xs ++ [.int .i64 x] := by simp [ints]
theorem take_snoc {α : Type} {xs : List α} {i : Nat} (hi : i < xs.length) : xs.take (i + 1) = xs.take i ++ [xs[i]] := by
  rw [List.take_add_one, List.getElem?_eq_getElem hi]
  rfl
theorem eq_of_getElem {α : Type} {xs ys : List α} (hl : xs.length = ys.length) (h : ∀ j, (hj : j < xs.length) → xs[j] = ys[j]) : xs = ys :=
  List.ext_getElem hl fun j h1 _ => h j h1
theorem own_ints {w : World} {B : Nat} {v : Value} {xs : List Int} (h : w.ownsRow B 3 1 v xs.length (ints xs)) : Own kint 3 w B v xs := by
  refine ⟨ints xs, h, fun i x hx => ?_⟩
  show ((ints xs).drop (i * 1)).take 1 = [.int .i64 x]
  refine List.ext_getElem? fun j => ?_
  rw [List.getElem?_take]
  rcases j with _ | j
  · simp [ints, hx]
  · simp
def IntsPost (w : World) (xs : List Int) (e : Ending) (w' : World) : Prop := ∃ v, e = .returned v ∧ w'.ownsRow w.heap.size 3 1 v xs.length (ints xs) ∧ Below w.heap.size w w'
set_option maxHeartbeats 1000000 in
set_option maxRecDepth 100000 in
theorem Ints_any {w : World} {ok : Nat → Prop} {v : Value} {cs : List Int} (hs : Sl kint w ok v cs) (hl : cs.length ≤ 16777216) : Calls Tryz.prog 7 #[v] w (IntsPost w cs) := by
  obtain ⟨A, c, rfl, hc, hm⟩ := hs.slice
  have HS := Aside.mk hs
  obtain ⟨i0, hi0, hz0, hz1, hz2⟩ := info_parts Tryz.infoInt
  have hmk := run_make (P := Tryz.prog) w 22 3 i0 _ Tryz.underlying22 hi0 hz0 .i64 .i64 0 cs.length (by omega) (by omega) (by rw [hz2]; omega) (by omega)
  rw [hz1, Int.toNat_natCast] at hmk
  have HR0 : Aside ((w.alloc (.cells (madeCells #[.int .i64 0] cs.length) 3)).ownsRow w.heap.size 3 1 (.slice (some ⟨w.heap.size, 0, none⟩) 0 cs.length) 0 []) := ⟨World.ownsRow_made w _ cs.length (Nat.le_refl _) (by simp only [maxLen]; omega) (by rw [size_madeCells]; omega)⟩
  have HB0 : Aside (Below w.heap.size w (w.alloc (.cells (madeCells #[.int .i64 0] cs.length) 3))) := ⟨(Below.refl _ w).alloc (Nat.le_refl _) _⟩
  clear hs hi0 hz0 hz1 hz2
  go_enter Tryz.func7, Tryz.ntmps7
  go_wp2
  clear hmk
  generalize w.alloc (.cells (madeCells #[.int .i64 0] cs.length) 3) = w0 at *
  go_loopg [3, 4] cs.length (fun kq v3 iv wr => ∃ (i : Nat), Aside (i + kq = cs.length) ∧ iv = .int .i64 i ∧ Aside (Below w.heap.size w wr) ∧ Aside (wr.ownsRow w.heap.size 3 1 v3 (cs.take i).length (ints (cs.take i))))
  case atStart => exact ⟨0, ⟨by omega⟩, rfl, HB0, HR0⟩
  case round =>
    clear HR0 HB0
    obtain ⟨i, HI, rfl, HB, HR⟩ := hrel
    by_cases hi : i < cs.length
    · obtain ⟨b, o, e, k0⟩ := (HS.out.below HB.out).int i hi
      cases e
      have HT := Aside.mk (take_snoc hi)
      have hlen : (cs.take i).length ≤ 16777216 := by simp; omega
      generalize cs[i] = x at *
      go_wp2_with (at_builtin; go_must (refine app_one w.heap.size rfl _ _ 22 3 (.int .i64 0) 1 8 rfl Tryz.underlying22 Tryz.infoInt rfl (by decide) (by decide) u3 (cs.take i).length _ [.int .i64 x] rfl rfl rfl (by simp [Value.oneCell']) HR.out HB.out.size (by omega) ?_; intro v1 w6 hown hg6 hat; have HB6 := Aside.mk (HB.out.grown hg6 HB.out.size fun q e => (HR.out.lt q e).1); have HO6 := Aside.mk hown; clear hown hg6 hat))
      go_roundg (cs.length - (i + 1))
      case measure => have := HI.out; omega
      case rel => exact ⟨i + 1, ⟨by omega⟩, by go_num, HB6, ⟨by rw [HT.out, ints_snoc, List.length_append]; exact HO6.out⟩⟩
    · have ht : cs.take i = cs := List.take_of_length_le (by omega)
      have HP : Aside (IntsPost w cs (.returned u3) wr) := ⟨_, rfl, by rw [← ht]; exact HR.out, HB.out⟩
      replace hi : cs.length ≤ i := by omega
      clear ht HR HB
      go_wp2
      go_ret
      exact HP.out
theorem own_low {w : World} {B B' : Nat} {e : TypeId} {size n : Nat} {v : Value} {xs : List Value} (h : w.ownsRow B e size v n xs) (hb : B' ≤ B) : w.ownsRow B' e size v n xs := by
  refine ⟨h.1, ?_⟩
  rcases h.2 with hn | ⟨g, cap, cur, e1, h1, h2⟩
  · exact .inl hn
  · exact .inr ⟨g, cap, cur, e1, Nat.le_trans hb h1, h2⟩
theorem own_cap {w : World} {B : Nat} {e : TypeId} {size n g cap : Nat} {xs : List Value} (h : w.ownsRow B e size (.slice (some ⟨g, 0, none⟩) n cap) n xs) : n ≤ cap ∧ cap ≤ 9223372036854775807 := by
  rcases h.2 with ⟨e1, _⟩ | ⟨g', cap', cur, e1, h1, h2, h3, h4, _⟩
  · cases e1
  · cases e1
    exact ⟨h3, by simp only [maxLen] at h4; omega⟩
theorem store_at {w : World} {g : Nat} {cs : Array Value} {e : TypeId} (h : w.heap[g]? = some (.cells cs e (0, 0))) (j : Nat) (hj : j < cs.size) : w.cell? ⟨g, j, none⟩ = some (cs[j]) ∧ w.frozen? ⟨g, j, none⟩ = false ∧ g < w.heap.size := by
  refine ⟨?_, ?_, blk_lt h⟩
  · simp [World.cell?, h, hj]
  · simp [World.frozen?, h]
theorem set_far {w : World} {a b : Addr} {v u : Value} (hne : b.block ≠ a.block) (h : w.cell? a = some u) : (w.setCell b v).cell? a = some u := (World.cell?_setCell_far w b a v hne).trans h
theorem own_slice {w : World} {B s n : Nat} {e : TypeId} {v : Value} {xs : List Value} (h : w.ownsRow B e s v n xs) : ∃ A m c, v = .slice A m c := by
  rcases h.2 with ⟨rfl, _⟩ | ⟨g, cap, cur, rfl, _⟩
  · exact ⟨_, _, _, rfl⟩
  · exact ⟨_, _, _, rfl⟩
theorem ownsRow_move {w w1 : World} {base : Nat} {e : TypeId} {size n : Nat} {v : Value} {xs : List Value} (h : w.ownsRow base e size v n xs) (hm : ∀ k, v.ownBlock = some k → w1.heap[k]? = w.heap[k]?) : w1.ownsRow base e size v n xs := by
  refine ⟨h.1, ?_⟩
  rcases h.2 with hn | ⟨g, cap, cur, rfl, hb, hg, h1⟩
  · exact .inl hn
  · exact .inr ⟨g, cap, cur, rfl, hb, (hm g (by simp [Value.ownBlock])).trans hg, h1⟩
set_option maxHeartbeats 400000 in
set_option maxRecDepth 100000 in
theorem SameInts_any {w : World} {ok ok2 : Nat → Prop} {v v2 : Value} {xs ys : List Int} (hx : Sl kint w ok v xs) (hy : Sl kint w ok2 v2 ys) :
    Calls Tryz.prog 12 #[v, v2] w fun e w' => e = .returned (.bool (eqB xs ys)) ∧ Same w w' := by
  obtain ⟨A, c, rfl, hc, hm⟩ := hx.slice
  obtain ⟨A2, c2, rfl, hc2, hm2⟩ := hy.slice
  have Hx := Aside.mk hx
  have Hy := Aside.mk hy
  clear hx hy
  by_cases hl : xs.length = ys.length
  · obtain ⟨hl1, hl2, hl3, _⟩ := natEq hl
    have HL := Aside.mk hl
    clear hl
    go_enter Tryz.func12, Tryz.ntmps12
    go_wp2
    go_loopw [5] (fun i wr => ∃ k : Nat, k ≤ xs.length ∧ i = .int .i64 k ∧ Aside (∀ j, (hj : j < k) → (h1 : j < xs.length) → (h2 : j < ys.length) → xs[j] = ys[j]) ∧ Same w wr) (fun i _ => xs.length - (intOf i).toNat)
    case atStart => exact ⟨0, by omega, rfl, ⟨fun j hj => absurd hj (Nat.not_lt_zero _)⟩, Same.refl _⟩
    case round =>
      obtain ⟨k, hk, rfl, HR, ⟨⟨m, rfl⟩⟩⟩ := hrel
      by_cases hlt : k < xs.length
      · have hlt2 : k < ys.length := by have := HL.out; omega
        obtain ⟨b, o, e, h1⟩ := Hx.out.int k hlt
        cases e
        obtain ⟨b2, o2, e, h2⟩ := Hy.out.int k hlt2
        cases e
        by_cases h0 : (xs[k] == ys[k]) = true
        · have h0n : (xs[k] != ys[k]) = false := by simpa using h0
          go_wp2
          go_quiet (fail)
          go_wp2
          go_roundw
          case rel =>
            refine ⟨k + 1, by omega, by go_num, ⟨fun j hj h3 h4 => ?_⟩, ?_⟩
            · rcases Nat.lt_or_ge j k with h5 | h5
              · exact HR.out j h5 h3 h4
              · obtain rfl : j = k := by omega
                simpa using h0
            · first | exact Same.refl _ | exact ⟨⟨_, rfl⟩⟩ | exact ((Same.refl _).step _).step _
          case measure => simp [intOf]; omega
        · replace h0 : (xs[k] == ys[k]) = false := by simpa using h0
          have h0n : (xs[k] != ys[k]) = true := by simpa using h0
          go_wp2
          go_quiet (fail)
          go_wp2
          go_ret
          exact ⟨retb (eqB_no (fun e => by subst e; simp at h0)), by first | exact Same.refl _ | exact ⟨⟨_, rfl⟩⟩ | exact ((Same.refl _).step _).step _⟩
      · replace hlt : xs.length ≤ k := by omega
        go_wp2
        go_ret
        refine ⟨retb (eqB_yes (eq_of_getElem HL.out fun j hj => HR.out j (by omega) hj (by have := HL.out; omega))), by first | exact Same.refl _ | exact ⟨⟨_, rfl⟩⟩ | exact ((Same.refl _).step _).step _⟩
  · obtain ⟨hl1, hl2, hl3, _⟩ := natNe hl
    have HL := Aside.mk hl
    clear hl
    go_enter Tryz.func12, Tryz.ntmps12
    go_wp2
    go_ret
    exact ⟨retb (eqB_no (fun e => HL.out (by rw [e]))), by first | exact Same.refl _ | exact ⟨⟨_, rfl⟩⟩ | exact ((Same.refl _).step _).step _⟩
theorem five {w : World} {g : Nat} {t : TypeId} {a b c d e : Value} (h : w.heap[g]? = some (.cells #[a, b, c, d, e] t (0, 0))) :
    w.cell? ⟨g, 0, none⟩ = some a ∧ w.cell? ⟨g, 1, none⟩ = some b ∧ w.cell? ⟨g, 2, none⟩ = some c ∧ w.cell? ⟨g, 3, none⟩ = some d ∧ w.cell? ⟨g, 4, none⟩ = some e :=
  ⟨(store_at h 0 (show 0 < 5 by decide)).1, (store_at h 1 (show 1 < 5 by decide)).1, (store_at h 2 (show 2 < 5 by decide)).1, (store_at h 3 (show 3 < 5 by decide)).1, (store_at h 4 (show 4 < 5 by decide)).1⟩
end Go.Proofs.YtjncnppbaldmiaaGreatDoor
