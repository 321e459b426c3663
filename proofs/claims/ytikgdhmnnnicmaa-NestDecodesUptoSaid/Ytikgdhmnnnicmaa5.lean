/- The law NestLevels walked: true at every input. No condition. -/
import Derived.Test.YtikgdhmnnnicmaaY
import Derived.Test.Ytikgdhmnnnicmaa2
namespace Go.Proofs.Ytikgdhmnnnicmaa
open Go.RowKit
theorem nodeCells_length' (xs : List Node) : (nodeCells xs).length = xs.length * 4 := nodeCells_length xs
/-- A part of a row of the call's own, from the first place on. -/
theorem Sl.cut {w : World} {ok : Nat → Prop} {b n c n' c' : Nat} {xs : List Node} (h : Sl knode w ok (.slice (some ⟨b, 0, none⟩) n c) xs) (hn : n' ≤ n) (hc : n' ≤ c') (hm : c' ≤ 9223372036854775807) : Sl knode w ok (.slice (some ⟨b, 0, none⟩) n' c') (xs.take n') := by
  obtain ⟨A', c0, e, h1, h2, h3⟩ := h
  cases e
  have hl : (xs.take n').length = n' := by simp; omega
  refine ⟨some ⟨b, 0, none⟩, c', by rw [hl], by rw [hl]; exact hc, hm, fun hp => ?_⟩
  obtain ⟨b', o, e, h4, h5, h6⟩ := h3 (by omega)
  cases e
  refine ⟨b, 0, rfl, h4, h5, fun i x hx => h6 i x ?_⟩
  rw [List.getElem?_take] at hx
  split at hx
  · exact hx
  · cases hx
theorem grown_row {w w2 w3 : World} {ok : Nat → Prop} {B : Nat} {v v2 v3 : Value} {nodes : List Node} (hs : Sl knode w2 ok v nodes) (hb : Below w.heap.size w w2) (hr : w2.ownsRow B 42 4 v2 nodes.length (nodeCells nodes))
    (hown : w3.ownsRow B 42 4 v3 (nodes.length + 1) (nodeCells nodes ++ [.int .i64 5, .int .i64 0, .int .i64 0, .int .i64 (-1)])) (hg : w2.grownBy w3 v2.ownBlock) (hB : w.heap.size ≤ B) (hok : ∀ k, ok k → k < B) :
    ∃ g c3, v3 = .slice (some ⟨g, 0, none⟩) (nodes.length + 1) c3 ∧ nodes.length + 1 ≤ c3 ∧ c3 ≤ 9223372036854775807 ∧ Aside (Sl knode w3 (B ≤ ·) (.slice (some ⟨g, 0, none⟩) (nodes.length + 1) c3) (nodes ++ [⟨5, 0, 0, -1⟩])) ∧ Aside (Below w.heap.size w w3) ∧ Aside (Sl knode w3 ok v nodes) := by
  have ho : w3.ownsRow B 42 4 v3 (nodes ++ [(⟨5, 0, 0, -1⟩ : Node)]).length (nodeCells (nodes ++ [⟨5, 0, 0, -1⟩])) := by rw [nodeCells_snoc, List.length_append]; exact hown
  have hsl := (own_nodes ho).sl
  have hb3 : Below w.heap.size w w3 := hb.grown hg hb.size fun q e => Nat.le_trans hB (hr.lt q e).1
  have hs3 : Sl knode w3 ok v nodes := hs.step fun k hk hlt => hg.block k hlt fun e => by
    have := (hr.lt k e.symm).1
    have := hok k hk
    omega
  rcases hown.2 with ⟨_, hn⟩ | ⟨g, cap, cur, rfl, _, _, h1, h2, _⟩
  · omega
  · exact ⟨g, cap, rfl, h1, by simpa only [maxLen] using h2, ⟨by simpa using hsl⟩, ⟨hb3⟩, ⟨hs3⟩⟩
def LawPost (w : World) (e : Ending) (w' : World) : Prop := e = .returned (.bool true) ∧ Below w.heap.size w w'
set_option maxHeartbeats 4000000 in
set_option maxRecDepth 100000 in
theorem NestLevels_any {w : World} {v : Value} {nodes : List Node} {k i : Int} (hs : Sl knode w (fun _ => True) v nodes) : Calls Try.prog 4 #[v, .int .i64 k, .int .i64 i] w (LawPost w) := by
  obtain ⟨A, c, rfl, hc, hm⟩ := hs.slice
  have HS := Aside.mk hs.bound
  clear hs
  go_enter Try.func4, Try.ntmps4
  go_wp2_with fail
  refine (first_any w).mono ?_
  rintro e w1 ⟨rfl, B1⟩
  have HB1 := Aside.mk B1
  clear B1
  by_cases hl : nodes.length ≤ 16384
  · have d1 : decide (16384 < (nodes.length : Int)) = false := by simp; omega
    go_wp2_with fail
    refine (Nodes_any (HS.out.below HB1.out) (by omega)).mono ?_
    rintro e w2 ⟨v2, rfl, h2, B2⟩
    have HB2 := Aside.mk (bthen HB1.out HB1.out.size B2)
    have HR := Aside.mk h2
    have HZ := Aside.mk (And.intro B2.size HB1.out.size)
    have HSw := Aside.mk (HS.out.below HB2.out)
    clear B2 h2 HB1
    go_wp2_with (at_builtin; go_must (refine app_one w1.heap.size rfl _ _ 30 42 _ 4 32 rfl Try.underlying30 Try.info42 rfl (by decide) (by decide) v2 nodes.length _ [.int .i64 5, .int .i64 0, .int .i64 0, .int .i64 (-1)] rfl rfl rfl (by simp [Value.oneCell']) HR.out HZ.out.1 (by omega) ?_; intro v3 w3 hown hg hat; obtain ⟨g, c3, rfl, hc3, hm3, HO, HB3, HS3⟩ := grown_row HSw.out HB2.out HR.out hown hg HZ.out.2 (fun k hk => Nat.lt_of_lt_of_le hk.2 HZ.out.2); clear hown hg hat HR HZ HSw HB2))
    have d2 : decide ((nodes.length : Int) + 1 ≤ c3) = true := by simp; omega
    have HC := Aside.mk (HO.out.cut (n' := nodes.length) (c' := nodes.length + 1) (by omega) (by omega) (by omega))
    rw [List.take_left] at HC
    refine (Level_any HC.out (by omega)).mono ?_
    rintro e w4 ⟨v4, rfl, h4, B4⟩
    have HB4 := Aside.mk (bthen HB3.out HB3.out.size B4)
    have HO4 := Aside.mk (HO.out.below B4)
    have HS4 := Aside.mk (HS3.out.below B4)
    have HC4 := Aside.mk (HC.out.below B4)
    have HA4 := Aside.mk (own_ints h4).sl
    clear h4 B4 HB3 HO HS3 HC
    go_wp2_with fail
    refine (Up_any HC4.out (by omega)).mono ?_
    rintro e w5 ⟨v5, rfl, h5, B5⟩
    have HB5 := Aside.mk (bthen HB4.out HB4.out.size B5)
    have HO5 := Aside.mk (HO4.out.below B5)
    have HS5 := Aside.mk (HS4.out.below B5)
    have HA5 := Aside.mk (HA4.out.below B5)
    have HU5 := Aside.mk (own_ints h5).sl
    clear h5 B5 HB4 HO4 HS4 HC4 HA4
    go_wp2_with fail
    have HC := Aside.mk (HO5.out.cut (n' := nodes.length) (c' := c3) (by omega) (by omega) (by omega))
    rw [List.take_left] at HC
    refine (SameNodes_any HC.out HS5.out).mono ?_
    rintro e w6 ⟨rfl, S6⟩
    rw [eqB_yes rfl]
    have B6 := S6.below w5.heap.size
    have HB6 := Aside.mk (bthen HB5.out HB5.out.size B6)
    have HS6 := Aside.mk (HS5.out.below B6)
    have HA6 := Aside.mk (HA5.out.below B6)
    have HU6 := Aside.mk (HU5.out.below B6)
    obtain ⟨g', o', e, k5, _⟩ := (HO5.out.below B6).node nodes.length (by simp)
    cases e
    rw [List.getElem_concat_length rfl, Nat.zero_add] at k5
    clear S6 B6 HB5 HS5 HA5 HU5 HC HO5
    go_wp2_with fail
    refine (refLevel_any HS6.out (by omega)).mono ?_
    rintro e w7 ⟨v7, rfl, h7, B7⟩
    have HB7 := Aside.mk (bthen HB6.out HB6.out.size B7)
    have HS7 := Aside.mk (HS6.out.below B7)
    have HU7 := Aside.mk (HU6.out.below B7)
    have hsame := SameInts_any (HA6.out.below B7) (own_ints h7).sl
    clear h7 B7 HB6 HS6 HA6 HU6 k5
    go_wp2_with fail
    refine hsame.mono ?_
    clear hsame
    rintro e w8 ⟨rfl, S8⟩
    rw [eqB_yes rfl]
    have B8 := S8.below w7.heap.size
    have HB8 := Aside.mk (bthen HB7.out HB7.out.size B8)
    have HS8 := Aside.mk (HS7.out.below B8)
    have HU8 := Aside.mk (HU7.out.below B8)
    clear S8 B8 HB7 HS7 HU7
    go_wp2_with fail
    refine (refUp_any HS8.out (by omega)).mono ?_
    rintro e w9 ⟨v9, rfl, h9, B9⟩
    have HB9 := Aside.mk (bthen HB8.out HB8.out.size B9)
    have hsame := SameInts_any (HU8.out.below B9) (own_ints h9).sl
    clear h9 B9 HB8 HS8 HU8
    go_wp2_with fail
    refine hsame.mono ?_
    clear hsame
    rintro e w10 ⟨rfl, S10⟩
    rw [eqB_yes rfl]
    have HB10 := Aside.mk (bthen HB9.out HB9.out.size (S10.below _))
    clear S10 HB9
    go_wp2_with fail
    go_ret
    exact ⟨rfl, HB10.out⟩
  · have d1 : decide (16384 < (nodes.length : Int)) = true := by simp; omega
    go_wp2_with fail
    go_ret
    exact ⟨rfl, HB1.out⟩
end Go.Proofs.Ytikgdhmnnnicmaa
