/- made walked: the graph of pairs and its lists, or nil; nest.Forest at a wrong number of numbers. No condition. -/
import Derived.Test.YtikgdhmnnnicmaaTo
import Derived.Test.YtikgdhmnnnicmaaW
import Derived.Test.YtikgdhmnnnicmaaV
namespace Go.Proofs.Ytikgdhmnnnicmaa
open Go.RowKit
def MadePost (w : World) (n : Int) (ps : List Pair) (e : Ending) (w' : World) : Prop :=
  ((0 ≤ n ∧ n ≤ 300 ∧ ps.length ≤ 20000) → ∃ (N g : Nat) (qs : List Pair) (tv : Value), n = (N : Int) ∧ among N qs ∧ qs.length ≤ 20000 ∧ e = .returned (.tuple #[.pointer (some ⟨g, 0, none⟩), tv]) ∧ GraphIs w' (w.heap.size ≤ ·) (.pointer (some ⟨g, 0, none⟩)) N (adjOf N qs) ∧ Sl (kslice kint) w' (w.heap.size ≤ ·) tv (toS N (marksP N qs))) ∧
  (¬ (0 ≤ n ∧ n ≤ 300 ∧ ps.length ≤ 20000) → e = .returned (.tuple #[.pointer none, .slice none 0 0])) ∧ Below w.heap.size w w'
set_option maxHeartbeats 4000000 in
set_option maxRecDepth 100000 in
theorem made_any {w : World} {ok : Nat → Prop} {v : Value} {ps : List Pair} (n : Int) (hs : Sl kpair w ok v ps) : Calls Try.prog 11 #[.int .i64 n, v] w (MadePost w n ps) := by
  obtain ⟨A, c, rfl, hc, hm⟩ := hs.slice
  have HS := Aside.mk hs
  have hsm := Small_any n hs
  clear hs
  go_enter Try.func11, Try.ntmps11
  go_wp2_with fail
  refine hsm.mono ?_
  clear hsm
  rintro e w' ⟨b, rfl, hb, rfl⟩
  cases b with
  | false =>
    have hno : ¬ (0 ≤ n ∧ n ≤ 300 ∧ ps.length ≤ 20000) := fun h => by
      have := hb.2 ⟨h.1, by omega, h.2.2⟩
      cases this
    have HP : Aside (MadePost w n ps (.returned (.tuple #[.pointer none, .slice none 0 0])) w) := ⟨⟨fun h => absurd h hno, fun _ => rfl, Below.refl _ _⟩⟩
    clear hb hno
    go_wp2
    go_ret2
    exact HP.out
  | true =>
    obtain ⟨h0, h1, h2⟩ := hb.1 rfl
    by_cases h3 : n ≤ 300
    · have d3 : decide (300 < n) = false := decide_eq_false (by omega)
      obtain ⟨N, rfl⟩ := Int.eq_ofNat_of_zero_le h0
      have ham := Among_any N HS.out (by omega) h2
      have HN : Aside (N ≤ 300) := ⟨by omega⟩
      have HL := Aside.mk h2
      clear hb h0 h1 h2 h3
      go_wp2_with fail
      refine ham.mono ?_
      clear ham
      rintro e w1 ⟨v1, qs, rfl, hq, hql, ho, hB1⟩
      have HQ := Aside.mk hq
      have HQL : Aside (qs.length ≤ 20000) := ⟨by have := HL.out; omega⟩
      have hsl := (own_pairs ho).sl
      have hmake := Make_any N (by have := HN.out; omega) hsl (by have := HL.out; omega) hq
      have HSL := Aside.mk hsl
      have HB1 := Aside.mk hB1
      clear hq hql ho hsl hB1
      go_wp2_with fail
      refine hmake.mono ?_
      clear hmake
      rintro e w2 ⟨gv, rfl, hB2, hG⟩
      obtain ⟨gb, hgb⟩ : ∃ gb, gv = .pointer (some ⟨gb, 0, none⟩) := by obtain ⟨gb, _, _, e, _⟩ := hG; exact ⟨gb, e⟩
      subst hgb
      have hto := To_any (HSL.out.below hB2) (by have := HN.out; omega) HQ.out
      have HG := Aside.mk hG
      have HB2 := Aside.mk (bthen HB1.out HB1.out.size hB2)
      clear hG hB2 HSL
      go_wp2_with fail
      refine hto.mono ?_
      clear hto
      rintro e w3 ⟨tv, rfl, ht, hB3⟩
      have HP : Aside (MadePost w N ps (.returned (.tuple #[.pointer (some ⟨gb, 0, none⟩), tv])) w3) := ⟨⟨fun _ => ⟨N, gb, qs, tv, rfl, HQ.out, HQL.out, rfl, (HG.out.below hB3).mono fun q hq => Nat.le_trans HB1.out.size hq, ht.mono fun q hq => Nat.le_trans HB2.out.size hq⟩, fun h => absurd ⟨by omega, by have := HN.out; omega, HL.out⟩ h, bthen HB2.out HB2.out.size hB3⟩⟩
      clear ht hB3 HG HB2
      go_wp2
      go_ret2
      exact HP.out
    · have d3 : decide (300 < n) = true := decide_eq_true (by omega)
      have HP : Aside (MadePost w n ps (.returned (.tuple #[.pointer none, .slice none 0 0])) w) := ⟨⟨fun h => absurd h.2.1 h3, fun _ => rfl, Below.refl _ _⟩⟩
      clear hb h0 h1 h2 h3
      go_wp2
      go_ret2
      exact HP.out
/-- The first places of a list. -/
theorem Sl.cutK {α : Type} {K : Kind α} {w : World} {ok : Nat → Prop} {b n c n' c' : Nat} {xs : List α} (h : Sl K w ok (.slice (some ⟨b, 0, none⟩) n c) xs) (hn : n' ≤ n) (hc : n' ≤ c') (hm : c' ≤ 9223372036854775807) : Sl K w ok (.slice (some ⟨b, 0, none⟩) n' c') (xs.take n') := by
  obtain ⟨A', c0, e, h1, h2, h3⟩ := h
  cases e
  have hl : (xs.take n').length = n' := by simp; omega
  refine ⟨some ⟨b, 0, none⟩, c', by rw [hl], by rw [hl]; exact hc, hm, fun hp => ?_⟩
  obtain ⟨b', o, e, h4, h5, h6⟩ := h3 (by omega)
  cases e
  refine ⟨b, 0, rfl, h4, h5, fun i x hx => h6 i x ?_⟩
  rw [List.getElem?_take] at hx
  split at hx
  · exact hx
  · cases hx
theorem mod_in2 (U : Int) (n : Nat) (h0 : 0 < n) (hn : n ≤ 16777216) : 0 ≤ (wrap64 (U.tmod n + n)).tmod n ∧ (wrap64 (U.tmod n + n)).tmod n < n := by
  have h1 : U.tmod n < n := Int.tmod_lt_of_pos _ (by omega)
  have h2 : -(n : Int) < U.tmod n := Int.lt_tmod_of_pos U (show 0 < (n : Int) by omega)
  rw [Go.IntWalk.wrap64_in _ (by omega)]
  exact ⟨Int.tmod_nonneg _ (by omega), Int.tmod_lt_of_pos _ (by omega)⟩
def ForestNo (w : World) (e : Ending) (w' : World) : Prop := e = .returned (.tuple #[.slice none 0 0, .int .i64 191]) ∧ Below w.heap.size w w'
attribute [local go_sem] Oper.semAt_some
set_option maxHeartbeats 4000000 in
set_option maxRecDepth 100000 in
theorem Forest_len {w : World} {ok ok2 : Nat → Prop} {gv cv : Value} {n : Nat} {adj : List (List Int)} {cs : List Int} (hG : GraphIs w ok gv n adj) (hc : Sl kint w ok2 cv cs) (hn : cs.length ≠ n) : Calls Try.prog 13 #[gv, cv] w (ForestNo w) := by
  obtain ⟨A, c, rfl, hc1, hm1⟩ := hc.slice
  obtain ⟨g0, hg0⟩ : ∃ g0, gv = .pointer (some ⟨g0, 0, none⟩) := by obtain ⟨g0, _, _, e, _⟩ := hG; exact ⟨g0, e⟩
  subst hg0
  refine (callsIn_wide (n := 6)).1 ?_
  refine callsIn_of_wp_marks Try.func13 rfl trivial ?_
  simp only [Try.ntmps13, List.size_toArray, List.length_cons, List.length_nil, Nat.reduceAdd, Nat.reduceSub, Array.replicate_succ, Array.replicate_zero, List.push_toArray, List.append_toArray, List.nil_append, List.cons_append]
  refine wpIn_wide.2 ?_
  have hb0 : Below w.heap.size w (w.alloc (.cells #[.pointer (some ⟨g0, 0, none⟩)] 25)) := (Below.refl _ w).alloc (Nat.le_refl _) _
  have hcon := N_any (hG.below hb0)
  have HB0 := Aside.mk hb0
  obtain ⟨d1, d2, d3, d4⟩ := natNe hn
  clear hG hc hb0 hn
  go_wp2_with fail
  refine hcon.mono ?_
  clear hcon
  rintro e w1 ⟨rfl, hw1⟩
  cases hw1
  go_wp2
  exact ⟨_, by simp [results, Try.results13, go_sem], rfl, HB0.out⟩
/-- Every Forest. -/
def ForestAll (w : World) (n : Nat) (cs : List Int) (out : List Node) (e : Ending) (w' : World) : Prop :=
  ((good cs ∧ cs.length = n) → ∃ v, e = .returned (.tuple #[v, .int .i64 0]) ∧ w'.ownsRow w.heap.size 42 4 v out.length (nodeCells out)) ∧ (¬ (good cs ∧ cs.length = n) → e = .returned (.tuple #[.slice none 0 0, .int .i64 191])) ∧ Below w.heap.size w w'
theorem adj_row_le {n : Nat} {ps : List Pair} (hp : ps.length ≤ 16777216) : ∀ l ∈ adjOf n ps, l.length ≤ 16777216 := fun l hl => by
  unfold adjOf rowsOf at hl
  rw [List.map_map] at hl
  obtain ⟨v, _, rfl⟩ := List.mem_map.1 hl
  show (sorted (nbOf ((edgesOf ps).map (·.1)) (v : Int))).length ≤ _
  rw [sorted_length]
  have h1 := nbOf_length ((edgesOf ps).map (·.1)) (v : Int)
  have h2 := edges_length ps []
  have h3 : (edgesOf ps).length ≤ ps.length := by simpa [edgesOf] using h2
  rw [List.length_map] at h1
  omega
theorem Forest_all {w : World} {ok ok2 : Nat → Prop} {gv cv : Value} {n : Nat} {ps : List Pair} {cs : List Int} (hG : GraphIs w ok gv n (adjOf n ps)) (hc : Sl kint w ok2 cv cs) (hn : n ≤ 16777216) (ha : among n ps) (hp : ps.length ≤ 16777216) :
    Calls Try.prog 13 #[gv, cv] w (ForestAll w n cs (nestS n ps cs)) := by
  by_cases hl : cs.length = n
  · have had := adjOf_adj ha
    have hadj : ∀ l ∈ adjOf n ps, l.length ≤ 16777216 ∧ ∀ u ∈ l, 0 ≤ u ∧ u < n := fun l h => ⟨adj_row_le hp l h, had.ok l h⟩
    refine (Forest_any (K := n) (out := nestS n ps cs) hG had.len hadj hc hl hn fun _ => (forests_ok ha hn (Nat.le_refl _) hl).1).mono fun e w' h => ?_
    exact ⟨fun q => h.1 q.1, fun q => h.2.1 fun g => q ⟨g, hl⟩, h.2.2⟩
  · exact (Forest_len hG hc hl).mono fun e w' h => ⟨fun q => absurd q.2 hl, fun _ => h.1, h.2⟩
end Go.Proofs.Ytikgdhmnnnicmaa
