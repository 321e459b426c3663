/- graph.N, graph.Neighbours, slices.Clone of whole numbers: what they hand back. No condition. -/
import Derived.Test.YtikgdhmnnnicmaaDoorH
import Derived.Test.YtikgdhmnnnicmaaDoorU
namespace Go.Proofs.YtikgdhmnnnicmaaDoor
open Go.RowKit
/-- What a clone hands back: a new slice that reads the same. -/
def CopyPost {α : Type} (K : Kind α) (e : TypeId) (w : World) (xs : List α) (r : Ending) (w' : World) : Prop := ∃ v, r = .returned v ∧ Own K e w' w.heap.size v xs ∧ Below w.heap.size w w'
theorem clone_int {w : World} {ok : Nat → Prop} {v : Value} {xs : List Int} (hx : Sl kint w ok v xs) (hl : xs.length * 8 ≤ 140737488355328) :
    Calls Tryd.prog 51 #[v] w (CopyPost kint 3 w xs) := by
  obtain ⟨A, c, rfl, hc, hm⟩ := hx.slice
  cases A with
  | none =>
    refine (Tryd.slices_Clone_int_nil xs.length c w).mono ?_
    rintro e w' ⟨rfl, rfl⟩
    have h0 : xs = [] := by
      obtain ⟨A', c', e, _, _, h⟩ := hx
      cases e
      by_cases h0 : 0 < xs.length
      · obtain ⟨b, o, e, _⟩ := h h0
        cases e
      · exact List.eq_nil_of_length_eq_zero (by omega)
    subst h0
    exact ⟨_, rfl, Own.nil _ _ _ _, Below.refl _ _⟩
  | some a =>
    by_cases h0 : xs.length = 0
    · rw [h0]
      refine (Tryd.slices_Clone_int_zero a c w).mono ?_
      rintro e w' ⟨v', rfl, h1, _, h2⟩
      obtain rfl := List.eq_nil_of_length_eq_zero h0
      exact ⟨_, rfl, own_ints (by simpa [ints] using h1), h2⟩
    · obtain ⟨b, o, e, hc0⟩ := hx.int 0 (by omega)
      cases e
      refine (Tryd.slices_Clone_int b o xs.length c xs w (Nat.le_refl _) hl fun j hj => ?_).mono ?_
      · obtain ⟨b', o', e, h⟩ := hx.int j hj
        cases e
        simpa [hj] using h
      · rintro e w' ⟨v', rfl, h1, _, h2⟩
        exact ⟨_, rfl, own_ints (by simpa [ints] using h1), h2⟩
set_option maxHeartbeats 1000000 in
set_option maxRecDepth 100000 in
theorem N_any {w : World} {ok : Nat → Prop} {gv : Value} {n : Nat} {adj : List (List Int)} (hG : GraphIs w ok gv n adj) : Calls Tryd.prog 29 #[gv] w fun e w' => e = .returned (.int .i64 n) ∧ w = w' := by
  obtain ⟨gb, mv, tv, rfl, h0, h1, h2⟩ := hG
  have c0 : w.cell? ⟨gb, 0, none⟩ = some (.int .i64 n) := cell_blk h1 rfl
  clear h0 h1 h2
  go_enter Tryd.func29, Tryd.ntmps29
  go_wp2
  go_ret
  exact ⟨rfl, rfl⟩
set_option maxHeartbeats 1000000 in
set_option maxRecDepth 100000 in
theorem Neighbours_any {w : World} {ok : Nat → Prop} {gv : Value} {n v : Nat} {adj : List (List Int)} (hG : GraphIs w ok gv n adj) (hv : v < n) (hn : adj.length = n) (hl : adj[v].length * 8 ≤ 140737488355328) :
    Calls Tryd.prog 42 #[gv, .int .i64 v] w (CopyPost kint 3 w adj[v]) := by
  obtain ⟨gb, mv, tv, rfl, h0, h1, h2⟩ := hG
  obtain ⟨A, c, rfl, hc, hm⟩ := h2.slice
  have c0 : w.cell? ⟨gb, 0, none⟩ = some (.int .i64 n) := cell_blk h1 rfl
  have c2 : w.cell? ⟨gb, 2, none⟩ = some (.slice A adj.length c) := cell_blk h1 rfl
  obtain ⟨b, o, rv, e, cr, hr⟩ := h2.row v (by omega)
  cases e
  have hcon := clone_int hr hl
  have hv1 : v < adj.length := by omega
  clear h0 h1 h2 hr hl
  go_enter Tryd.func42, Tryd.ntmps42
  go_wp2_with fail
  refine (is_yes v n _ (by omega) (by omega)).mono ?_
  rintro e w1 ⟨rfl, rfl⟩
  go_wp2_with fail
  refine hcon.mono ?_
  rintro e w1 ⟨v', rfl, h1, h2⟩
  go_wp2_with fail
  go_ret
  exact ⟨v', rfl, h1, h2⟩
end Go.Proofs.YtikgdhmnnnicmaaDoor
